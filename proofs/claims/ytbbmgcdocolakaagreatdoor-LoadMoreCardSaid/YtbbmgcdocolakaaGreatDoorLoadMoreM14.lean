/-
  Part 14 of the proof of LoadMore: MapW, RowsL, OdM, GrM.
-/
import Derived.WalkKit
import Derived.Maps.Ext
import Derived.Maps.OwnOps
import Derived.Maps.RangeWalk
import Derived.Test.YtbbmgcdocolakaaGreatDoorLoadMoreM2
import Derived.RangeFuncFrom
import Derived.DeepKeys4
import Derived.Test.YtbbmgcdocolakaaGreatDoorLoadMoreM1
set_option linter.unusedVariables false
/-
  Maps keyed by ints, in one word: block b holds these entries, by rising key, whatever their values are; the laws of look-up, store and range in that word.
-/
namespace Go.Proofs.YtbbmgcdocolakaaGreatDoor
open Go.RowKit Go.Maps
set_option linter.unusedVariables false
set_option linter.unusedSectionVars false

def rawR (v : Value) : Option (DataW Value × List MemPlace) := some (.held v, [])
def enK (p : Int × Value) : Lit × DataW Value := (.int .i64 p.1, .held p.2)
def asD (es : List (Int × Value)) : DataW Value := .map (es.map enK)
/-- Block b is a map that holds just the entries es. -/
def MapI (P : Program) (kT : TypeId) (w : World) (b : Nat) (es : List (Int × Value)) : Prop := w.ownsMap P kT rawR b es.length (asD es)
def atI (es : List (Int × Value)) (x : Int) : Option Value := (es.find? fun p => decide (p.1 = x)).map (·.2)
def putI (es : List (Int × Value)) (x : Int) (v : Value) : List (Int × Value) := (es.filter fun p => decide (p.1 < x)) ++ (x, v) :: es.filter fun p => decide (x < p.1)
def IncK (es : List (Int × Value)) : Prop := es.Pairwise fun p q => p.1 < q.1

theorem atI_none {es : List (Int × Value)} {x : Int} : atI es x = none ↔ x ∉ es.map (·.1) := by
  unfold atI
  rw [Option.map_eq_none_iff, List.find?_eq_none]
  constructor
  · intro h hm
    obtain ⟨p, hp, rfl⟩ := List.mem_map.1 hm
    exact h p hp (by simp)
  · intro h p hp hx
    exact h (List.mem_map.2 ⟨p, hp, of_decide_eq_true hx⟩)
theorem atI_mem {es : List (Int × Value)} {x : Int} {v : Value} (h : atI es x = some v) : (x, v) ∈ es := by
  unfold atI at h
  obtain ⟨p, hp, rfl⟩ := Option.map_eq_some_iff.1 h
  have h1 := List.find?_some hp
  have h2 := List.mem_of_find?_eq_some hp
  rw [show (x, p.2) = p from Prod.ext (of_decide_eq_true h1).symm rfl]
  exact h2
theorem inc_key {es : List (Int × Value)} (hI : IncK es) : ∀ {p q : Int × Value}, p ∈ es → q ∈ es → p.1 = q.1 → p = q := by
  induction es with
  | nil => intro p q hp; cases hp
  | cons e es ih =>
    obtain ⟨h1, h2⟩ := List.pairwise_cons.1 hI
    intro p q hp hq he
    rcases List.mem_cons.1 hp with e1 | hp'
    · rcases List.mem_cons.1 hq with e2 | hq'
      · rw [e1, e2]
      · have := h1 q hq'; rw [e1] at he; omega
    · rcases List.mem_cons.1 hq with e2 | hq'
      · have := h1 p hp'; rw [e2] at he; omega
      · exact ih h2 hp' hq' he
theorem atI_of_mem {es : List (Int × Value)} (hI : IncK es) {p : Int × Value} (hp : p ∈ es) : atI es p.1 = some p.2 := by
  cases h : atI es p.1 with
  | none => exact absurd (List.mem_map.2 ⟨p, hp, rfl⟩) (atI_none.1 h)
  | some v =>
    have := inc_key hI (atI_mem h) hp rfl
    rw [← this]

theorem lit_i64 {x : Int} (h1 : -9223372036854775808 ≤ x) (h2 : x ≤ 9223372036854775807) : (Lit.int .i64 x).wf = true := WalkArith.wf_i64 (by omega)

section
variable {P : Program} {kT : TypeId} {w w' : World} {b : Nat} {es : List (Int × Value)}

theorem has_asD (x : Int) : Maps.has (asD es) (.int .i64 x) = (atI es x).isSome := by
  unfold asD atI
  rw [Maps.has_eq, List.any_map, Option.isSome_map]
  induction es with
  | nil => rfl
  | cons p r ih =>
    rw [List.any_cons, List.find?_cons, ih]
    by_cases h : p.1 = x
    · simp [enK, Lit.sameKey, h]
    · simp [enK, Lit.sameKey, h]
theorem atKey_asD (x : Int) (z : Value) : (asD es).atKey (.int .i64 x) (.held z) = .held ((atI es x).getD z) := by
  unfold asD atI DataW.atKey
  simp only
  induction es with
  | nil => rfl
  | cons p r ih =>
    rw [List.map_cons, List.find?_cons, List.find?_cons]
    by_cases h : p.1 = x
    · simp [enK, Lit.sameKey, h]
    · have e1 : (enK p).1.sameKey (.int .i64 x) = false := by simp [enK, Lit.sameKey, h]
      rw [e1]
      simp only [h, decide_false]
      exact ih
theorem ins_asD (x : Int) (v : Value) : ∀ {es : List (Int × Value)}, IncK es → DataW.insert (enK (x, v)) ((es.map enK).filter fun p => !p.1.sameKey (.int .i64 x)) = (putI es x v).map enK
  | [], _ => rfl
  | p :: r, hI => by
    obtain ⟨h1, h2⟩ := List.pairwise_cons.1 hI
    have ih := ins_asD x v h2
    rcases Int.lt_trichotomy p.1 x with h | h | h
    · have e1 : (!(enK p).1.sameKey (.int .i64 x)) = true := by simp [enK, Lit.sameKey]; omega
      have e2 : (enK (x, v)).1.before (enK p).1 = false := by simp [enK, Lit.before]; omega
      have e3 : ¬ x < p.1 := by omega
      have e4 : putI (p :: r) x v = p :: putI r x v := by simp [putI, h, e3]
      rw [List.map_cons, List.filter_cons_of_pos (p := fun q : Lit × DataW Value => !q.1.sameKey (.int .i64 x)) e1, DataW.insert, e2, e4, List.map_cons]
      simp only [Bool.false_eq_true, if_false]
      rw [ih]
    · have e1 : ¬ (!(enK p).1.sameKey (.int .i64 x)) = true := by simp [enK, Lit.sameKey]; omega
      have e4 : putI (p :: r) x v = putI r x v := by
        have a1 : ¬ p.1 < x := by omega
        have a2 : ¬ x < p.1 := by omega
        simp [putI, a1, a2]
      rw [List.map_cons, List.filter_cons_of_neg (p := fun q : Lit × DataW Value => !q.1.sameKey (.int .i64 x)) e1, ih, e4]
    · have e1 : (!(enK p).1.sameKey (.int .i64 x)) = true := by simp [enK, Lit.sameKey]; omega
      have e2 : (enK (x, v)).1.before (enK p).1 = true := by simp [enK, Lit.before]; omega
      have hf1 : (r.map enK).filter (fun q => !q.1.sameKey (.int .i64 x)) = r.map enK := List.filter_eq_self.2 fun q hq => by
        obtain ⟨s, hs, rfl⟩ := List.mem_map.1 hq
        have := h1 s hs
        simp [enK, Lit.sameKey]; omega
      have hf2 : r.filter (fun q => decide (q.1 < x)) = [] := List.filter_eq_nil_iff.2 fun s hs => by
        have := h1 s hs
        simp; omega
      have hf3 : r.filter (fun q => decide (x < q.1)) = r := List.filter_eq_self.2 fun s hs => by
        have := h1 s hs
        simp; omega
      have a1 : ¬ p.1 < x := by omega
      have e4 : putI (p :: r) x v = (x, v) :: p :: r := by simp [putI, h, a1, hf2, hf3]
      rw [List.map_cons, List.filter_cons_of_pos (p := fun q : Lit × DataW Value => !q.1.sameKey (.int .i64 x)) e1, hf1, DataW.insert, e2, e4]
      simp
theorem put_asD (hI : IncK es) (x : Int) (v : Value) : (asD es).put (.int .i64 x) (.held v) = asD (putI es x v) := by
  unfold asD DataW.put
  exact congrArg DataW.map (ins_asD x v hI)

theorem MapI.of_owns {n : Nat} (h : w.ownsMap P kT rawR b n (asD es)) : MapI P kT w b es := by
  obtain ⟨es', clock, hb, F, hs, hD⟩ := h
  refine ⟨es', clock, hb, F, ?_, hD⟩
  have h1 : (es.map enK) = _ := DataW.map.inj hD
  have h2 := congrArg List.length h1
  rw [List.length_map, length_read] at h2
  omega
theorem MapI.made (P : Program) (kT : TypeId) (w : World) : MapI P kT (w.alloc (.map #[] 0)) w.heap.size [] := World.ownsMap_made w P kT rawR
theorem MapI.inc (hk : P.underlying kT = some (.int .i64)) (h : MapI P kT w b es) : IncK es := by
  obtain ⟨es', h1, h2, _⟩ := World.ownsMap.canon h (int_keyed hk)
  obtain rfl : es.map enK = es' := DataW.map.inj h1
  exact (List.pairwise_map.1 h2).imp fun {p q} hpq => by simpa [enK, Lit.before] using hpq
theorem MapI.kept {row : Option Nat} (h : MapI P kT w b es) (hg : w.grownBy w' row) (hne : some b ≠ row) : MapI P kT w' b es := World.ownsMap.kept h hg hne
theorem MapI.keep (h : MapI P kT w b es) (hb : Below w.heap.size w w') : MapI P kT w' b es := by
  have hlt := World.ownsMap.lt h
  obtain ⟨es', clock, h1, F, hs, hD⟩ := h
  exact ⟨es', clock, (hb.block b hlt).trans h1, F, hs, hD⟩
theorem MapI.lt (h : MapI P kT w b es) : b < w.heap.size := World.ownsMap.lt h
theorem MapI.isMap (h : MapI P kT w b es) : ∃ es' clock, w.heap[b]? = some (.map es' clock) := by
  obtain ⟨es', clock, h1, _⟩ := h
  exact ⟨es', clock, h1⟩
end

section
variable {P : Program} (w : World) {ops : Array Oper} {rest : List Oper} {o : Oper} {a : Act} {Q : Exit → Act → World → Prop} {kT : TypeId}

/-- 'm[k]'. -/
theorem wpList_lookI (hg : o.guard = none) (m x : Operand) (t : TypeId) (hop : o.op = Op.lookup t m x false) (e : TypeId) (hk : P.underlying kT = some (.int .i64)) (ht : P.underlying t = some (.map kT e))
    (z : Value) (hz : (zeroValue e).run P w = .ok z w) (b : Nat) (es : List (Int × Value)) (hm : a.eval m = .map (some b)) (hown : MapI P kT w b es) (y : Int) (hx : a.eval x = .int .i64 y) (h1 : -9223372036854775808 ≤ y) (h2 : y ≤ 9223372036854775807)
    (hK : wpList P ops Q rest (a.put o.dst ((atI es y).getD z)) w) :
    wpList P ops Q (o :: rest) a w := by
  refine wpList_plain hg fun K' hK' => ?_
  obtain ⟨v, ps, hrun, hv⟩ := World.ownsMap.lookup hown (int_keyed hk) ht hz (zd := .held z) (zp := []) rfl (keyOf_int_mk hk (lit_i64 h1 h2))
  rw [atKey_asD] at hv
  obtain rfl : v = (atI es y).getD z := by
    have := (Prod.mk.inj (Option.some.inj hv)).1
    exact DataW.held.inj this
  unfold Oper.wp
  simp [execOp, hop, hm, hx, hrun, Result.andThen]
  exact hK' _ _ hK

/-- 'm[k] = v'. -/
theorem wpList_putI (hg : o.guard = none) (m x v : Operand) (t : TypeId) (hop : o.op = Op.mapUpdate t m x v) (e : TypeId) (hk : P.underlying kT = some (.int .i64)) (ht : P.underlying t = some (.map kT e))
    (b : Nat) (es : List (Int × Value)) (hm : a.eval m = .map (some b)) (hown : MapI P kT w b es) (hn : es.length < maxLen) (y : Int) (val : Value) (hx : a.eval x = .int .i64 y) (hv : a.eval v = val) (h1 : -9223372036854775808 ≤ y) (h2 : y ≤ 9223372036854775807)
    (hK : ∀ w', MapI P kT w' b (putI es y val) → w.grownBy w' (some b) → wpList P ops Q rest (a.put o.dst undef) w') :
    wpList P ops Q (o :: rest) a w := by
  refine wpList_mapUpdate_own w hg m x v t hop kT e (int_keyed hk) ht rawR b es.length (asD es) hm hown hn _ val _ hx hv (keyOf_int_mk hk (lit_i64 h1 h2)) (.held val) [] rfl fun w' hw' hgr => ?_
  rw [put_asD (MapI.inc hk hown)] at hw'
  exact hK w' (MapI.of_owns hw') hgr
end

section
/-- A range over the map in block b, its iterator in block r: done: what has come so far. -/
def RangesI (P : Program) (kT : TypeId) (w : World) (b r : Nat) (es done : List (Int × Value)) : Prop :=
  ∃ left cnt, w.ranges P kT rawR b r es.length (asD es) left cnt ∧ (∀ p ∈ es, (left (.int .i64 p.1) = true ↔ p ∉ done)) ∧ (∀ p ∈ done, p ∈ es) ∧ done.Nodup
variable {P : Program} {kT : TypeId} {w w' : World} {b r : Nat} {es done : List (Int × Value)}
theorem RangesI.map (h : RangesI P kT w b r es done) : MapI P kT w b es := by
  obtain ⟨left, cnt, h1, _⟩ := h
  exact h1.owns
theorem RangesI.kept {row : Option Nat} (h : RangesI P kT w b r es done) (hg : w.grownBy w' row) (hb : some b ≠ row) (hr : some r ≠ row) : RangesI P kT w' b r es done := by
  obtain ⟨left, cnt, h1, h2⟩ := h
  exact ⟨left, cnt, h1.kept hg hb hr, h2⟩
theorem RangesI.keep (h : RangesI P kT w b r es done) (hb : Below w.heap.size w w') : RangesI P kT w' b r es done := by
  obtain ⟨left, cnt, h1, h2⟩ := h
  have l1 := h1.owns.lt
  have l2 := h1.lt
  obtain ⟨es', clock, since, seen, c0, g1, F, hs, hD, g2, rest⟩ := h1
  exact ⟨left, cnt, ⟨es', clock, since, seen, c0, (hb.block b l1).trans g1, F, hs, hD, (hb.block r l2).trans g2, rest⟩, h2⟩
theorem RangesI.ltr (h : RangesI P kT w b r es done) : r < w.heap.size := by
  obtain ⟨left, cnt, h1, _⟩ := h
  exact h1.lt
theorem RangesI.done_perm (h : RangesI P kT w b r es done) (hk : P.underlying kT = some (.int .i64)) (hall : ∀ p ∈ es, p ∈ done) : done.Perm es := by
  have hI := h.map.inc hk
  obtain ⟨left, cnt, _, _, h3, h4⟩ := h
  have hes : es.Nodup := hI.imp fun {p q} hpq e => by subst e; omega
  exact (List.perm_ext_iff_of_nodup h4 hes).2 fun p => ⟨h3 p, hall p⟩
end

section
variable {P : Program} (w : World) {ops : Array Oper} {rest : List Oper} {o : Oper} {a : Act} {Q : Exit → Act → World → Prop} {kT : TypeId}
/-- 'range m'. -/
theorem wpList_rangeI (hg : o.guard = none) (m : Operand) (t : TypeId) (hop : o.op = Op.range t m) (e : TypeId) (hk : P.underlying kT = some (.int .i64)) (ht : P.underlying t = some (.map kT e)) (b : Nat) (es : List (Int × Value))
    (hm : a.eval m = .map (some b)) (hown : MapI P kT w b es)
    (hK : ∀ w', RangesI P kT w' b w.heap.size es [] → w.grownBy w' none → w'.heap.size = w.heap.size + 1 → wpList P ops Q rest (a.put o.dst (.pointer (some ⟨w.heap.size, 0, none⟩))) w') :
    wpList P ops Q (o :: rest) a w := by
  refine wpList_range_own w hg m t hop kT e (int_keyed hk) ht rawR b es.length (asD es) hm hown fun w' h1 h2 h3 => hK w' ⟨_, _, h1, (fun p hp => ?_), (fun p hp => absurd hp (by simp)), List.nodup_nil⟩ h2 h3
  rw [has_asD, atI_of_mem (MapI.inc hk hown) hp]
  simp

/-- The step. -/
theorem wpList_nextI (hg : o.guard = none) (it : Operand) (hop : o.op = Op.next it false) (hk : P.underlying kT = some (.int .i64)) (b r : Nat) (es done : List (Int × Value))
    (hit : a.eval it = .pointer (some ⟨r, 0, none⟩)) (h : RangesI P kT w b r es done)
    (hDone : done.Perm es → wpList P ops Q rest (a.put o.dst (.tuple #[.bool false])) w)
    (hMore : ∀ (p : Int × Value) (w' : World), p ∈ es → p ∉ done → RangesI P kT w' b r es (done ++ [p]) → w'.rangeLeft b r < w.rangeLeft b r → w.grownBy w' (some r) → w'.heap.size = w.heap.size →
      (Instr.entry (.pointer (some ⟨r, 0, none⟩))).run P w' = .ok (.tuple #[.int .i64 p.1, p.2]) w' → wpList P ops Q rest (a.put o.dst (.tuple #[.bool true, .int .i64 p.1, p.2])) w') :
    wpList P ops Q (o :: rest) a w := by
  have hI := h.map.inc hk
  have hperm := fun hall => h.done_perm hk hall
  obtain ⟨left, cnt, hrg, hleft, hsub, hnd⟩ := h
  refine wpList_next_ranges w hg it hop kT (int_keyed hk) rawR (Value.int .i64) id (fun key kl hkey => by obtain ⟨x, rfl, _⟩ := Maps.keyOf_int_inv hk hkey; exact ⟨x, rfl⟩) (fun v y hv => ⟨v, rfl⟩) b r es.length (asD es) left cnt hit hrg (fun _ hl => hDone (hperm fun p hp => ?_)) (fun x c kl y w' cnt' hkey hlk hv hat hrg' hlt hgr hsz hen => ?_)
  · have := hleft p hp
    rw [hl] at this
    simpa using this
  · obtain ⟨x', ex, rfl, hwx⟩ := Maps.keyOf_int_inv hk hkey
    cases ex
    have hhas : (atI es x).isSome = true := by rw [← has_asD]; exact Maps.has_true_of_atKey hat
    obtain ⟨v, hv'⟩ := Option.isSome_iff_exists.1 hhas
    have hc : c = v := by
      have h1 := hat (.held (.bool false))
      rw [atKey_asD, hv'] at h1
      have h2 := (Prod.mk.inj (Option.some.inj hv)).1
      rw [← h1] at h2
      exact DataW.held.inj h2
    subst hc
    have hp := atI_mem hv'
    have hnot : (x, c) ∉ done := fun hm => by
      exact (hleft _ hp).1 hlk hm
    refine hMore (x, c) w' hp hnot ⟨_, cnt', hrg', fun p hp' => ?_, fun p hp' => ?_, ?_⟩ (by rw [hrg'.left_eq, hrg.left_eq]; exact hlt) hgr hsz hen
    · show (left (.int .i64 p.1) && !(Lit.int .i64 p.1).sameKey (.int .i64 x)) = true ↔ _
      rw [Bool.and_eq_true, hleft p hp']
      by_cases hpx : p.1 = x
      · obtain rfl := inc_key hI hp' hp hpx
        simp [Lit.sameKey]
      · have hne : p ≠ (x, c) := fun e => hpx (by rw [e])
        simp [Lit.sameKey, hpx, hne]
    · rcases List.mem_append.1 hp' with h1 | h1
      · exact hsub p h1
      · obtain rfl := List.mem_singleton.1 h1
        exact hp
    · rw [List.nodup_append]
      exact ⟨hnd, by simp, fun p hp1 q hq => by obtain rfl := List.mem_singleton.1 hq; exact fun e => hnot (e ▸ hp1)⟩
end
end Go.Proofs.YtbbmgcdocolakaaGreatDoor
/-
  Rows of rows of ints: each inner list lies so.
-/
namespace Go.Proofs.YtbbmgcdocolakaaGreatDoor
open Go.RowKit
set_option maxRecDepth 100000
set_option linter.unusedVariables false

/-- A row's value; its list lies so. -/
def rv (t : Option Addr × Nat × List Int) : Value := .slice t.1 t.2.2.length t.2.1
def RowOK (w : World) (t : Option Addr × Nat × List Int) : Prop := Sl w 1 t.1 t.2.2.length (t.2.2.map (Value.int .i64)) ∧ t.2.2.length ≤ t.2.1 ∧ t.2.1 ≤ 9223372036854775807
theorem RowOK.keep {w w' : World} {t : Option Addr × Nat × List Int} (h : RowOK w t) (hb : Below w.heap.size w w') : RowOK w' t := ⟨h.1.keep hb, h.2⟩
theorem Sl.grownQ {w w' : World} {A : Option Addr} {n : Nat} {xs : List Value} {row : Option Nat} (h : Sl w 1 A n xs) (hg : w.grownBy w' row) (hA : ∀ x : Addr, A = some x → x.block < w.heap.size ∧ some x.block ≠ row) : Sl w' 1 A n xs := by
  refine ⟨h.1, fun hn => ?_⟩
  obtain ⟨b0, off, rfl, h2⟩ := h.2 hn
  refine ⟨b0, off, rfl, fun j v hj => ?_⟩
  exact (World.cell?_of_block (w := w) (a := ⟨b0, off + j, none⟩) (hg.block b0 (hA _ rfl).1 (hA _ rfl).2)).trans (h2 j v hj)
/-- The rows of a row of rows: each lies so, apart from the row itself. -/
def RowsOK (w : World) (nv : Value) (its : List (Option Addr × Nat × List Int)) : Prop := ∀ t ∈ its, RowOK w t ∧ ∀ x : Addr, t.1 = some x → x.block < w.heap.size ∧ some x.block ≠ nv.ownBlock
theorem RowsOK.keep {w w' : World} {nv : Value} {its : List (Option Addr × Nat × List Int)} (h : RowsOK w nv its) (hb : Below w.heap.size w w') : RowsOK w' nv its := fun t ht => ⟨(h t ht).1.keep hb, fun x hx => ⟨Nat.lt_of_lt_of_le ((h t ht).2 x hx).1 hb.size, ((h t ht).2 x hx).2⟩⟩
theorem RowsOK.grow {w w' : World} {nv nv' : Value} {its : List (Option Addr × Nat × List Int)} (h : RowsOK w nv its) (hg : Gr w w' nv nv') : RowsOK w' nv' its := fun t ht => by
  refine ⟨⟨(h t ht).1.1.grownQ hg.g (h t ht).2, (h t ht).1.2⟩, fun x hx => ?_⟩
  have h1 := (h t ht).2 x hx
  refine ⟨Nat.lt_of_lt_of_le h1.1 hg.size, fun e => ?_⟩
  rcases hg.at_ x.block e.symm with h3 | h3
  · exact h1.2 h3.symm
  · omega
theorem RowsOK.snoc {w : World} {nv : Value} {its : List (Option Addr × Nat × List Int)} {t : Option Addr × Nat × List Int} (h : RowsOK w nv its) (ht : RowOK w t ∧ ∀ x : Addr, t.1 = some x → x.block < w.heap.size ∧ some x.block ≠ nv.ownBlock) : RowsOK w nv (its ++ [t]) := fun u hu => by
  rcases List.mem_append.1 hu with hu | hu
  · exact h u hu
  · obtain rfl : u = t := by simpa using hu
    exact ht/-- Rows, each of which lies so. -/
def AllRows (w : World) (its : List (Option Addr × Nat × List Int)) : Prop := ∀ t ∈ its, RowOK w t
theorem AllRows.keep {w w' : World} {its : List (Option Addr × Nat × List Int)} (h : AllRows w its) (hb : Below w.heap.size w w') : AllRows w' its := fun t ht => (h t ht).keep hb
theorem its_row {its : List (Option Addr × Nat × List Int)} {k : Nat} (h : k < its.length) : ∃ D d l, its[k]? = some (D, d, l) ∧ (its.map (·.2.2))[k]? = some l :=
  ⟨its[k].1, its[k].2.1, its[k].2.2, by rw [List.getElem?_eq_getElem h], by rw [List.getElem?_map, List.getElem?_eq_getElem h]; rfl⟩
/-- A row of rows with one row more: a new one. -/
theorem rows_more {wr w5 w6 : World} {B j : Nat} {nv nv' : Value} {jts : List (Option Addr × Nat × List Int)} {g c : Nat} {l : List Int} {et : TypeId} (HO : wr.ownsRow B et 1 nv j (jts.map rv)) (HJ : RowsOK wr nv jts) (hb5 : Below wr.heap.size wr w5)
    (hit : RowOK w5 (some ⟨g, 0, none⟩, c, l)) (hg : wr.heap.size ≤ g) (hg5 : g < w5.heap.size) (hown6 : w6.ownsRow B et 1 nv' (j + 1) (jts.map rv ++ [rv (some ⟨g, 0, none⟩, c, l)])) (hgr : Gr w5 w6 nv nv') :
    w6.ownsRow B et 1 nv' (j + 1) ((jts ++ [((some ⟨g, 0, none⟩ : Option Addr), c, l)]).map rv) ∧ RowsOK w6 nv' (jts ++ [((some ⟨g, 0, none⟩ : Option Addr), c, l)]) := by
  refine ⟨by rw [List.map_append]; exact hown6, RowsOK.grow (RowsOK.snoc (HJ.keep hb5) ⟨hit, fun x hx => ?_⟩) hgr⟩
  cases hx
  refine ⟨hg5, fun (e : some g = nv.ownBlock) => ?_⟩
  have := (HO.lt g (Eq.symm e)).2
  omega
end Go.Proofs.YtbbmgcdocolakaaGreatDoor
/-
  An odag in memory: rows that are maps from ints to slices of ints; words for it.
-/
namespace Go.Proofs.YtbbmgcdocolakaaGreatDoor
open Go.RowKit Go.Maps
set_option maxRecDepth 100000
set_option linter.unusedVariables false
set_option linter.unusedSectionVars false

/-- A row plainly: its numbers, rising, each with its links. -/
abbrev Rw := List (Int × List Int)
def lkR (r : Rw) (a : Int) : List Int := ((r.find? fun p => decide (p.1 = a)).map (·.2)).getD []
def putR (r : Rw) (a : Int) (l : List Int) : Rw := (r.filter fun p => decide (p.1 < a)) ++ (a, l) :: r.filter fun p => decide (a < p.1)
theorem putR_len (r : Rw) (a : Int) (l : List Int) : (putR r a l).length ≤ r.length + 1 := by
  unfold putR
  have h : ∀ r : Rw, (r.filter fun p => decide (p.1 < a)).length + (r.filter fun p => decide (a < p.1)).length ≤ r.length := by
    intro r
    induction r with
    | nil => simp
    | cons p r ih =>
      rw [List.filter_cons, List.filter_cons]
      by_cases h1 : p.1 < a
      · have h2 : ¬ a < p.1 := by omega
        simp [h1, h2]
        omega
      · by_cases h2 : a < p.1
        · simp [h1, h2]
          omega
        · simp [h1, h2]
          omega
  have := h r
  simp
  omega

/-- An entry in memory: its number, where its links lie, the links. -/
abbrev ME := Int × Option Addr × Nat × List Int
def mv (e : ME) : Int × Value := (e.1, rv e.2)
def pl (e : ME) : Int × List Int := (e.1, e.2.2.2)
abbrev MapR (w : World) (b : Nat) (es : List (Int × Value)) : Prop := MapI Tryz.prog 3 w b es
/-- Block b is a map that reads as this row. -/
def MRow (w : World) (b : Nat) (r : Rw) : Prop := ∃ m : List ME, m.map pl = r ∧ MapR w b (m.map mv) ∧ ∀ e ∈ m, RowOK w e.2

theorem kInt : Tryz.prog.underlying 3 = some (.int .i64) := Tryz.underlying3

/-- Block b holds no cells: a map, an iterator. -/
def NC (w : World) (b : Nat) : Prop := ∃ o, w.heap[b]? = some o ∧ o.isCells = false
section
variable {w w' : World} {b b' : Nat} {r : Rw}
theorem NC.of_map {es : Array MapEntry} {cl : Nat} (h : w.heap[b]? = some (.map es cl)) : NC w b := ⟨_, h, rfl⟩
theorem NC.cell {a : Addr} {v : Value} (h : NC w b) (hc : w.cell? a = some v) : a.block ≠ b := fun e => by
  obtain ⟨o, h1, h2⟩ := h
  unfold World.cell? at hc
  rw [e, h1] at hc
  cases o <;> first | (cases hc; done) | cases h2
theorem NC.keep (h : NC w b) (hb : Below w.heap.size w w') : NC w' b := by
  obtain ⟨o, h1, h2⟩ := h
  exact ⟨o, (hb.block b (Array.getElem?_eq_some_iff.1 h1).1).trans h1, h2⟩
theorem bel_turn {B : Nat} {w0 : World} (h : Below B w0 w) (hg : w.grownBy w' (some b)) (hb : B ≤ b) (hB : B ≤ w.heap.size) : Below B w0 w' :=
  h.trans ⟨hg.os, hg.tape, hg.output, hg.size, fun k hk => hg.block k (by omega) (fun e => by cases e; omega)⟩
/-- A row of ints outlives a change of a block that holds no cells. -/
theorem Sl.turned {s n : Nat} {A : Option Addr} {xs : List Value} (h : Sl w s A n xs) (hm : NC w b) (hg : w.grownBy w' (some b)) : Sl w' s A n xs :=
  ⟨h.1, fun hn => by
    obtain ⟨b0, off, hA, hc⟩ := h.2 hn
    refine ⟨b0, off, hA, fun j v hj => ?_⟩
    have h1 := hc j v hj
    have hne : some b0 ≠ some b := fun e => hm.cell h1 (by cases e; rfl)
    exact (World.cell?_of_block (w := w) (a := ⟨b0, off + j, none⟩) (hg.block b0 (World.block_lt_of_cell? w _ h1) hne)).trans h1⟩
theorem RowOK.turned {t : Option Addr × Nat × List Int} (h : RowOK w t) (hm : NC w b) (hg : w.grownBy w' (some b)) : RowOK w' t := ⟨h.1.turned hm hg, h.2⟩
theorem Blk.turned {g : Nat} {t : TypeId} {cs : Array Value} (h : Blk w g t cs) (hm : NC w b) (hg : w.grownBy w' (some b)) : Blk w' g t cs := h.grown hg (fun e => by
  cases e
  obtain ⟨o, h1, h2⟩ := hm
  unfold Blk at h
  rw [h1] at h
  cases h
  cases h2)
theorem own_turned {B size n : Nat} {e : TypeId} {v : Value} {xs : List Value} (h : w.ownsRow B e size v n xs) (hm : NC w b) (hg : w.grownBy w' (some b)) : w'.ownsRow B e size v n xs :=
  own_block h fun g hgv => hg.block g (h.lt g hgv).2 (fun e1 => by
    cases e1
    obtain ⟨_, h2⟩ := h
    obtain ⟨o, h3, h4⟩ := hm
    rcases h2 with ⟨rfl, _⟩ | ⟨g', cap, cur, rfl, _, h5, _⟩
    · cases hgv
    · cases hgv
      rw [h3] at h5
      cases h5
      cases h4)

theorem MRow.keep (h : MRow w b r) (hb : Below w.heap.size w w') : MRow w' b r := by
  obtain ⟨m, h1, h2, h3⟩ := h
  exact ⟨m, h1, MapI.keep h2 hb, fun e he => (h3 e he).keep hb⟩
theorem MRow.lt (h : MRow w b r) : b < w.heap.size := by
  obtain ⟨m, h1, h2, h3⟩ := h
  exact MapI.lt h2
theorem MRow.isMap (h : MRow w b r) : NC w b := by
  obtain ⟨m, h1, h2, h3⟩ := h
  obtain ⟨es, cl, h4⟩ := MapI.isMap h2
  exact NC.of_map h4
theorem MRow.other (h : MRow w b r) (hm : NC w b') (hg : w.grownBy w' (some b')) (hne : b ≠ b') : MRow w' b r := by
  obtain ⟨m, h1, h2, h3⟩ := h
  exact ⟨m, h1, MapI.kept h2 hg (fun e => hne (by cases e; rfl)), fun e he => (h3 e he).turned hm hg⟩
/-- A change of a block of cells, behind a row's own memory. -/
theorem MRow.incr (h : MRow w b r) : r.Pairwise fun p q => p.1 < q.1 := by
  obtain ⟨m, rfl, h2, _⟩ := h
  have := MapI.inc kInt h2
  unfold IncK at this
  rw [List.pairwise_map] at this ⊢
  exact this
theorem MRow.made (w : World) : MRow (w.alloc (.map #[] 0)) w.heap.size [] := ⟨[], rfl, MapI.made _ _ w, fun e he => by cases he⟩

theorem find_pl (y : Int) : ∀ m : List ME, ((m.map pl).find? fun p => decide (p.1 = y)) = (m.find? fun e => decide (e.1 = y)).map pl
  | [] => rfl
  | e :: m => by
    rw [List.map_cons, List.find?_cons, List.find?_cons, find_pl y m]
    show (match decide (e.1 = y) with | true => some (pl e) | false => _) = _
    cases decide (e.1 = y) <;> rfl
theorem find_mv (y : Int) : ∀ m : List ME, ((m.map mv).find? fun p => decide (p.1 = y)) = (m.find? fun e => decide (e.1 = y)).map mv
  | [] => rfl
  | e :: m => by
    rw [List.map_cons, List.find?_cons, List.find?_cons, find_mv y m]
    show (match decide (e.1 = y) with | true => some (mv e) | false => _) = _
    cases decide (e.1 = y) <;> rfl
/-- What is read at a number. -/
theorem MRow.look {m : List ME} (h3 : ∀ e ∈ m, RowOK w e.2) (y : Int) : ∃ (A : Option Addr) (c : Nat) (l : List Int), RowOK w (A, c, l) ∧ l = lkR (m.map pl) y ∧ (atI (m.map mv) y).getD (.slice none 0 0) = .slice A l.length c := by
  unfold lkR atI
  rw [find_pl, find_mv]
  cases hf : m.find? fun e => decide (e.1 = y) with
  | none => exact ⟨none, 0, [], ⟨Sl.nil _ _ _, Nat.le_refl _, Nat.zero_le _⟩, rfl, rfl⟩
  | some e => exact ⟨e.2.1, e.2.2.1, e.2.2.2, h3 e (List.mem_of_find?_eq_some hf), rfl, rfl⟩
theorem put_map {α : Type} (f : ME → Int × α) (hf : ∀ e, (f e).1 = e.1) (m : List ME) (e0 : ME) (x : Int × α) (hx : f e0 = x) :
    ((m.map f).filter fun p => decide (p.1 < x.1)) ++ x :: ((m.map f).filter fun p => decide (x.1 < p.1)) = (((m.filter fun e => decide (e.1 < e0.1)) ++ e0 :: m.filter fun e => decide (e0.1 < e.1)).map f) := by
  subst hx
  rw [List.map_append, List.map_cons, List.filter_map, List.filter_map]
  have e1 : ((fun p : Int × α => decide (p.1 < (f e0).1)) ∘ f) = fun e => decide (e.1 < e0.1) := by funext e; simp [hf]
  have e2 : ((fun p : Int × α => decide ((f e0).1 < p.1)) ∘ f) = fun e => decide (e0.1 < e.1) := by funext e; simp [hf]
  rw [e1, e2]
end

section
variable (w : World) {ops : Array Oper} {rest : List Oper} {o : Oper} {a : Act} {Q : Exit → Act → World → Prop}
end

section
/-- A range over a row's map, its iterator in block i: done: what has come so far. -/
def RangesR (w : World) (b i : Nat) (r done : Rw) : Prop :=
  ∃ m d : List ME, m.map pl = r ∧ d.map pl = done ∧ RangesI Tryz.prog 3 w b i (m.map mv) (d.map mv) ∧ (∀ e ∈ d, e ∈ m) ∧ ∀ e ∈ m, RowOK w e.2
variable {w w' : World} {b i : Nat} {r done : Rw}
theorem RangesR.row (h : RangesR w b i r done) : MRow w b r := by
  obtain ⟨m, d, h1, h2, h3, h4, h5⟩ := h
  exact ⟨m, h1, h3.map, h5⟩
theorem RangesR.keep (h : RangesR w b i r done) (hb : Below w.heap.size w w') : RangesR w' b i r done := by
  obtain ⟨m, d, h1, h2, h3, h4, h5⟩ := h
  exact ⟨m, d, h1, h2, h3.keep hb, h4, fun e he => (h5 e he).keep hb⟩
theorem RangesR.sub (h : RangesR w b i r done) : ∀ p ∈ done, p ∈ r := by
  obtain ⟨m, d, rfl, rfl, _, h4, _⟩ := h
  intro p hp
  obtain ⟨e, he, rfl⟩ := List.mem_map.1 hp
  exact List.mem_map.2 ⟨e, h4 e he, rfl⟩
theorem RangesR.keysNodup (h : RangesR w b i r done) : (done.map (·.1)).Nodup := by
  obtain ⟨m, d, rfl, rfl, h3, h4, _⟩ := h
  have hI := h3.map.inc kInt
  obtain ⟨left, cnt, _, _, _, hnd⟩ := h3
  rw [List.map_map]
  have hnd' := List.pairwise_map.1 hnd
  refine List.pairwise_map.2 (List.Pairwise.imp_of_mem (fun {p q} hp hq hpq e => hpq ?_) hnd')
  exact inc_key hI (List.mem_map.2 ⟨p, h4 p hp, rfl⟩) (List.mem_map.2 ⟨q, h4 q hq, rfl⟩) e
end

section
variable (w : World) {ops : Array Oper} {rest : List Oper} {o : Oper} {a : Act} {Q : Exit → Act → World → Prop}
/-- The step. -/
theorem wpList_nextR (hg : o.guard = none) (it : Operand) (hop : o.op = Op.next it false) (b i : Nat) (r done : Rw) (hit : a.eval it = .pointer (some ⟨i, 0, none⟩)) (h : RangesR w b i r done)
    (hDone : done.Perm r → wpList Tryz.prog ops Q rest (a.put o.dst (.tuple #[.bool false])) w)
    (hMore : ∀ (y : Int) (A : Option Addr) (c : Nat) (l : List Int) (w' : World), (y, l) ∈ r → y ∉ done.map (·.1) → RowOK w' (A, c, l) → RangesR w' b i r (done ++ [(y, l)]) → w'.rangeLeft b i < w.rangeLeft b i → w.grownBy w' (some i) → NC w i → w'.heap.size = w.heap.size →
      (Instr.entry (.pointer (some ⟨i, 0, none⟩))).run Tryz.prog w' = .ok (.tuple #[.int .i64 y, .slice A l.length c]) w' → wpList Tryz.prog ops Q rest (a.put o.dst (.tuple #[.bool true, .int .i64 y, .slice A l.length c])) w') :
    wpList Tryz.prog ops Q (o :: rest) a w := by
  have hkn := h.keysNodup
  obtain ⟨m, d, rfl, rfl, h3, h4, h5⟩ := h
  have hI := h3.map.inc kInt
  have hnc : NC w i := by
    obtain ⟨left, cnt, hr, _⟩ := h3
    obtain ⟨es, clock, since, seen, c0, _, _, _, _, hi, _⟩ := hr
    exact ⟨_, hi, rfl⟩
  have hinj : ∀ e ∈ m, ∀ e' ∈ m, e.1 = e'.1 → e = e' := by
    have hI' : m.Pairwise fun e e' => e.1 < e'.1 := by
      unfold IncK at hI
      rw [List.pairwise_map] at hI
      exact hI
    clear h3 h4 h5 hDone hMore hkn hI
    induction m with
    | nil => intro e he; cases he
    | cons x m ih =>
      obtain ⟨g1, g2⟩ := List.pairwise_cons.1 hI'
      intro e he e' he' hee
      rcases List.mem_cons.1 he with h1 | h1
      · rcases List.mem_cons.1 he' with h2 | h2
        · rw [h1, h2]
        · have := g1 e' h2
          rw [h1] at hee
          omega
      · rcases List.mem_cons.1 he' with h2 | h2
        · have := g1 e h1
          rw [h2] at hee
          omega
        · exact ih g2 e h1 e' h2 hee
  refine wpList_nextI w hg it hop kInt b i (m.map mv) (d.map mv) hit h3 (fun hp => hDone ?_) (fun p w' hp hpd hrg hlt hgr hsz hen => ?_)
  · refine List.Perm.map pl ?_
    have hndm : m.Nodup := by
      unfold IncK at hI
      rw [List.pairwise_map] at hI
      exact hI.imp fun {e e'} h1 h2 => by subst h2; omega
    have hndd : d.Nodup := by
      rw [List.map_map] at hkn
      exact (List.pairwise_map.1 hkn).imp fun {e e'} h1 h2 => h1 (by subst h2; rfl)
    refine (List.perm_ext_iff_of_nodup hndd hndm).2 fun e => ⟨h4 e, fun he => ?_⟩
    have h6 := hp.mem_iff.2 (List.mem_map.2 ⟨e, he, rfl⟩)
    obtain ⟨e', he', h7⟩ := List.mem_map.1 h6
    have h8 : (mv e').1 = (mv e).1 := by rw [h7]
    have := hinj e' (h4 e' he') e he h8
    rw [← this]
    exact he'
  · obtain ⟨e, he, rfl⟩ := List.mem_map.1 hp
    have hnot : e ∉ d := fun h => hpd (List.mem_map.2 ⟨e, h, rfl⟩)
    refine hMore e.1 e.2.1 e.2.2.1 e.2.2.2 w' (List.mem_map.2 ⟨e, he, rfl⟩) (fun h => ?_) ((h5 e he).turned hnc hgr) ⟨m, d ++ [e], rfl, by rw [List.map_append]; rfl, by rw [List.map_append]; exact hrg, fun x hx => ?_, fun x hx => (h5 x hx).turned hnc hgr⟩ hlt hgr hnc hsz hen
    · obtain ⟨q, hq, hqe⟩ := List.mem_map.1 h
      obtain ⟨e', he', rfl⟩ := List.mem_map.1 hq
      have h8 : (pl e').1 = e.1 := hqe
      have := hinj e' (h4 e' he') e he h8
      exact hnot (this ▸ he')
    · rcases List.mem_append.1 hx with h6 | h6
      · exact h4 x h6
      · rw [List.mem_singleton.1 h6]
        exact he
end

section
variable {w w' : World} {p : Nat} {od : List Rw}
end
end Go.Proofs.YtbbmgcdocolakaaGreatDoor
/-
  Sets of edges in memory: a map from edges to bool; words for it.
-/
namespace Go.Proofs.YtbbmgcdocolakaaGreatDoor
open Go.RowKit Go.Maps Go.WideMaps
set_option maxRecDepth 100000
set_option linter.unusedVariables false

theorem edgeK_wide : (match Tryz.prog.underlying 76 with | some (.array _ _) | some (.struct _) => true | _ => false) = true := by kernel_rfl
theorem edgeK_row : (76 : TypeId) < Tryz.prog.types.size := of_decide_eq_true (by kernel_rfl)
theorem edgeK_law : KeyLaw Tryz.prog 76 := deep_law_laid fr_laidOut (m := 2) (by omega) edgeK_row (by kernel_rfl) edgeK_wide
theorem edgeK_keyed : Keyed Tryz.prog 76 := Keyed.of_law edgeK_law
theorem edgeK_keyType : Tryz.prog.keyType 76 = true := by kernel_rfl
def i64e (x : Int) : Prop := -9223372036854775808 ≤ x ∧ x ≤ 9223372036854775807
def kE (i a : Int) : Lit := .string (keyBytes [.int .i64 i, .int .i64 a])
theorem edgeK_size : ∃ m, Tryz.prog.types.size = m + 1 := by
  have h := edgeK_row
  generalize Tryz.prog.types.size = m at h
  cases m with
  | zero => exact absurd h (Nat.not_lt_zero _)
  | succ m => exact ⟨m, rfl⟩
theorem keyOf_edge {i a : Int} (hi : i64e i) (ha : i64e a) : keyOf Tryz.prog 76 (.agg #[.int .i64 i, .int .i64 a]) = some (kE i a) := by
  have wi := lit_i64 hi.1 hi.2
  have wa := lit_i64 ha.1 ha.2
  have hkt := edgeK_keyType
  obtain ⟨m, hm⟩ := edgeK_size
  have hu := Tryz.underlying76
  have hc : Tryz.prog.cellsOf 76 = 2 := by kernel_rfl
  have hi2 : Tryz.prog.cellsOf 3 = 1 := by kernel_rfl
  unfold keyOf
  simp only [hu]
  rw [if_pos (by simp [hkt, Value.formed, hu, hc]), hm]
  unfold Program.keyLits
  simp only [hu, Value.cells]
  rw [if_pos ⟨by rw [hc]; rfl, by simp⟩, List.mapM_cons, List.mapM_cons, List.mapM_nil]
  simp [hi2, Program.keyLits, wi, wa, kE]
theorem kE_inj {i a j b : Int} (hi : i64e i) (ha : i64e a) (hj : i64e j) (hb : i64e b) (h : kE i a = kE j b) : i = j ∧ a = b := by
  have := edgeK_law.inj (keyOf_edge hi ha) (h ▸ keyOf_edge hj hb)
  simpa using this

/-- Block b is a map of counts: what it answers at each number of a row. -/
def OnEd (w : World) (b n : Nat) (f : Int → Int → Bool) : Prop := ∃ D, w.ownsMap Tryz.prog 76 rawR b n D ∧ ∀ i a, i64e i → i64e a → D.atKey (kE i a) (.held (.bool false)) = .held (.bool (f i a))
def updE (f : Int → Int → Bool) (i a : Int) (v : Bool) : Int → Int → Bool := fun j b => if j = i ∧ b = a then v else f j b
section
variable {w w' : World} {b n : Nat} {f : Int → Int → Bool}
theorem OnEd.made (w : World) : OnEd (w.alloc (.map #[] 0)) w.heap.size 0 fun _ _ => false := ⟨_, World.ownsMap_made w Tryz.prog _ rawR, fun i a _ _ => rfl⟩
theorem OnEd.lt (h : OnEd w b n f) : b < w.heap.size := by
  obtain ⟨D, h1, _⟩ := h
  exact World.ownsMap.lt h1
theorem OnEd.keep (h : OnEd w b n f) (hb : Below w.heap.size w w') : OnEd w' b n f := by
  obtain ⟨D, h1, h2⟩ := h
  have hlt := World.ownsMap.lt h1
  obtain ⟨es', clock, h3, F, hs, hD⟩ := h1
  exact ⟨D, ⟨es', clock, (hb.block b hlt).trans h3, F, hs, hD⟩, h2⟩
theorem OnEd.isMap (h : OnEd w b n f) : NC w b := by
  obtain ⟨D, ⟨es', clock, h3, _⟩, _⟩ := h
  exact NC.of_map h3
end
section
variable (w : World) {ops : Array Oper} {rest : List Oper} {o : Oper} {a : Act} {Q : Exit → Act → World → Prop}
theorem wpList_lookE (hg : o.guard = none) (m x : Operand) (hop : o.op = Op.lookup 107 m x false) (b n : Nat) (f : Int → Int → Bool) (hm : a.eval m = .map (some b)) (hown : OnEd w b n f) (i y : Int) (hx : a.eval x = .agg #[.int .i64 i, .int .i64 y]) (hi : i64e i) (hy : i64e y)
    (hK : wpList Tryz.prog ops Q rest (a.put o.dst (.bool (f i y))) w) :
    wpList Tryz.prog ops Q (o :: rest) a w := by
  refine wpList_plain hg fun K' hK' => ?_
  obtain ⟨D, h1, h2⟩ := hown
  obtain ⟨v, ps, hrun, hv⟩ := World.ownsMap.lookup h1 edgeK_keyed Tryz.underlying107 (show (zeroValue 4).run Tryz.prog w = .ok (.bool false) w from by kernel_rfl) (zd := .held (.bool false)) (zp := []) rfl (keyOf_edge hi hy)
  rw [h2 i y hi hy] at hv
  obtain rfl : v = .bool (f i y) := by
    have := (Prod.mk.inj (Option.some.inj hv)).1
    exact DataW.held.inj this
  unfold Oper.wp
  simp [execOp, hop, hm, hx, hrun, Result.andThen]
  exact hK' _ _ hK
theorem wpList_putE (hg : o.guard = none) (m x v : Operand) (hop : o.op = Op.mapUpdate 107 m x v) (b n : Nat) (f : Int → Int → Bool) (hm : a.eval m = .map (some b)) (hown : OnEd w b n f) (hn : n < maxLen) (i y : Int) (z : Bool) (hx : a.eval x = .agg #[.int .i64 i, .int .i64 y]) (hv : a.eval v = .bool z) (hi : i64e i) (hy : i64e y)
    (hK : ∀ w', OnEd w' b (n + 1) (updE f i y z) → w.grownBy w' (some b) → wpList Tryz.prog ops Q rest (a.put o.dst undef) w') :
    wpList Tryz.prog ops Q (o :: rest) a w := by
  obtain ⟨D, h1, h2⟩ := hown
  refine wpList_mapUpdate_own w hg m x v _ hop 76 4 edgeK_keyed Tryz.underlying107 rawR b n D hm h1 hn _ _ _ hx hv (keyOf_edge hi hy) (.held (.bool z)) [] rfl fun w' hw' hgr => hK w' ⟨_, hw', fun j c hj hc => ?_⟩ hgr
  unfold updE
  by_cases h : j = i ∧ c = y
  · obtain ⟨rfl, rfl⟩ := h
    rw [if_pos ⟨rfl, rfl⟩, atKey_put_same (World.ownsMap.isMap h1) (edgeK_keyed.key (keyOf_edge hi hy))]
  · rw [if_neg h, atKey_put_other (fun e => h (kE_inj hj hc hi hy e)), h2 j c hj hc]
end
end Go.Proofs.YtbbmgcdocolakaaGreatDoor
