/-
  Maps keyed by ints, in one word: block b holds these entries, by rising key, whatever their values are; the laws of look-up, store and range in that word.
-/
import Derived.WalkKit
import Derived.Maps.Ext
import Derived.Maps.OwnOps
import Derived.Maps.RangeWalk
namespace Go.Proofs.YtmonepclhbappaaDoor
open Go.RowKit Go.Maps
set_option linter.unusedVariables false
set_option linter.unusedSectionVars false

def rawR (v : Value) : Option (DataW Value × List MemPlace) := some (.held v, [])
def enK (p : Int × Value) : Lit × DataW Value := (.int .i64 p.1, .held p.2)
def asD (es : List (Int × Value)) : DataW Value := .map (es.map enK)
/-- Block b is a map that holds just the entries es. -/
def MapI (P : Program) (kT : TypeId) (w : World) (b : Nat) (es : List (Int × Value)) : Prop := w.ownsMap P kT rawR b es.length (asD es)
def atI (es : List (Int × Value)) (x : Int) : Option Value := (es.find? fun p => decide (p.1 = x)).map (·.2)
def putI (es : List (Int × Value)) (x : Int) (v : Value) : List (Int × Value) := (es.filter fun p => decide (p.1 < x)) ++ (x, v) :: es.filter fun p => decide (x < p.1)
def IncK (es : List (Int × Value)) : Prop := es.Pairwise fun p q => p.1 < q.1

theorem atI_none {es : List (Int × Value)} {x : Int} : atI es x = none ↔ x ∉ es.map (·.1) := by
  unfold atI
  rw [Option.map_eq_none_iff, List.find?_eq_none]
  constructor
  · intro h hm
    obtain ⟨p, hp, rfl⟩ := List.mem_map.1 hm
    exact h p hp (by simp)
  · intro h p hp hx
    exact h (List.mem_map.2 ⟨p, hp, of_decide_eq_true hx⟩)
theorem atI_mem {es : List (Int × Value)} {x : Int} {v : Value} (h : atI es x = some v) : (x, v) ∈ es := by
  unfold atI at h
  obtain ⟨p, hp, rfl⟩ := Option.map_eq_some_iff.1 h
  have h1 := List.find?_some hp
  have h2 := List.mem_of_find?_eq_some hp
  rw [show (x, p.2) = p from Prod.ext (of_decide_eq_true h1).symm rfl]
  exact h2
theorem inc_key {es : List (Int × Value)} (hI : IncK es) : ∀ {p q : Int × Value}, p ∈ es → q ∈ es → p.1 = q.1 → p = q := by
  induction es with
  | nil => intro p q hp; cases hp
  | cons e es ih =>
    obtain ⟨h1, h2⟩ := List.pairwise_cons.1 hI
    intro p q hp hq he
    rcases List.mem_cons.1 hp with e1 | hp'
    · rcases List.mem_cons.1 hq with e2 | hq'
      · rw [e1, e2]
      · have := h1 q hq'; rw [e1] at he; omega
    · rcases List.mem_cons.1 hq with e2 | hq'
      · have := h1 p hp'; rw [e2] at he; omega
      · exact ih h2 hp' hq' he
theorem atI_of_mem {es : List (Int × Value)} (hI : IncK es) {p : Int × Value} (hp : p ∈ es) : atI es p.1 = some p.2 := by
  cases h : atI es p.1 with
  | none => exact absurd (List.mem_map.2 ⟨p, hp, rfl⟩) (atI_none.1 h)
  | some v =>
    have := inc_key hI (atI_mem h) hp rfl
    rw [← this]

theorem lit_i64 {x : Int} (h1 : -9223372036854775808 ≤ x) (h2 : x ≤ 9223372036854775807) : (Lit.int .i64 x).wf = true := WalkArith.wf_i64 (by omega)

section
variable {P : Program} {kT : TypeId} {w w' : World} {b : Nat} {es : List (Int × Value)}

theorem has_asD (x : Int) : Maps.has (asD es) (.int .i64 x) = (atI es x).isSome := by
  unfold asD atI
  rw [Maps.has_eq, List.any_map, Option.isSome_map]
  induction es with
  | nil => rfl
  | cons p r ih =>
    rw [List.any_cons, List.find?_cons, ih]
    by_cases h : p.1 = x
    · simp [enK, Lit.sameKey, h]
    · simp [enK, Lit.sameKey, h]
theorem atKey_asD (x : Int) (z : Value) : (asD es).atKey (.int .i64 x) (.held z) = .held ((atI es x).getD z) := by
  unfold asD atI DataW.atKey
  simp only
  induction es with
  | nil => rfl
  | cons p r ih =>
    rw [List.map_cons, List.find?_cons, List.find?_cons]
    by_cases h : p.1 = x
    · simp [enK, Lit.sameKey, h]
    · have e1 : (enK p).1.sameKey (.int .i64 x) = false := by simp [enK, Lit.sameKey, h]
      rw [e1]
      simp only [h, decide_false]
      exact ih
theorem ins_asD (x : Int) (v : Value) : ∀ {es : List (Int × Value)}, IncK es → DataW.insert (enK (x, v)) ((es.map enK).filter fun p => !p.1.sameKey (.int .i64 x)) = (putI es x v).map enK
  | [], _ => rfl
  | p :: r, hI => by
    obtain ⟨h1, h2⟩ := List.pairwise_cons.1 hI
    have ih := ins_asD x v h2
    rcases Int.lt_trichotomy p.1 x with h | h | h
    · have e1 : (!(enK p).1.sameKey (.int .i64 x)) = true := by simp [enK, Lit.sameKey]; omega
      have e2 : (enK (x, v)).1.before (enK p).1 = false := by simp [enK, Lit.before]; omega
      have e3 : ¬ x < p.1 := by omega
      have e4 : putI (p :: r) x v = p :: putI r x v := by simp [putI, h, e3]
      rw [List.map_cons, List.filter_cons_of_pos (p := fun q : Lit × DataW Value => !q.1.sameKey (.int .i64 x)) e1, DataW.insert, e2, e4, List.map_cons]
      simp only [Bool.false_eq_true, if_false]
      rw [ih]
    · have e1 : ¬ (!(enK p).1.sameKey (.int .i64 x)) = true := by simp [enK, Lit.sameKey]; omega
      have e4 : putI (p :: r) x v = putI r x v := by
        have a1 : ¬ p.1 < x := by omega
        have a2 : ¬ x < p.1 := by omega
        simp [putI, a1, a2]
      rw [List.map_cons, List.filter_cons_of_neg (p := fun q : Lit × DataW Value => !q.1.sameKey (.int .i64 x)) e1, ih, e4]
    · have e1 : (!(enK p).1.sameKey (.int .i64 x)) = true := by simp [enK, Lit.sameKey]; omega
      have e2 : (enK (x, v)).1.before (enK p).1 = true := by simp [enK, Lit.before]; omega
      have hf1 : (r.map enK).filter (fun q => !q.1.sameKey (.int .i64 x)) = r.map enK := List.filter_eq_self.2 fun q hq => by
        obtain ⟨s, hs, rfl⟩ := List.mem_map.1 hq
        have := h1 s hs
        simp [enK, Lit.sameKey]; omega
      have hf2 : r.filter (fun q => decide (q.1 < x)) = [] := List.filter_eq_nil_iff.2 fun s hs => by
        have := h1 s hs
        simp; omega
      have hf3 : r.filter (fun q => decide (x < q.1)) = r := List.filter_eq_self.2 fun s hs => by
        have := h1 s hs
        simp; omega
      have a1 : ¬ p.1 < x := by omega
      have e4 : putI (p :: r) x v = (x, v) :: p :: r := by simp [putI, h, a1, hf2, hf3]
      rw [List.map_cons, List.filter_cons_of_pos (p := fun q : Lit × DataW Value => !q.1.sameKey (.int .i64 x)) e1, hf1, DataW.insert, e2, e4]
      simp
theorem put_asD (hI : IncK es) (x : Int) (v : Value) : (asD es).put (.int .i64 x) (.held v) = asD (putI es x v) := by
  unfold asD DataW.put
  exact congrArg DataW.map (ins_asD x v hI)

theorem MapI.of_owns {n : Nat} (h : w.ownsMap P kT rawR b n (asD es)) : MapI P kT w b es := by
  obtain ⟨es', clock, hb, F, hs, hD⟩ := h
  refine ⟨es', clock, hb, F, ?_, hD⟩
  have h1 : (es.map enK) = _ := DataW.map.inj hD
  have h2 := congrArg List.length h1
  rw [List.length_map, length_read] at h2
  omega
theorem MapI.made (P : Program) (kT : TypeId) (w : World) : MapI P kT (w.alloc (.map #[] 0)) w.heap.size [] := World.ownsMap_made w P kT rawR
theorem MapI.inc (hk : P.underlying kT = some (.int .i64)) (h : MapI P kT w b es) : IncK es := by
  obtain ⟨es', h1, h2, _⟩ := World.ownsMap.canon h (int_keyed hk)
  obtain rfl : es.map enK = es' := DataW.map.inj h1
  exact (List.pairwise_map.1 h2).imp fun {p q} hpq => by simpa [enK, Lit.before] using hpq
theorem MapI.kept {row : Option Nat} (h : MapI P kT w b es) (hg : w.grownBy w' row) (hne : some b ≠ row) : MapI P kT w' b es := World.ownsMap.kept h hg hne
theorem MapI.keep (h : MapI P kT w b es) (hb : Below w.heap.size w w') : MapI P kT w' b es := by
  have hlt := World.ownsMap.lt h
  obtain ⟨es', clock, h1, F, hs, hD⟩ := h
  exact ⟨es', clock, (hb.block b hlt).trans h1, F, hs, hD⟩
theorem MapI.lt (h : MapI P kT w b es) : b < w.heap.size := World.ownsMap.lt h
theorem MapI.isMap (h : MapI P kT w b es) : ∃ es' clock, w.heap[b]? = some (.map es' clock) := by
  obtain ⟨es', clock, h1, _⟩ := h
  exact ⟨es', clock, h1⟩
end

section
variable {P : Program} (w : World) {ops : Array Oper} {rest : List Oper} {o : Oper} {a : Act} {Q : Exit → Act → World → Prop} {kT : TypeId}

/-- 'm[k]'. -/
theorem wpList_lookI (hg : o.guard = none) (m x : Operand) (t : TypeId) (hop : o.op = Op.lookup t m x false) (e : TypeId) (hk : P.underlying kT = some (.int .i64)) (ht : P.underlying t = some (.map kT e))
    (z : Value) (hz : (zeroValue e).run P w = .ok z w) (b : Nat) (es : List (Int × Value)) (hm : a.eval m = .map (some b)) (hown : MapI P kT w b es) (y : Int) (hx : a.eval x = .int .i64 y) (h1 : -9223372036854775808 ≤ y) (h2 : y ≤ 9223372036854775807)
    (hK : wpList P ops Q rest (a.put o.dst ((atI es y).getD z)) w) :
    wpList P ops Q (o :: rest) a w := by
  refine wpList_plain hg fun K' hK' => ?_
  obtain ⟨v, ps, hrun, hv⟩ := World.ownsMap.lookup hown (int_keyed hk) ht hz (zd := .held z) (zp := []) rfl (keyOf_int_mk hk (lit_i64 h1 h2))
  rw [atKey_asD] at hv
  obtain rfl : v = (atI es y).getD z := by
    have := (Prod.mk.inj (Option.some.inj hv)).1
    exact DataW.held.inj this
  unfold Oper.wp
  simp [execOp, hop, hm, hx, hrun, Result.andThen]
  exact hK' _ _ hK

/-- 'm[k] = v'. -/
theorem wpList_putI (hg : o.guard = none) (m x v : Operand) (t : TypeId) (hop : o.op = Op.mapUpdate t m x v) (e : TypeId) (hk : P.underlying kT = some (.int .i64)) (ht : P.underlying t = some (.map kT e))
    (b : Nat) (es : List (Int × Value)) (hm : a.eval m = .map (some b)) (hown : MapI P kT w b es) (hn : es.length < maxLen) (y : Int) (val : Value) (hx : a.eval x = .int .i64 y) (hv : a.eval v = val) (h1 : -9223372036854775808 ≤ y) (h2 : y ≤ 9223372036854775807)
    (hK : ∀ w', MapI P kT w' b (putI es y val) → w.grownBy w' (some b) → wpList P ops Q rest (a.put o.dst undef) w') :
    wpList P ops Q (o :: rest) a w := by
  refine wpList_mapUpdate_own w hg m x v t hop kT e (int_keyed hk) ht rawR b es.length (asD es) hm hown hn _ val _ hx hv (keyOf_int_mk hk (lit_i64 h1 h2)) (.held val) [] rfl fun w' hw' hgr => ?_
  rw [put_asD (MapI.inc hk hown)] at hw'
  exact hK w' (MapI.of_owns hw') hgr
end

section
/-- A range over the map in block b, its iterator in block r: done: what has come so far. -/
def RangesI (P : Program) (kT : TypeId) (w : World) (b r : Nat) (es done : List (Int × Value)) : Prop :=
  ∃ left cnt, w.ranges P kT rawR b r es.length (asD es) left cnt ∧ (∀ p ∈ es, (left (.int .i64 p.1) = true ↔ p ∉ done)) ∧ (∀ p ∈ done, p ∈ es) ∧ done.Nodup
variable {P : Program} {kT : TypeId} {w w' : World} {b r : Nat} {es done : List (Int × Value)}
theorem RangesI.map (h : RangesI P kT w b r es done) : MapI P kT w b es := by
  obtain ⟨left, cnt, h1, _⟩ := h
  exact h1.owns
theorem RangesI.kept {row : Option Nat} (h : RangesI P kT w b r es done) (hg : w.grownBy w' row) (hb : some b ≠ row) (hr : some r ≠ row) : RangesI P kT w' b r es done := by
  obtain ⟨left, cnt, h1, h2⟩ := h
  exact ⟨left, cnt, h1.kept hg hb hr, h2⟩
theorem RangesI.keep (h : RangesI P kT w b r es done) (hb : Below w.heap.size w w') : RangesI P kT w' b r es done := by
  obtain ⟨left, cnt, h1, h2⟩ := h
  have l1 := h1.owns.lt
  have l2 := h1.lt
  obtain ⟨es', clock, since, seen, c0, g1, F, hs, hD, g2, rest⟩ := h1
  exact ⟨left, cnt, ⟨es', clock, since, seen, c0, (hb.block b l1).trans g1, F, hs, hD, (hb.block r l2).trans g2, rest⟩, h2⟩
theorem RangesI.ltr (h : RangesI P kT w b r es done) : r < w.heap.size := by
  obtain ⟨left, cnt, h1, _⟩ := h
  exact h1.lt
theorem RangesI.done_perm (h : RangesI P kT w b r es done) (hk : P.underlying kT = some (.int .i64)) (hall : ∀ p ∈ es, p ∈ done) : done.Perm es := by
  have hI := h.map.inc hk
  obtain ⟨left, cnt, _, _, h3, h4⟩ := h
  have hes : es.Nodup := hI.imp fun {p q} hpq e => by subst e; omega
  exact (List.perm_ext_iff_of_nodup h4 hes).2 fun p => ⟨h3 p, hall p⟩
end

section
variable {P : Program} (w : World) {ops : Array Oper} {rest : List Oper} {o : Oper} {a : Act} {Q : Exit → Act → World → Prop} {kT : TypeId}
/-- 'range m'. -/
theorem wpList_rangeI (hg : o.guard = none) (m : Operand) (t : TypeId) (hop : o.op = Op.range t m) (e : TypeId) (hk : P.underlying kT = some (.int .i64)) (ht : P.underlying t = some (.map kT e)) (b : Nat) (es : List (Int × Value))
    (hm : a.eval m = .map (some b)) (hown : MapI P kT w b es)
    (hK : ∀ w', RangesI P kT w' b w.heap.size es [] → w.grownBy w' none → w'.heap.size = w.heap.size + 1 → wpList P ops Q rest (a.put o.dst (.pointer (some ⟨w.heap.size, 0, none⟩))) w') :
    wpList P ops Q (o :: rest) a w := by
  refine wpList_range_own w hg m t hop kT e (int_keyed hk) ht rawR b es.length (asD es) hm hown fun w' h1 h2 h3 => hK w' ⟨_, _, h1, (fun p hp => ?_), (fun p hp => absurd hp (by simp)), List.nodup_nil⟩ h2 h3
  rw [has_asD, atI_of_mem (MapI.inc hk hown) hp]
  simp

/-- The step. -/
theorem wpList_nextI (hg : o.guard = none) (it : Operand) (hop : o.op = Op.next it false) (hk : P.underlying kT = some (.int .i64)) (b r : Nat) (es done : List (Int × Value))
    (hit : a.eval it = .pointer (some ⟨r, 0, none⟩)) (h : RangesI P kT w b r es done)
    (hDone : done.Perm es → wpList P ops Q rest (a.put o.dst (.tuple #[.bool false])) w)
    (hMore : ∀ (p : Int × Value) (w' : World), p ∈ es → p ∉ done → RangesI P kT w' b r es (done ++ [p]) → w'.rangeLeft b r < w.rangeLeft b r → w.grownBy w' (some r) → w'.heap.size = w.heap.size →
      (Instr.entry (.pointer (some ⟨r, 0, none⟩))).run P w' = .ok (.tuple #[.int .i64 p.1, p.2]) w' → wpList P ops Q rest (a.put o.dst (.tuple #[.bool true, .int .i64 p.1, p.2])) w') :
    wpList P ops Q (o :: rest) a w := by
  have hI := h.map.inc hk
  have hperm := fun hall => h.done_perm hk hall
  obtain ⟨left, cnt, hrg, hleft, hsub, hnd⟩ := h
  refine wpList_next_ranges w hg it hop kT (int_keyed hk) rawR (Value.int .i64) id (fun key kl hkey => by obtain ⟨x, rfl, _⟩ := Maps.keyOf_int_inv hk hkey; exact ⟨x, rfl⟩) (fun v y hv => ⟨v, rfl⟩) b r es.length (asD es) left cnt hit hrg (fun _ hl => hDone (hperm fun p hp => ?_)) (fun x c kl y w' cnt' hkey hlk hv hat hrg' hlt hgr hsz hen => ?_)
  · have := hleft p hp
    rw [hl] at this
    simpa using this
  · obtain ⟨x', ex, rfl, hwx⟩ := Maps.keyOf_int_inv hk hkey
    cases ex
    have hhas : (atI es x).isSome = true := by rw [← has_asD]; exact Maps.has_true_of_atKey hat
    obtain ⟨v, hv'⟩ := Option.isSome_iff_exists.1 hhas
    have hc : c = v := by
      have h1 := hat (.held (.bool false))
      rw [atKey_asD, hv'] at h1
      have h2 := (Prod.mk.inj (Option.some.inj hv)).1
      rw [← h1] at h2
      exact DataW.held.inj h2
    subst hc
    have hp := atI_mem hv'
    have hnot : (x, c) ∉ done := fun hm => by
      exact (hleft _ hp).1 hlk hm
    refine hMore (x, c) w' hp hnot ⟨_, cnt', hrg', fun p hp' => ?_, fun p hp' => ?_, ?_⟩ (by rw [hrg'.left_eq, hrg.left_eq]; exact hlt) hgr hsz hen
    · show (left (.int .i64 p.1) && !(Lit.int .i64 p.1).sameKey (.int .i64 x)) = true ↔ _
      rw [Bool.and_eq_true, hleft p hp']
      by_cases hpx : p.1 = x
      · obtain rfl := inc_key hI hp' hp hpx
        simp [Lit.sameKey]
      · have hne : p ≠ (x, c) := fun e => hpx (by rw [e])
        simp [Lit.sameKey, hpx, hne]
    · rcases List.mem_append.1 hp' with h1 | h1
      · exact hsub p h1
      · obtain rfl := List.mem_singleton.1 h1
        exact hp
    · rw [List.nodup_append]
      exact ⟨hnd, by simp, fun p hp1 q hq => by obtain rfl := List.mem_singleton.1 hq; exact fun e => hnot (e ▸ hp1)⟩
end
end Go.Proofs.YtmonepclhbappaaDoor
