/-
  Part 2 of the proof of OdagMerge: MapW, Same, Words2, Words3, RowsL.
-/
import Derived.WalkKit
import Derived.Maps.Ext
import Derived.Maps.OwnOps
import Derived.Maps.RangeWalk
import Derived.Test.YtmonepclhbappaaGreatDoorOdagMergeM1
import Derived.Test.YtmonepclhbappaaGreatDoorProg
import Derived.LaidEql
import Derived.RowKitTokens
import Derived.Deep.Draws
import Derived.Lib.Hide
import Derived.Deep.DeepCutAuto
import Derived.BigQuiet
import Derived.Deep.QuietTactic
import Derived.Laws.MakeOwn
import Derived.Laws.OwnMore
import Derived.Maps.AppendAt
import Derived.ArgAppend
import Derived.Laws.IdiomStrings
/-
  Maps keyed by ints, in one word: block b holds these entries, by rising key, whatever their values are; the laws of look-up, store and range in that word.
-/
namespace Go.Proofs.YtmonepclhbappaaGreatDoor
open Go.RowKit Go.Maps
set_option linter.unusedVariables false
set_option linter.unusedSectionVars false

def rawR (v : Value) : Option (DataW Value × List MemPlace) := some (.held v, [])
def enK (p : Int × Value) : Lit × DataW Value := (.int .i64 p.1, .held p.2)
def asD (es : List (Int × Value)) : DataW Value := .map (es.map enK)
/-- Block b is a map that holds just the entries es. -/
def MapI (P : Program) (kT : TypeId) (w : World) (b : Nat) (es : List (Int × Value)) : Prop := w.ownsMap P kT rawR b es.length (asD es)
def atI (es : List (Int × Value)) (x : Int) : Option Value := (es.find? fun p => decide (p.1 = x)).map (·.2)
def putI (es : List (Int × Value)) (x : Int) (v : Value) : List (Int × Value) := (es.filter fun p => decide (p.1 < x)) ++ (x, v) :: es.filter fun p => decide (x < p.1)
def IncK (es : List (Int × Value)) : Prop := es.Pairwise fun p q => p.1 < q.1

theorem atI_none {es : List (Int × Value)} {x : Int} : atI es x = none ↔ x ∉ es.map (·.1) := by
  unfold atI
  rw [Option.map_eq_none_iff, List.find?_eq_none]
  constructor
  · intro h hm
    obtain ⟨p, hp, rfl⟩ := List.mem_map.1 hm
    exact h p hp (by simp)
  · intro h p hp hx
    exact h (List.mem_map.2 ⟨p, hp, of_decide_eq_true hx⟩)
theorem atI_mem {es : List (Int × Value)} {x : Int} {v : Value} (h : atI es x = some v) : (x, v) ∈ es := by
  unfold atI at h
  obtain ⟨p, hp, rfl⟩ := Option.map_eq_some_iff.1 h
  have h1 := List.find?_some hp
  have h2 := List.mem_of_find?_eq_some hp
  rw [show (x, p.2) = p from Prod.ext (of_decide_eq_true h1).symm rfl]
  exact h2
theorem inc_key {es : List (Int × Value)} (hI : IncK es) : ∀ {p q : Int × Value}, p ∈ es → q ∈ es → p.1 = q.1 → p = q := by
  induction es with
  | nil => intro p q hp; cases hp
  | cons e es ih =>
    obtain ⟨h1, h2⟩ := List.pairwise_cons.1 hI
    intro p q hp hq he
    rcases List.mem_cons.1 hp with e1 | hp'
    · rcases List.mem_cons.1 hq with e2 | hq'
      · rw [e1, e2]
      · have := h1 q hq'; rw [e1] at he; omega
    · rcases List.mem_cons.1 hq with e2 | hq'
      · have := h1 p hp'; rw [e2] at he; omega
      · exact ih h2 hp' hq' he
theorem atI_of_mem {es : List (Int × Value)} (hI : IncK es) {p : Int × Value} (hp : p ∈ es) : atI es p.1 = some p.2 := by
  cases h : atI es p.1 with
  | none => exact absurd (List.mem_map.2 ⟨p, hp, rfl⟩) (atI_none.1 h)
  | some v =>
    have := inc_key hI (atI_mem h) hp rfl
    rw [← this]

theorem lit_i64 {x : Int} (h1 : -9223372036854775808 ≤ x) (h2 : x ≤ 9223372036854775807) : (Lit.int .i64 x).wf = true := WalkArith.wf_i64 (by omega)

section
variable {P : Program} {kT : TypeId} {w w' : World} {b : Nat} {es : List (Int × Value)}

theorem has_asD (x : Int) : Maps.has (asD es) (.int .i64 x) = (atI es x).isSome := by
  unfold asD atI
  rw [Maps.has_eq, List.any_map, Option.isSome_map]
  induction es with
  | nil => rfl
  | cons p r ih =>
    rw [List.any_cons, List.find?_cons, ih]
    by_cases h : p.1 = x
    · simp [enK, Lit.sameKey, h]
    · simp [enK, Lit.sameKey, h]
theorem atKey_asD (x : Int) (z : Value) : (asD es).atKey (.int .i64 x) (.held z) = .held ((atI es x).getD z) := by
  unfold asD atI DataW.atKey
  simp only
  induction es with
  | nil => rfl
  | cons p r ih =>
    rw [List.map_cons, List.find?_cons, List.find?_cons]
    by_cases h : p.1 = x
    · simp [enK, Lit.sameKey, h]
    · have e1 : (enK p).1.sameKey (.int .i64 x) = false := by simp [enK, Lit.sameKey, h]
      rw [e1]
      simp only [h, decide_false]
      exact ih
theorem ins_asD (x : Int) (v : Value) : ∀ {es : List (Int × Value)}, IncK es → DataW.insert (enK (x, v)) ((es.map enK).filter fun p => !p.1.sameKey (.int .i64 x)) = (putI es x v).map enK
  | [], _ => rfl
  | p :: r, hI => by
    obtain ⟨h1, h2⟩ := List.pairwise_cons.1 hI
    have ih := ins_asD x v h2
    rcases Int.lt_trichotomy p.1 x with h | h | h
    · have e1 : (!(enK p).1.sameKey (.int .i64 x)) = true := by simp [enK, Lit.sameKey]; omega
      have e2 : (enK (x, v)).1.before (enK p).1 = false := by simp [enK, Lit.before]; omega
      have e3 : ¬ x < p.1 := by omega
      have e4 : putI (p :: r) x v = p :: putI r x v := by simp [putI, h, e3]
      rw [List.map_cons, List.filter_cons_of_pos (p := fun q : Lit × DataW Value => !q.1.sameKey (.int .i64 x)) e1, DataW.insert, e2, e4, List.map_cons]
      simp only [Bool.false_eq_true, if_false]
      rw [ih]
    · have e1 : ¬ (!(enK p).1.sameKey (.int .i64 x)) = true := by simp [enK, Lit.sameKey]; omega
      have e4 : putI (p :: r) x v = putI r x v := by
        have a1 : ¬ p.1 < x := by omega
        have a2 : ¬ x < p.1 := by omega
        simp [putI, a1, a2]
      rw [List.map_cons, List.filter_cons_of_neg (p := fun q : Lit × DataW Value => !q.1.sameKey (.int .i64 x)) e1, ih, e4]
    · have e1 : (!(enK p).1.sameKey (.int .i64 x)) = true := by simp [enK, Lit.sameKey]; omega
      have e2 : (enK (x, v)).1.before (enK p).1 = true := by simp [enK, Lit.before]; omega
      have hf1 : (r.map enK).filter (fun q => !q.1.sameKey (.int .i64 x)) = r.map enK := List.filter_eq_self.2 fun q hq => by
        obtain ⟨s, hs, rfl⟩ := List.mem_map.1 hq
        have := h1 s hs
        simp [enK, Lit.sameKey]; omega
      have hf2 : r.filter (fun q => decide (q.1 < x)) = [] := List.filter_eq_nil_iff.2 fun s hs => by
        have := h1 s hs
        simp; omega
      have hf3 : r.filter (fun q => decide (x < q.1)) = r := List.filter_eq_self.2 fun s hs => by
        have := h1 s hs
        simp; omega
      have a1 : ¬ p.1 < x := by omega
      have e4 : putI (p :: r) x v = (x, v) :: p :: r := by simp [putI, h, a1, hf2, hf3]
      rw [List.map_cons, List.filter_cons_of_pos (p := fun q : Lit × DataW Value => !q.1.sameKey (.int .i64 x)) e1, hf1, DataW.insert, e2, e4]
      simp
theorem put_asD (hI : IncK es) (x : Int) (v : Value) : (asD es).put (.int .i64 x) (.held v) = asD (putI es x v) := by
  unfold asD DataW.put
  exact congrArg DataW.map (ins_asD x v hI)

theorem MapI.of_owns {n : Nat} (h : w.ownsMap P kT rawR b n (asD es)) : MapI P kT w b es := by
  obtain ⟨es', clock, hb, F, hs, hD⟩ := h
  refine ⟨es', clock, hb, F, ?_, hD⟩
  have h1 : (es.map enK) = _ := DataW.map.inj hD
  have h2 := congrArg List.length h1
  rw [List.length_map, length_read] at h2
  omega
theorem MapI.made (P : Program) (kT : TypeId) (w : World) : MapI P kT (w.alloc (.map #[] 0)) w.heap.size [] := World.ownsMap_made w P kT rawR
theorem MapI.inc (hk : P.underlying kT = some (.int .i64)) (h : MapI P kT w b es) : IncK es := by
  obtain ⟨es', h1, h2, _⟩ := World.ownsMap.canon h (int_keyed hk)
  obtain rfl : es.map enK = es' := DataW.map.inj h1
  exact (List.pairwise_map.1 h2).imp fun {p q} hpq => by simpa [enK, Lit.before] using hpq
theorem MapI.kept {row : Option Nat} (h : MapI P kT w b es) (hg : w.grownBy w' row) (hne : some b ≠ row) : MapI P kT w' b es := World.ownsMap.kept h hg hne
theorem MapI.keep (h : MapI P kT w b es) (hb : Below w.heap.size w w') : MapI P kT w' b es := by
  have hlt := World.ownsMap.lt h
  obtain ⟨es', clock, h1, F, hs, hD⟩ := h
  exact ⟨es', clock, (hb.block b hlt).trans h1, F, hs, hD⟩
theorem MapI.lt (h : MapI P kT w b es) : b < w.heap.size := World.ownsMap.lt h
theorem MapI.isMap (h : MapI P kT w b es) : ∃ es' clock, w.heap[b]? = some (.map es' clock) := by
  obtain ⟨es', clock, h1, _⟩ := h
  exact ⟨es', clock, h1⟩
end

section
variable {P : Program} (w : World) {ops : Array Oper} {rest : List Oper} {o : Oper} {a : Act} {Q : Exit → Act → World → Prop} {kT : TypeId}

/-- 'm[k]'. -/
theorem wpList_lookI (hg : o.guard = none) (m x : Operand) (t : TypeId) (hop : o.op = Op.lookup t m x false) (e : TypeId) (hk : P.underlying kT = some (.int .i64)) (ht : P.underlying t = some (.map kT e))
    (z : Value) (hz : (zeroValue e).run P w = .ok z w) (b : Nat) (es : List (Int × Value)) (hm : a.eval m = .map (some b)) (hown : MapI P kT w b es) (y : Int) (hx : a.eval x = .int .i64 y) (h1 : -9223372036854775808 ≤ y) (h2 : y ≤ 9223372036854775807)
    (hK : wpList P ops Q rest (a.put o.dst ((atI es y).getD z)) w) :
    wpList P ops Q (o :: rest) a w := by
  refine wpList_plain hg fun K' hK' => ?_
  obtain ⟨v, ps, hrun, hv⟩ := World.ownsMap.lookup hown (int_keyed hk) ht hz (zd := .held z) (zp := []) rfl (keyOf_int_mk hk (lit_i64 h1 h2))
  rw [atKey_asD] at hv
  obtain rfl : v = (atI es y).getD z := by
    have := (Prod.mk.inj (Option.some.inj hv)).1
    exact DataW.held.inj this
  unfold Oper.wp
  simp [execOp, hop, hm, hx, hrun, Result.andThen]
  exact hK' _ _ hK

/-- 'm[k] = v'. -/
theorem wpList_putI (hg : o.guard = none) (m x v : Operand) (t : TypeId) (hop : o.op = Op.mapUpdate t m x v) (e : TypeId) (hk : P.underlying kT = some (.int .i64)) (ht : P.underlying t = some (.map kT e))
    (b : Nat) (es : List (Int × Value)) (hm : a.eval m = .map (some b)) (hown : MapI P kT w b es) (hn : es.length < maxLen) (y : Int) (val : Value) (hx : a.eval x = .int .i64 y) (hv : a.eval v = val) (h1 : -9223372036854775808 ≤ y) (h2 : y ≤ 9223372036854775807)
    (hK : ∀ w', MapI P kT w' b (putI es y val) → w.grownBy w' (some b) → wpList P ops Q rest (a.put o.dst undef) w') :
    wpList P ops Q (o :: rest) a w := by
  refine wpList_mapUpdate_own w hg m x v t hop kT e (int_keyed hk) ht rawR b es.length (asD es) hm hown hn _ val _ hx hv (keyOf_int_mk hk (lit_i64 h1 h2)) (.held val) [] rfl fun w' hw' hgr => ?_
  rw [put_asD (MapI.inc hk hown)] at hw'
  exact hK w' (MapI.of_owns hw') hgr
end

section
/-- A range over the map in block b, its iterator in block r: done: what has come so far. -/
def RangesI (P : Program) (kT : TypeId) (w : World) (b r : Nat) (es done : List (Int × Value)) : Prop :=
  ∃ left cnt, w.ranges P kT rawR b r es.length (asD es) left cnt ∧ (∀ p ∈ es, (left (.int .i64 p.1) = true ↔ p ∉ done)) ∧ (∀ p ∈ done, p ∈ es) ∧ done.Nodup
variable {P : Program} {kT : TypeId} {w w' : World} {b r : Nat} {es done : List (Int × Value)}
theorem RangesI.map (h : RangesI P kT w b r es done) : MapI P kT w b es := by
  obtain ⟨left, cnt, h1, _⟩ := h
  exact h1.owns
theorem RangesI.kept {row : Option Nat} (h : RangesI P kT w b r es done) (hg : w.grownBy w' row) (hb : some b ≠ row) (hr : some r ≠ row) : RangesI P kT w' b r es done := by
  obtain ⟨left, cnt, h1, h2⟩ := h
  exact ⟨left, cnt, h1.kept hg hb hr, h2⟩
theorem RangesI.keep (h : RangesI P kT w b r es done) (hb : Below w.heap.size w w') : RangesI P kT w' b r es done := by
  obtain ⟨left, cnt, h1, h2⟩ := h
  have l1 := h1.owns.lt
  have l2 := h1.lt
  obtain ⟨es', clock, since, seen, c0, g1, F, hs, hD, g2, rest⟩ := h1
  exact ⟨left, cnt, ⟨es', clock, since, seen, c0, (hb.block b l1).trans g1, F, hs, hD, (hb.block r l2).trans g2, rest⟩, h2⟩
theorem RangesI.ltr (h : RangesI P kT w b r es done) : r < w.heap.size := by
  obtain ⟨left, cnt, h1, _⟩ := h
  exact h1.lt
theorem RangesI.done_perm (h : RangesI P kT w b r es done) (hk : P.underlying kT = some (.int .i64)) (hall : ∀ p ∈ es, p ∈ done) : done.Perm es := by
  have hI := h.map.inc hk
  obtain ⟨left, cnt, _, _, h3, h4⟩ := h
  have hes : es.Nodup := hI.imp fun {p q} hpq e => by subst e; omega
  exact (List.perm_ext_iff_of_nodup h4 hes).2 fun p => ⟨h3 p, hall p⟩
end

section
variable {P : Program} (w : World) {ops : Array Oper} {rest : List Oper} {o : Oper} {a : Act} {Q : Exit → Act → World → Prop} {kT : TypeId}
/-- 'range m'. -/
theorem wpList_rangeI (hg : o.guard = none) (m : Operand) (t : TypeId) (hop : o.op = Op.range t m) (e : TypeId) (hk : P.underlying kT = some (.int .i64)) (ht : P.underlying t = some (.map kT e)) (b : Nat) (es : List (Int × Value))
    (hm : a.eval m = .map (some b)) (hown : MapI P kT w b es)
    (hK : ∀ w', RangesI P kT w' b w.heap.size es [] → w.grownBy w' none → w'.heap.size = w.heap.size + 1 → wpList P ops Q rest (a.put o.dst (.pointer (some ⟨w.heap.size, 0, none⟩))) w') :
    wpList P ops Q (o :: rest) a w := by
  refine wpList_range_own w hg m t hop kT e (int_keyed hk) ht rawR b es.length (asD es) hm hown fun w' h1 h2 h3 => hK w' ⟨_, _, h1, (fun p hp => ?_), (fun p hp => absurd hp (by simp)), List.nodup_nil⟩ h2 h3
  rw [has_asD, atI_of_mem (MapI.inc hk hown) hp]
  simp

/-- The step. -/
theorem wpList_nextI (hg : o.guard = none) (it : Operand) (hop : o.op = Op.next it false) (hk : P.underlying kT = some (.int .i64)) (b r : Nat) (es done : List (Int × Value))
    (hit : a.eval it = .pointer (some ⟨r, 0, none⟩)) (h : RangesI P kT w b r es done)
    (hDone : done.Perm es → wpList P ops Q rest (a.put o.dst (.tuple #[.bool false])) w)
    (hMore : ∀ (p : Int × Value) (w' : World), p ∈ es → p ∉ done → RangesI P kT w' b r es (done ++ [p]) → w'.rangeLeft b r < w.rangeLeft b r → w.grownBy w' (some r) → w'.heap.size = w.heap.size →
      (Instr.entry (.pointer (some ⟨r, 0, none⟩))).run P w' = .ok (.tuple #[.int .i64 p.1, p.2]) w' → wpList P ops Q rest (a.put o.dst (.tuple #[.bool true, .int .i64 p.1, p.2])) w') :
    wpList P ops Q (o :: rest) a w := by
  have hI := h.map.inc hk
  have hperm := fun hall => h.done_perm hk hall
  obtain ⟨left, cnt, hrg, hleft, hsub, hnd⟩ := h
  refine wpList_next_ranges w hg it hop kT (int_keyed hk) rawR (Value.int .i64) id (fun key kl hkey => by obtain ⟨x, rfl, _⟩ := Maps.keyOf_int_inv hk hkey; exact ⟨x, rfl⟩) (fun v y hv => ⟨v, rfl⟩) b r es.length (asD es) left cnt hit hrg (fun _ hl => hDone (hperm fun p hp => ?_)) (fun x c kl y w' cnt' hkey hlk hv hat hrg' hlt hgr hsz hen => ?_)
  · have := hleft p hp
    rw [hl] at this
    simpa using this
  · obtain ⟨x', ex, rfl, hwx⟩ := Maps.keyOf_int_inv hk hkey
    cases ex
    have hhas : (atI es x).isSome = true := by rw [← has_asD]; exact Maps.has_true_of_atKey hat
    obtain ⟨v, hv'⟩ := Option.isSome_iff_exists.1 hhas
    have hc : c = v := by
      have h1 := hat (.held (.bool false))
      rw [atKey_asD, hv'] at h1
      have h2 := (Prod.mk.inj (Option.some.inj hv)).1
      rw [← h1] at h2
      exact DataW.held.inj h2
    subst hc
    have hp := atI_mem hv'
    have hnot : (x, c) ∉ done := fun hm => by
      exact (hleft _ hp).1 hlk hm
    refine hMore (x, c) w' hp hnot ⟨_, cnt', hrg', fun p hp' => ?_, fun p hp' => ?_, ?_⟩ (by rw [hrg'.left_eq, hrg.left_eq]; exact hlt) hgr hsz hen
    · show (left (.int .i64 p.1) && !(Lit.int .i64 p.1).sameKey (.int .i64 x)) = true ↔ _
      rw [Bool.and_eq_true, hleft p hp']
      by_cases hpx : p.1 = x
      · obtain rfl := inc_key hI hp' hp hpx
        simp [Lit.sameKey]
      · have hne : p ≠ (x, c) := fun e => hpx (by rw [e])
        simp [Lit.sameKey, hpx, hne]
    · rcases List.mem_append.1 hp' with h1 | h1
      · exact hsub p h1
      · obtain rfl := List.mem_singleton.1 h1
        exact hp
    · rw [List.nodup_append]
      exact ⟨hnd, by simp, fun p hp1 q hq => by obtain rfl := List.mem_singleton.1 hq; exact fun e => hnot (e ▸ hp1)⟩
end
end Go.Proofs.YtmonepclhbappaaGreatDoor
/-
  The document's SameInts; the element facts of a slice of ints.
-/
namespace Go.Proofs.YtmonepclhbappaaGreatDoor
open Go.RowKit
set_option maxRecDepth 100000

theorem elemInt : Elem Tryz.prog 22 3 (.int .i64 0) 1 8 := ⟨Tryz.underlying22, by kernel_rfl, rfl, by decide⟩

set_option maxHeartbeats 1000000 in
theorem SameInts_any (p q : List Int) (A B : Option Addr) (n m c d : Nat) (w : World) (hl : p.length = n) (hm : q.length = m) (hs : Sl w 1 A n (p.map (Value.int .i64))) (ht : Sl w 1 B m (q.map (Value.int .i64))) (hn : n ≤ 9223372036854775807) :
    Calls Tryz.prog 58 #[.slice A n c, .slice B m d] w fun e w' => e = .returned (.bool (decide (p = q))) ∧ Below w.heap.size w w' := by
  go_enter Tryz.func58, Tryz.ntmps58
  by_cases hnm : n = m
  · subst hnm
    go_wp2
    go_loopw [5] (fun i wr => ∃ k : Nat, k ≤ n ∧ i = .int .i64 k ∧ p.take k = q.take k ∧ Below w.heap.size w wr) (fun i _ => n - (intOf i).toNat)
    case atStart => exact ⟨0, Nat.zero_le _, rfl, rfl, Below.refl _ _⟩
    case round =>
      obtain ⟨k, hk, rfl, heq, hb⟩ := hrel
      by_cases hlt : k < n
      · have hj : k < p.length := by omega
        have hj' : k < q.length := by omega
        obtain ⟨b, off, u, rfl, e1, c1⟩ := (hs.keep hb).one hlt
        obtain ⟨b', off', u', rfl, e2, c2⟩ := (ht.keep hb).one hlt
        rw [List.getElem?_map, List.getElem?_eq_getElem hj] at e1
        rw [List.getElem?_map, List.getElem?_eq_getElem hj'] at e2
        obtain rfl := Option.some.inj e1
        obtain rfl := Option.some.inj e2
        have HT := Lib.hid (List.take_succ_eq_append_getElem hj)
        have HT' := Lib.hid (List.take_succ_eq_append_getElem hj')
        have HE := Lib.hid heq
        have HP := Lib.hid (fun h : p = q => (by subst h; rfl : p[k] = q[k]))
        generalize p[k] = x at *
        generalize q[k] = y at *
        clear e1 e2 heq hs ht
        by_cases hxy : x = y
        · subst hxy
          go_wp2_with fail
          go_quiet (fail)
          go_wp2_with fail
          go_roundw
          case rel => exact ⟨k + 1, by omega, by go_num, by rw [HT.out, HT'.out, HE.out], bel_drewN hb _⟩
          case measure => simp [intOf]; omega
        · have hb1 : (x == y) = false := by simpa using hxy
          go_wp2_with fail
          go_quiet (fail)
          go_wp2_with fail
          go_ret
          exact ⟨ret_bool (decide_eq_false (fun h => hxy (HP.out h))).symm, bel_drewN hb _⟩
      · obtain rfl : k = n := by omega
        rw [List.take_of_length_le (by omega), List.take_of_length_le (by omega)] at heq
        have HE := Lib.hid heq
        clear heq hs ht
        go_wp2
        go_ret
        exact ⟨ret_bool (decide_eq_true HE.out).symm, hb⟩
  · have hne : p ≠ q := fun h => hnm (by rw [← hl, ← hm, h])
    have HN := Lib.hid hne
    have hb1 : ((n : Int) == (m : Int)) = false := by simp; omega
    clear hne hs ht
    go_wp2
    go_ret
    exact ⟨ret_bool (decide_eq_false HN.out).symm, Below.refl _ _⟩

theorem SameInts_same (p : List Int) (A B : Option Addr) (n c d : Nat) (w : World) (hl : p.length = n) (hs : Sl w 1 A n (p.map (Value.int .i64))) (ht : Sl w 1 B n (p.map (Value.int .i64))) (hn : n ≤ 9223372036854775807) :
    Calls Tryz.prog 58 #[.slice A n c, .slice B n d] w fun e w' => e = .returned (.bool true) ∧ Below w.heap.size w w' := by
  have h := SameInts_any p p A B n n c d w hl hl hs ht hn
  rw [decide_eq_true rfl] at h
  exact h
end Go.Proofs.YtmonepclhbappaaGreatDoor
/-
  More words for memory: make, stores into an own row, what stays while another row changes.
-/
namespace Go.Proofs.YtmonepclhbappaaGreatDoor
open Go.RowKit

theorem make_elem {P : Program} {t e : TypeId} {z : Value} {bytes : Nat} (E : Elem P t e z 1 bytes) (hz1 : z.cells = #[z]) (n : Nat) (hb : bytes * n ≤ 281474976710656) (hn : n ≤ 9223372036854775807) (W : World) :
    (Instr.makeSlice t (.int .i64 n) (.int .i64 n)).run P W = .ok (.slice (some ⟨W.heap.size, 0, none⟩) n n) (W.alloc (.cells (Array.replicate n z) e)) := by
  obtain ⟨i, hi, hz, hsize, hby⟩ := info_parts E.hi
  have hb' : (i.bytes : Int) * (n : Int) ≤ 281474976710656 := by
    rw [hby]
    have h : ((bytes * n : Nat) : Int) ≤ 281474976710656 := by omega
    rwa [Int.natCast_mul] at h
  have hr := run_make (P := P) W t e i z E.ht hi hz .i64 .i64 n n (by omega) (Int.le_refl _) hb' (by omega)
  simp only [Int.toNat_natCast] at hr
  rw [hr, hsize, hz1, Nat.mul_one]
  congr 4
  apply Array.ext'
  rw [toList_madeCells_one]
  simp

theorem own_replicate {B : Nat} {e : TypeId} (W : World) (n : Nat) (z : Value) (hB : B ≤ W.heap.size) (hn : n ≤ 9223372036854775807) :
    (W.alloc (.cells (Array.replicate n z) e)).ownsRow B e 1 (.slice (some ⟨W.heap.size, 0, none⟩) n n) n (List.replicate n z) := by
  have := World.ownsRow_lit (base := B) (size := 1) (e := e) W (Array.replicate n z) n hB (by unfold maxLen; omega) (by simp)
  simpa using this

theorem ownsRow_setCells_below {base : Nat} {e : TypeId} {size : Nat} {v : Value} {n : Nat} {xs : List Value} {b : Nat} (hb : b < base) : ∀ (vs : List Value) (o : Nat) {w : World}, w.ownsRow base e size v n xs → (w.setCells b o vs).ownsRow base e size v n xs
  | [], _, _, h => h
  | u :: r, o, _, h => ownsRow_setCells_below hb r (o + 1) (ownsRow_setCell_below h (a := ⟨b, o, none⟩) hb u)
theorem bel_setCells {B b : Nat} {w : World} (hb : B ≤ b) : ∀ (vs : List Value) (o : Nat) {w' : World}, Below B w w' → Below B w (w'.setCells b o vs)
  | [], _, _, h => h
  | u :: r, o, _, h => bel_setCells hb r (o + 1) (h.setCell (p := ⟨b, o, none⟩) hb u)

theorem Sl.again {w : World} {b off n k : Nat} {xs : List Value} {u : Value} (h : Sl w 1 (some ⟨b, off, none⟩) n xs) (hk : k < n) (hu : xs[k]? = some u) : w.cell? ⟨b, off + k, none⟩ = some u := by
  obtain ⟨b', off', u', hA, h1, h2⟩ := h.one hk
  cases hA
  rw [hu] at h1
  cases h1
  exact h2

theorem Sl.take {w : World} {A : Option Addr} {n k : Nat} {xs : List Value} (h : Sl w 1 A n xs) (hk : k ≤ n) : Sl w 1 A k (xs.take k) := by
  have hl := h.1
  refine ⟨by rw [List.length_take]; omega, fun h0 => ?_⟩
  obtain ⟨b, off, hA, hc⟩ := h.2 (by omega)
  refine ⟨b, off, hA, fun j u hu => hc j u ?_⟩
  rw [List.getElem?_take] at hu
  split at hu
  · exact hu
  · cases hu
theorem Sl.drop {w : World} {b off n k : Nat} {xs : List Value} (h : Sl w 1 (some ⟨b, off, none⟩) n xs) (hk : k ≤ n) : Sl w 1 (some ⟨b, off + k, none⟩) (n - k) (xs.drop k) := by
  have hl := h.1
  refine ⟨by rw [List.length_drop]; omega, fun h0 => ?_⟩
  obtain ⟨b', off', hA, hc⟩ := h.2 (by omega)
  cases hA
  refine ⟨b, off + k, rfl, fun j u hu => ?_⟩
  rw [List.getElem?_drop] at hu
  have := hc (k + j) u hu
  rw [show off + k + j = off + (k + j) by omega]
  exact this

theorem own_cap {w : World} {B size n c : Nat} {e : TypeId} {A : Option Addr} {xs : List Value} (h : w.ownsRow B e size (.slice A n c) n xs) : n ≤ c ∧ c ≤ 9223372036854775807 := by
  rcases h.2 with ⟨h', h0⟩ | ⟨g, cap, cur, hv, _, _, h1, h2, _⟩
  · injection h' with _ _ h3
    omega
  · injection hv with _ _ h3
    subst h3
    exact ⟨h1, h2⟩
end Go.Proofs.YtmonepclhbappaaGreatDoor
/-
  More words for memory: a row that grows (Gr): nothing old has changed but the row; the law of append in that form.
-/
namespace Go.Proofs.YtmonepclhbappaaGreatDoor
open Go.RowKit

/-- From w to w': of the old blocks at most v's row has changed; v' lies in v's row or in a new one. -/
structure Gr (w w' : World) (v v' : Value) : Prop where
  g : w.grownBy w' v.ownBlock
  at_ : ∀ k, v'.ownBlock = some k → v.ownBlock = some k ∨ w.heap.size ≤ k

section
variable {w w1 w' : World} {v v1 v' : Value}
theorem gb_refl (w : World) (r : Option Nat) : w.grownBy w r := ⟨rfl, rfl, rfl, Nat.le_refl _, fun _ _ _ => rfl⟩
theorem gb_alloc (w : World) (o : Obj) (r : Option Nat) : w.grownBy (w.alloc o) r := ⟨rfl, rfl, rfl, by simp, fun k hk _ => Below.heap_alloc _ _ _ hk⟩
theorem gb_below (h : Below w.heap.size w w') (r : Option Nat) : w.grownBy w' r := ⟨h.os, h.tape, h.output, h.size, fun k hk _ => h.block k hk⟩
theorem Gr.refl (w : World) (v : Value) : Gr w w v v := ⟨gb_refl w _, fun _ h => .inl h⟩
theorem Gr.trans (h : Gr w w1 v v1) (k : Gr w1 w' v1 v') : Gr w w' v v' := by
  refine ⟨⟨k.g.os.trans h.g.os, k.g.tape.trans h.g.tape, k.g.output.trans h.g.output, Nat.le_trans h.g.size k.g.size, fun i hi hne => ?_⟩, fun i hi => ?_⟩
  · refine (k.g.block i (Nat.lt_of_lt_of_le hi h.g.size) (fun e => ?_)).trans (h.g.block i hi hne)
    rcases h.at_ i e.symm with h1 | h1
    · exact hne h1.symm
    · omega
  · rcases k.at_ i hi with h1 | h1
    · exact h.at_ i h1
    · exact .inr (Nat.le_trans h.g.size h1)
theorem Gr.of_below (h : Below w.heap.size w w') (v : Value) : Gr w w' v v := ⟨gb_below h _, fun _ h => .inl h⟩
theorem Gr.of_new (h : Below w.heap.size w w') (v : Value) (hv : ∀ k, v'.ownBlock = some k → w.heap.size ≤ k) : Gr w w' v v' := ⟨gb_below h _, fun k hk => .inr (hv k hk)⟩
theorem Gr.after_alloc {o : Obj} (h : Gr (w.alloc o) w' v v') : Gr w w' v v' := (Gr.of_below (bel_al (Below.refl _ _) o) v).trans h
theorem Gr.then_below (h : Gr w w1 v v') (k : Below w1.heap.size w1 w') : Gr w w' v v' := h.trans (Gr.of_below k v')
theorem Gr.below (h : Gr w w' v v') {B : Nat} (hB : B ≤ w.heap.size) (hv : ∀ k, v.ownBlock = some k → B ≤ k) : Below B w w' :=
  (Below.refl B w).grown h.g hB hv
theorem Gr.belowOwn (h : Gr w w' v v') {B size n : Nat} {e : TypeId} {xs : List Value} (hB : B ≤ w.heap.size) (hv : w.ownsRow B e size v n xs) : Below B w w' := h.below hB fun k hk => (hv.lt k hk).1
theorem Gr.blk (h : Gr w w' v v') {g : Nat} {t : TypeId} {cs : Array Value} (hb : Blk w g t cs) (hne : v.ownBlock ≠ some g) : Blk w' g t cs := (h.g.block g hb.lt (fun e => hne e.symm)).trans hb
theorem Gr.size (h : Gr w w' v v') : w.heap.size ≤ w'.heap.size := h.g.size
/-- A block of other cells than the row's stays. -/
theorem Gr.blkOwn (h : Gr w w' v v') {g B size n : Nat} {t e : TypeId} {cs : Array Value} {xs : List Value} (hb : Blk w g t cs) (hown : w.ownsRow B e size v n xs) (hne : t ≠ e) : Blk w' g t cs := hb.others hown h.g hne
end

/-- The row lies in no other place than this block, or is nil. -/
theorem own_notBlk {w : World} {g B size n : Nat} {t e : TypeId} {cs : Array Value} {v : Value} {xs : List Value} (hown : w.ownsRow B e size v n xs) (h : Blk w g t cs) (hne : t ≠ e) : v.ownBlock ≠ some g := by
  intro hc
  rcases hown.2 with ⟨rfl, _⟩ | ⟨g', cap, cur, rfl, _, hgg, _⟩
  · simp [Value.ownBlock] at hc
  · obtain rfl : g' = g := by simpa [Value.ownBlock] using hc
    unfold Blk at h
    rw [h] at hgg
    injection hgg with hgg
    injection hgg with _ ht
    exact hne ht

section
variable {P : Program} {ops : Array Oper} {rest : List Oper} {o : Oper} {a : Act} {Q : Exit → Act → World → Prop}
theorem run_cat_at {t ty e : TypeId} {z : Value} {size bytes : Nat} (E : Elem P t e z size bytes) {B : Nat} {W : World}
    {v : Value} {n : Nat} {xs : List Value} (hown : W.ownsRow B e size v n xs) (hB : B ≤ W.heap.size)
    {A : Option Addr} {m c : Nat} {ys : List Value} (hy : Sl W size A m ys) (h1 : ∀ u ∈ ys, u.oneCell' = true)
    (hlim : (n + m) * bytes ≤ lim) (hlim' : n + m ≤ lim) :
    ∃ v' w', (Builtin.append_ #[t, t] ty #[v, .slice A m c]).run P W = .ok v' w' ∧ w'.ownsRow B e size v' (n + m) (xs ++ ys) ∧ Gr W w' v v' := by
  obtain ⟨i, hi, hz, hsize, hby⟩ := info_parts E.hi
  unfold lim at hlim hlim'
  rcases Nat.eq_zero_or_pos m with hm | hm
  · subst hm
    have hys : ys = [] := List.eq_nil_of_length_eq_zero (by simpa using hy.1)
    subst hys
    refine ⟨v, W, ?_, by rw [List.append_nil]; exact hown, Gr.refl _ _⟩
    have ht := E.ht
    rcases hown.2 with ⟨rfl, rfl⟩ | ⟨g, cap, cur, rfl, _, _, hnc, _⟩
    · cases A <;> simp [Builtin.append_, run_underlying ht, sizeOf, typeInfo, hi, Builtin.lenOf, Builtin.firstCells, loadCells, loadCellsFrom]
    · cases A <;> simp [Builtin.append_, run_underlying ht, sizeOf, typeInfo, hi, Builtin.lenOf, Builtin.firstCells, loadCells, loadCellsFrom, hnc, storeCells]
  · obtain ⟨b, off, rfl, hc⟩ := hy.2 hm
    obtain ⟨v', w', hr, h2, h3, _, h5⟩ := run_append_own_at (P := P) W B t ty e i z size bytes E.ht hi hz hsize hby E.hzs E.hsz v n xs hown ⟨b, off, none⟩ m c ys hy.1 (fun j u hu => by
      have hadd : (⟨b, off, none⟩ : Addr).add j = ⟨b, off + j, none⟩ := by unfold Addr.add; split <;> simp_all
      rw [hadd]; exact hc j u hu) h1 (by unfold maxLen; omega) hlim hB
    refine ⟨v', w', hr, h2, h3, fun k hk => ?_⟩
    rcases h5 with h5 | h5
    · exact .inl (h5 ▸ hk)
    · exact .inr (by have := h5.symm.trans hk; injection this with this; omega)
/-- append(s, x...): onto a slice that the call owns, what a slice holds that reads. -/
theorem wpList_cat_at {t e : TypeId} {z : Value} {size bytes : Nat} (E : Elem P t e z size bytes) {B : Nat} {W : World} (s x : Operand)
    (hgd : o.guard = none) (ho : o.op = .call { callee := .builtin .append, args := #[s, x], argTypes := #[t, t] })
    {v : Value} {n : Nat} {xs : List Value} (hown : W.ownsRow B e size v n xs) (hB : B ≤ W.heap.size)
    {A : Option Addr} {m c : Nat} {ys : List Value} (hy : Sl W size A m ys)
    (hs : a.eval s = v) (hx : a.eval x = .slice A m c) (h1 : ∀ u ∈ ys, u.oneCell' = true)
    (hlim : (n + m) * bytes ≤ lim) (hlim' : n + m ≤ lim)
    (h : ∀ v' w', w'.ownsRow B e size v' (n + m) (xs ++ ys) → Gr W w' v v' → wpList P ops Q rest (a.put o.dst v') w') : wpList P ops Q (o :: rest) a W := by
  obtain ⟨v', w', hr, h2, h3⟩ := run_cat_at (P := P) (ty := o.type) (c := c) E hown hB hy h1 hlim hlim'
  refine wpList_plain hgd fun K hK => ?_
  unfold Oper.wp execOp
  simp only [ho, resolve, invoke, builtin, Sem.run_bind, Sem.run_pure, Result.andThen_ok, List.map_toArray, List.map_cons, List.map_nil, hs, hx, hr]
  exact hK _ _ (h v' w' h2 h3)
/-- The same, the new value written out. -/
theorem wpList_cat_lies {t e : TypeId} {z : Value} {size bytes : Nat} (E : Elem P t e z size bytes) {B : Nat} {W : World} (s x : Operand)
    (hgd : o.guard = none) (ho : o.op = .call { callee := .builtin .append, args := #[s, x], argTypes := #[t, t] })
    {v : Value} {n : Nat} {xs : List Value} (hown : W.ownsRow B e size v n xs) (hB : B ≤ W.heap.size)
    {A : Option Addr} {m c : Nat} {ys : List Value} (hy : Sl W size A m ys) (h0 : 0 < n + m)
    (hs : a.eval s = v) (hx : a.eval x = .slice A m c) (h1 : ∀ u ∈ ys, u.oneCell' = true)
    (hlim : (n + m) * bytes ≤ lim) (hlim' : n + m ≤ lim)
    (h : ∀ g cap w', w'.ownsRow B e size (.slice (some ⟨g, 0, none⟩) (n + m) cap) (n + m) (xs ++ ys) → Gr W w' v (.slice (some ⟨g, 0, none⟩) (n + m) cap) → wpList P ops Q rest (a.put o.dst (.slice (some ⟨g, 0, none⟩) (n + m) cap)) w') : wpList P ops Q (o :: rest) a W :=
  wpList_cat_at E s x hgd ho hown hB hy hs hx h1 hlim hlim' fun v' w' h2 h3 => by
    rcases h2.2 with ⟨_, h4⟩ | ⟨g, cap, cur, rfl, _⟩
    · omega
    · exact h g cap w' h2 h3
/-- The same as a step of a region that draws its order. -/
theorem step_cat_at {t e : TypeId} {z : Value} {size bytes : Nat} (E : Elem P t e z size bytes) {B : Nat} {W : World} {K : Act → World → Prop} {L : Prop} (s x : Operand)
    (hgd : o.guard = none) (ho : o.op = .call { callee := .builtin .append, args := #[s, x], argTypes := #[t, t] })
    {v : Value} {n : Nat} {xs : List Value} (hown : W.ownsRow B e size v n xs) (hB : B ≤ W.heap.size)
    {A : Option Addr} {m c : Nat} {ys : List Value} (hy : Sl W size A m ys)
    (hs : a.eval s = v) (hx : a.eval x = .slice A m c) (h1 : ∀ u ∈ ys, u.oneCell' = true)
    (hlim : (n + m) * bytes ≤ lim) (hlim' : n + m ≤ lim)
    (h : ∀ v' w', w'.ownsRow B e size v' (n + m) (xs ++ ys) → Gr W w' v v' → K (a.put o.dst v') w') :
    if Region.wanted o (yielded ops a.tmps) = true then Oper.wp P o a W K Q else L := by
  have hw : Region.wanted o (yielded ops a.tmps) = true := by simp [Region.wanted, hgd]
  rw [if_pos hw]
  obtain ⟨v', w', hr, h2, h3⟩ := run_cat_at (P := P) (ty := o.type) (c := c) E hown hB hy h1 hlim hlim'
  unfold Oper.wp execOp
  simp only [ho, resolve, invoke, builtin, Sem.run_bind, Sem.run_pure, Result.andThen_ok, List.map_toArray, List.map_cons, List.map_nil, hs, hx, hr]
  exact h v' w' h2 h3
end
section
variable {P : Program} {ops : Array Oper} {rest : List Oper} {o : Oper} {a : Act} {Q : Exit → Act → World → Prop}
/-- append onto a slice that is full, whoever it belongs to: a new row. -/
theorem wpList_full {t e : TypeId} {z : Value} {size bytes : Nat} (E : Elem P t e z size bytes) {W : World} (s x : Operand)
    (hgd : o.guard = none) (ho : o.op = .call { callee := .builtin .append, args := #[s, x], argTypes := #[t, t] })
    {B : Option Addr} {n : Nat} {xs : List Value} (hxs : Sl W size B n xs) (hn : 0 < n)
    {A : Option Addr} {m c : Nat} {ys : List Value} (hy : Sl W size A m ys) (hm : 0 < m)
    (hs : a.eval s = .slice B n n) (hx : a.eval x = .slice A m c) (h1 : ∀ u ∈ ys, u.oneCell' = true)
    (hlim : (n + m) * bytes ≤ lim) (hlim' : n + m ≤ lim)
    (h : ∀ v' w', w'.ownsRow W.heap.size e size v' (n + m) (xs ++ ys) → Below W.heap.size W w' → wpList P ops Q rest (a.put o.dst v') w') : wpList P ops Q (o :: rest) a W := by
  obtain ⟨i, hi, hz, hsize, hby⟩ := info_parts E.hi
  unfold lim at hlim hlim'
  obtain ⟨b, off, rfl, hc⟩ := hy.2 hm
  obtain ⟨b', off', rfl, hc'⟩ := hxs.2 hn
  have hadd : ∀ (b off j : Nat), (⟨b, off, none⟩ : Addr).add j = ⟨b, off + j, none⟩ := fun b off j => by unfold Addr.add; split <;> simp_all
  refine wpList_append_grows W hgd s x t ho e i z size bytes E.ht hi hz hsize hby E.hzs E.hsz (some ⟨b', off', none⟩) n n xs hs (fun h => by cases h) hxs.1 (fun b'' hb j u hu => ?_) ⟨b, off, none⟩ m c ys hx hy.1 (fun j u hu => ?_) h1 (by omega) (by unfold maxLen; omega) hlim ?_
  · injection hb with hb
    rw [← hb, hadd]; exact hc' j u hu
  · rw [hadd]; exact hc j u hu
  · intro v' w' h2 h3
    exact h v' w' h2 ⟨h3.os, h3.tape, h3.output, h3.size, fun k hk => h3.block k hk (fun e => by cases e)⟩
end
theorem Sl.newMark (w : World) (cs : List Value) (e : TypeId) (fr : Nat × Nat) (n : Nat) (hn : cs.length = n) : Sl (w.alloc (.cells cs.toArray e fr)) 1 (some ⟨w.heap.size, 0, none⟩) n cs :=
  ⟨by rw [hn, Nat.mul_one], fun _ => ⟨_, _, rfl, fun j u hu => by rw [Nat.zero_add, World.cell?_alloc_mark]; simpa using hu⟩⟩
theorem own_block {w w' : World} {B size n : Nat} {e : TypeId} {v : Value} {xs : List Value} (h : w.ownsRow B e size v n xs) (hb : ∀ g, v.ownBlock = some g → w'.heap[g]? = w.heap[g]?) : w'.ownsRow B e size v n xs := by
  refine ⟨h.1, ?_⟩
  rcases h.2 with h' | ⟨g, cap, cur, rfl, h1, h2, h3⟩
  · exact .inl h'
  · exact .inr ⟨g, cap, cur, rfl, h1, (hb g rfl).trans h2, h3⟩
theorem own_ne {w : World} {B B' size size' n n' : Nat} {e e' : TypeId} {v v' : Value} {xs xs' : List Value} (h : w.ownsRow B e size v n xs) (h' : w.ownsRow B' e' size' v' n' xs') (hne : e ≠ e') {g g' : Nat} (hg : v.ownBlock = some g) (hg' : v'.ownBlock = some g') : g ≠ g' := by
  rintro rfl
  rcases h.2 with ⟨rfl, _⟩ | ⟨b, cap, cur, rfl, _, h2, _⟩
  · simp [Value.ownBlock] at hg
  · rcases h'.2 with ⟨rfl, _⟩ | ⟨b', cap', cur', rfl, _, h2', _⟩
    · simp [Value.ownBlock] at hg'
    · obtain rfl : b = g := by simpa [Value.ownBlock] using hg
      obtain rfl : b' = b := by simpa [Value.ownBlock] using hg'
      rw [h2] at h2'
      injection h2' with h2'
      injection h2' with _ h3
      exact hne h3
theorem own_grown {w w' : World} {B B' size size' n n' : Nat} {e e' : TypeId} {v v' : Value} {xs xs' : List Value} (h : w.ownsRow B e size v n xs) (h' : w.ownsRow B' e' size' v' n' xs') (hne : e ≠ e') (hg : w.grownBy w' v'.ownBlock) : w'.ownsRow B e size v n xs :=
  own_block h fun g hb => hg.block g (h.lt g hb).2 (fun e => own_ne h h' hne hb e.symm rfl)
theorem own_set {w : World} {B B' size size' n n' c' : Nat} {e e' : TypeId} {v : Value} {b : Nat} {xs xs' : List Value} (h : w.ownsRow B e size v n xs) (h' : w.ownsRow B' e' size' (.slice (some ⟨b, 0, none⟩) n' c') n' xs') (hne : e ≠ e') (j : Nat) (u : Value) : (w.setCell ⟨b, j, none⟩ u).ownsRow B e size v n xs :=
  own_block h fun g hb => heap_setCell_other w ⟨b, j, none⟩ g u (own_ne h h' hne hb rfl)
theorem own_below {w w' : World} {B Bc size n : Nat} {e : TypeId} {v : Value} {xs : List Value} (h : w.ownsRow B e size v n xs) (hB : ∀ g, v.ownBlock = some g → g < Bc) (hb : Below Bc w w') : w'.ownsRow B e size v n xs :=
  own_block h fun g hg => hb.block g (hB g hg)

theorem own_form {w : World} {B size n : Nat} {e : TypeId} {v : Value} {xs : List Value} (h : w.ownsRow B e size v n xs) (hn : 0 < n) : ∃ g cap, v = .slice (some ⟨g, 0, none⟩) n cap ∧ B ≤ g := by
  rcases h.2 with ⟨_, h0⟩ | ⟨g, cap, cur, hv, hg, _⟩
  · omega
  · exact ⟨g, cap, hv, hg⟩

theorem own_mono {w : World} {B B' size n : Nat} {e : TypeId} {v : Value} {xs : List Value} (h : w.ownsRow B e size v n xs) (hB : B' ≤ B) : w.ownsRow B' e size v n xs := by
  refine ⟨h.1, ?_⟩
  rcases h.2 with h' | ⟨g, cap, cur, hv, h1, h2⟩
  · exact .inl h'
  · exact .inr ⟨g, cap, cur, hv, Nat.le_trans hB h1, h2⟩
theorem own_cell {w : World} {B g n c m : Nat} {e : TypeId} {k : IntKind} {l : List Int} {x : Int} (h : w.ownsRow B e 1 (.slice (some ⟨g, 0, none⟩) n c) n (l.map (Value.int k))) (hx : l[m]? = some x) : w.cell? ⟨g, m, none⟩ = some (.int k x) := by
  have hl := h.1
  have hm := (List.getElem?_eq_some_iff.1 hx).1
  rw [List.length_map] at hl
  rw [h.cellAt m (by omega), List.getElem?_map, hx]; rfl
theorem drew_bel {w w' : World} (h : ∃ m, w' = w.drewN m) : Below w.heap.size w w' := by
  obtain ⟨m, rfl⟩ := h
  exact bel_drewN (Below.refl _ _) m
/-- A slice's length. -/
def lenV : Value → Nat
  | .slice _ k _ => k
  | _ => 0
theorem lenV_own {w : World} {B size n : Nat} {e : TypeId} {v : Value} {xs : List Value} (h : w.ownsRow B e size v n xs) : lenV v = n := by
  rcases h.2 with ⟨rfl, h0⟩ | ⟨g, cap, cur, rfl, _⟩
  · exact h0.symm
  · rfl

theorem one_u8 (l : List Int) : ∀ u ∈ l.map (Value.int .u8), u.oneCell' = true := by
  intro u hu
  obtain ⟨x, _, rfl⟩ := List.mem_map.1 hu
  rfl
theorem one_i64 (l : List Int) : ∀ u ∈ l.map (Value.int .i64), u.oneCell' = true := by
  intro u hu
  obtain ⟨x, _, rfl⟩ := List.mem_map.1 hu
  rfl
/-- A new block's cells, as a slice that reads. -/
theorem Sl.newAt (w : World) (cs : List Value) (e : TypeId) (n : Nat) (hn : cs.length = n) : Sl (w.alloc (.cells cs.toArray e)) 1 (some ⟨w.heap.size, 0, none⟩) n cs := by
  have := Sl.new w cs.toArray e
  simpa [hn] using this
end Go.Proofs.YtmonepclhbappaaGreatDoor
/-
  Rows of rows of ints: each inner list lies so.
-/
namespace Go.Proofs.YtmonepclhbappaaGreatDoor
open Go.RowKit
set_option maxRecDepth 100000
set_option linter.unusedVariables false

theorem elemIntsQ : Elem Tryz.prog 56 22 (.slice none 0 0) 1 24 := ⟨Tryz.underlying56, by kernel_rfl, rfl, by decide⟩
/-- A row's value; its list lies so. -/
def rv (t : Option Addr × Nat × List Int) : Value := .slice t.1 t.2.2.length t.2.1
def RowOK (w : World) (t : Option Addr × Nat × List Int) : Prop := Sl w 1 t.1 t.2.2.length (t.2.2.map (Value.int .i64)) ∧ t.2.2.length ≤ t.2.1 ∧ t.2.1 ≤ 9223372036854775807
theorem RowOK.keep {w w' : World} {t : Option Addr × Nat × List Int} (h : RowOK w t) (hb : Below w.heap.size w w') : RowOK w' t := ⟨h.1.keep hb, h.2⟩
theorem Sl.grownQ {w w' : World} {A : Option Addr} {n : Nat} {xs : List Value} {row : Option Nat} (h : Sl w 1 A n xs) (hg : w.grownBy w' row) (hA : ∀ x : Addr, A = some x → x.block < w.heap.size ∧ some x.block ≠ row) : Sl w' 1 A n xs := by
  refine ⟨h.1, fun hn => ?_⟩
  obtain ⟨b0, off, rfl, h2⟩ := h.2 hn
  refine ⟨b0, off, rfl, fun j v hj => ?_⟩
  exact (World.cell?_of_block (w := w) (a := ⟨b0, off + j, none⟩) (hg.block b0 (hA _ rfl).1 (hA _ rfl).2)).trans (h2 j v hj)
/-- The rows of a row of rows: each lies so, apart from the row itself. -/
def RowsOK (w : World) (nv : Value) (its : List (Option Addr × Nat × List Int)) : Prop := ∀ t ∈ its, RowOK w t ∧ ∀ x : Addr, t.1 = some x → x.block < w.heap.size ∧ some x.block ≠ nv.ownBlock
theorem RowsOK.keep {w w' : World} {nv : Value} {its : List (Option Addr × Nat × List Int)} (h : RowsOK w nv its) (hb : Below w.heap.size w w') : RowsOK w' nv its := fun t ht => ⟨(h t ht).1.keep hb, fun x hx => ⟨Nat.lt_of_lt_of_le ((h t ht).2 x hx).1 hb.size, ((h t ht).2 x hx).2⟩⟩
theorem RowsOK.grow {w w' : World} {nv nv' : Value} {its : List (Option Addr × Nat × List Int)} (h : RowsOK w nv its) (hg : Gr w w' nv nv') : RowsOK w' nv' its := fun t ht => by
  refine ⟨⟨(h t ht).1.1.grownQ hg.g (h t ht).2, (h t ht).1.2⟩, fun x hx => ?_⟩
  have h1 := (h t ht).2 x hx
  refine ⟨Nat.lt_of_lt_of_le h1.1 hg.size, fun e => ?_⟩
  rcases hg.at_ x.block e.symm with h3 | h3
  · exact h1.2 h3.symm
  · omega
theorem RowsOK.snoc {w : World} {nv : Value} {its : List (Option Addr × Nat × List Int)} {t : Option Addr × Nat × List Int} (h : RowsOK w nv its) (ht : RowOK w t ∧ ∀ x : Addr, t.1 = some x → x.block < w.heap.size ∧ some x.block ≠ nv.ownBlock) : RowsOK w nv (its ++ [t]) := fun u hu => by
  rcases List.mem_append.1 hu with hu | hu
  · exact h u hu
  · obtain rfl : u = t := by simpa using hu
    exact ht/-- Rows, each of which lies so. -/
def AllRows (w : World) (its : List (Option Addr × Nat × List Int)) : Prop := ∀ t ∈ its, RowOK w t
theorem AllRows.keep {w w' : World} {its : List (Option Addr × Nat × List Int)} (h : AllRows w its) (hb : Below w.heap.size w w') : AllRows w' its := fun t ht => (h t ht).keep hb
theorem its_row {its : List (Option Addr × Nat × List Int)} {k : Nat} (h : k < its.length) : ∃ D d l, its[k]? = some (D, d, l) ∧ (its.map (·.2.2))[k]? = some l :=
  ⟨its[k].1, its[k].2.1, its[k].2.2, by rw [List.getElem?_eq_getElem h], by rw [List.getElem?_map, List.getElem?_eq_getElem h]; rfl⟩
/-- A row of rows with one row more: a new one. -/
theorem rows_more {wr w5 w6 : World} {B j : Nat} {nv nv' : Value} {jts : List (Option Addr × Nat × List Int)} {g c : Nat} {l : List Int} {et : TypeId} (HO : wr.ownsRow B et 1 nv j (jts.map rv)) (HJ : RowsOK wr nv jts) (hb5 : Below wr.heap.size wr w5)
    (hit : RowOK w5 (some ⟨g, 0, none⟩, c, l)) (hg : wr.heap.size ≤ g) (hg5 : g < w5.heap.size) (hown6 : w6.ownsRow B et 1 nv' (j + 1) (jts.map rv ++ [rv (some ⟨g, 0, none⟩, c, l)])) (hgr : Gr w5 w6 nv nv') :
    w6.ownsRow B et 1 nv' (j + 1) ((jts ++ [((some ⟨g, 0, none⟩ : Option Addr), c, l)]).map rv) ∧ RowsOK w6 nv' (jts ++ [((some ⟨g, 0, none⟩ : Option Addr), c, l)]) := by
  refine ⟨by rw [List.map_append]; exact hown6, RowsOK.grow (RowsOK.snoc (HJ.keep hb5) ⟨hit, fun x hx => ?_⟩) hgr⟩
  cases hx
  refine ⟨hg5, fun (e : some g = nv.ownBlock) => ?_⟩
  have := (HO.lt g (Eq.symm e)).2
  omega
end Go.Proofs.YtmonepclhbappaaGreatDoor
