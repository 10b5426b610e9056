/-
  Part 16 of the proof of LoadBytes: GrQ, GrW0, RegI, RegQ, GrE, LdF, LdG.
-/
import Derived.Test.YtbbmgcdocolakaaGreatDoorLoadBytesM11
import Derived.Test.YtbbmgcdocolakaaGreatDoorLoadBytesM12
import Derived.Test.YtbbmgcdocolakaaGreatDoorLoadBytesM15
import Derived.WalkKit
import Derived.Lib.Hide
import Derived.Deep.RegionWith
import Derived.Deep.QuietTactic
import Derived.BigQuiet
import Derived.Test.YtbbmgcdocolakaaGreatDoorLoadBytesM8
import Derived.Test.YtbbmgcdocolakaaGreatDoorLoadBytesM5
set_option linter.unusedVariables false
/-
  Graphs, plainly: which lists make the same one.
-/
namespace Go.Proofs.YtbbmgcdocolakaaGreatDoor
open Go.RowKit
set_option linter.unusedVariables false
namespace Gh
theorem turnE_ok {n : Nat} {e : Int × Int} (h : Pt.EdgeOK n e) : turnE e = e := by
  unfold turnE
  rw [if_pos (by have := h.2.1; omega)]
theorem goE_all {n : Nat} : ∀ (E acc : List (Int × Int)), Has n (acc ++ E.map turnE) → goE n acc E = .ok (acc ++ E.map turnE)
  | [], acc, _ => by simp [goE]
  | e :: E, acc, h => by
    have h' : Has n ((acc ++ [turnE e]) ++ E.map turnE) := by
      rw [List.append_assoc]
      exact h
    have hb : badE n acc e = 0 := bad_of (h.ok _ (by simp)) fun hm => by
      have := (List.nodup_append.1 h.nd).2.2 (turnE e) hm (turnE e) (by simp)
      exact this rfl
    rw [goE_step hb, goE_all E (acc ++ [turnE e]) h']
    simp
def labsOK (L : List Int) : Prop := ∀ x ∈ L, 0 ≤ x ∧ x ≤ 255
theorem labs_none {L : List Int} (h : labsOK L) : L.findIdx? labBad = none := by
  rw [List.findIdx?_eq_none_iff]
  intro x hx
  have := h x hx
  unfold labBad
  simp
  omega
theorem new_of {L : List Int} {E : List (Int × Int)} (h1 : L.length ≤ 4096) (h2 : E.length ≤ 16384) (h3 : labsOK L) (h4 : Has L.length (E.map turnE)) : newR L E = .ok (E.map turnE) := by
  unfold newR
  rw [if_neg (by omega), labs_none h3]
  have := goE_all E [] (by simpa using h4)
  simpa using this
theorem map_turn {n : Nat} {F : List (Int × Int)} (h : ∀ e ∈ F, Pt.EdgeOK n e) : F.map turnE = F := by
  conv => rhs; rw [← List.map_id F]
  exact List.map_congr_left fun e he => turnE_ok (h e he)
theorem Has.perm {n : Nat} {F G : List (Int × Int)} (h : Has n F) (hp : G.Perm F) : Has n G := ⟨fun e he => h.ok e (hp.subset he), hp.nodup_iff.2 h.nd⟩
/-- The graph's own edges make it. -/
theorem new_same {L : List Int} {F : List (Int × Int)} (h1 : L.length ≤ 4096) (h2 : F.length ≤ 16384) (h3 : labsOK L) (h4 : Has L.length F) : newR L F = .ok F := by
  have hm := map_turn h4.ok
  rw [new_of h1 h2 h3 (by rw [hm]; exact h4), hm]
theorem sort_same {n : Nat} {F : List (Int × Int)} (h : Has n F) (hr : Pt.Rise F) : sortG F = F := (sort_is h.nd (.refl _) hr).symm
/-- The other way round, from the last one on. -/
def backE (F : List (Int × Int)) : List (Int × Int) := F.reverse.map fun e => (e.2, e.1)
theorem turn_flip {n : Nat} {e : Int × Int} (h : Pt.EdgeOK n e) : turnE (e.2, e.1) = e := by
  unfold turnE
  rw [if_neg (by have := h.2.1; simp only; omega)]
theorem back_turn {n : Nat} {F : List (Int × Int)} (h : ∀ e ∈ F, Pt.EdgeOK n e) : (backE F).map turnE = F.reverse := by
  unfold backE
  rw [List.map_map]
  conv => rhs; rw [← List.map_id F.reverse]
  exact List.map_congr_left fun e he => turn_flip (h e (List.mem_reverse.1 he))
theorem new_back {L : List Int} {F : List (Int × Int)} (h1 : L.length ≤ 4096) (h2 : F.length ≤ 16384) (h3 : labsOK L) (h4 : Has L.length F) : newR L (backE F) = .ok F.reverse := by
  have hm := back_turn h4.ok
  rw [new_of h1 (by unfold backE; simpa using h2) h3 (by rw [hm]; exact h4.perm (List.reverse_perm F)), hm]
theorem back_sort {n : Nat} {F : List (Int × Int)} (h : Has n F) (hr : Pt.Rise F) : sortG F.reverse = F := (sort_is ((List.reverse_perm F).nodup_iff.2 h.nd) (List.reverse_perm F).symm hr).symm
theorem Has.more {n m : Nat} {F : List (Int × Int)} (h : Has n F) (hm : n ≤ m) : Has m F := ⟨fun e he => by
  have := h.ok e he
  exact ⟨this.1, this.2.1, by have := this.2.2; omega⟩, h.nd⟩
theorem goE_app {n : Nat} {r : List (Int × Int)} : ∀ (E acc : List (Int × Int)), Has n (acc ++ E.map turnE) → goE n acc (E ++ r) = goE n (acc ++ E.map turnE) r
  | [], acc, _ => by simp
  | e :: E, acc, h => by
    have h' : Has n ((acc ++ [turnE e]) ++ E.map turnE) := by
      rw [List.append_assoc]
      exact h
    have hb : badE n acc e = 0 := bad_of (h.ok _ (by simp)) fun hm => by
      have := (List.nodup_append.1 h.nd).2.2 (turnE e) hm (turnE e) (by simp)
      exact this rfl
    rw [List.cons_append, goE_step hb, goE_app E (acc ++ [turnE e]) h']
    simp
/-- One that is there already, behind all. -/
theorem new_twice {L : List Int} {F : List (Int × Int)} {d : Int × Int} (h1 : L.length ≤ 4096) (h2 : F.length < 16384) (h3 : labsOK L) (h4 : Has L.length F) (hd : d ∈ F) : newR L (backE F ++ [d]) = .edge 4 F.length := by
  have hm := back_turn h4.ok
  unfold newR
  rw [if_neg (by unfold backE; simp; omega), labs_none h3]
  have ho := h4.ok d hd
  have hb : badE L.length F.reverse d = 4 := by
    unfold badE
    have ht := turnE_ok ho
    have a1 := ho.1
    have a2 := ho.2.1
    have a3 := ho.2.2
    rw [ht, if_neg (by omega), if_neg (by omega), if_pos (List.mem_reverse.2 hd)]
  show goE L.length [] (backE F ++ [d]) = _
  rw [goE_app _ _ (by rw [hm]; simpa using h4.perm (List.reverse_perm F)), hm, List.nil_append, goE_bad (by rw [hb]; decide), hb, List.length_reverse]
/-- A loop ahead of all. -/
theorem new_loop {L : List Int} {E : List (Int × Int)} (h1 : L.length ≤ 4096) (h2 : E.length < 16384) (h3 : labsOK L) : ∃ c, newR L ((0, 0) :: E) = .edge c 0 := by
  unfold newR
  rw [if_neg (by rw [List.length_cons]; omega), labs_none h3]
  have hb : badE L.length [] (0, 0) ≠ 0 := fun h => by
    have := (bad_zero h).1.2.1
    unfold turnE at this
    simp at this
  exact ⟨_, goE_bad hb⟩
end Gh
end Go.Proofs.YtbbmgcdocolakaaGreatDoor
/-
  graph.New: what it answers; words for its memory.
-/
namespace Go.Proofs.YtbbmgcdocolakaaGreatDoor
open Go.RowKit
set_option maxRecDepth 100000
set_option linter.unusedVariables false

def tGraph : ByteArray := ⟨#[103, 114, 97, 112, 104]⟩
def tLabel : ByteArray := ⟨#[108, 97, 98, 101, 108]⟩
def tEdge : ByteArray := ⟨#[101, 100, 103, 101]⟩
/-- A graph in memory. -/
def GraphAt (w : World) (g : Nat) (L : List Int) (F : List (Int × Int)) : Prop :=
  ∃ (A : Option Addr) (c : Nat) (B : Option Addr) (d C N I : Nat), Blk w g 74 #[.slice A L.length c, .slice B F.length d, .slice (some ⟨C, 0, none⟩) (L.length + 1) (L.length + 1), .slice (some ⟨N, 0, none⟩) (2 * F.length) (2 * F.length), .slice (some ⟨I, 0, none⟩) (2 * F.length) (2 * F.length)] ∧
    Sl w 1 A L.length (L.map (Value.int .i64)) ∧ Sl w 2 B F.length (Rk.cells F) ∧ Sl w 1 (some ⟨C, 0, none⟩) (L.length + 1) ((Gh.tab (L.length + 1) (Gh.sumF F)).map (Value.int .i64)) ∧
    (∃ xs : List Int, Sl w 1 (some ⟨N, 0, none⟩) (2 * F.length) (xs.map (Value.int .i64))) ∧ (∃ xs : List Int, Sl w 1 (some ⟨I, 0, none⟩) (2 * F.length) (xs.map (Value.int .i64)))
theorem GraphAt.keep {w w' : World} {g : Nat} {L : List Int} {F : List (Int × Int)} (h : GraphAt w g L F) (hb : Below w.heap.size w w') : GraphAt w' g L F := by
  obtain ⟨A, c, B, d, C, N, I, h1, h2, h3, h4, ⟨xs, h5⟩, ⟨ys, h6⟩⟩ := h
  exact ⟨A, c, B, d, C, N, I, h1.keep hb, h2.keep hb, h3.keep hb, h4.keep hb, ⟨xs, h5.keep hb⟩, ⟨ys, h6.keep hb⟩⟩
/-- What New answers. -/
def NewRes (L : List Int) (E : List (Int × Int)) (w : World) (e : Ending) (w' : World) : Prop :=
  Below w.heap.size w w' ∧ match Gh.newR L E with
    | .ok F => ∃ g, e = .returned (.tuple #[.pointer (some ⟨g, 0, none⟩), .nilIface]) ∧ GraphAt w' g L (Gh.sortG F)
    | .big => ∃ v, e = .returned (.tuple #[.pointer none, v]) ∧ (Err.flt 6 0 tGraph).At w' v
    | .lab i => ∃ v, e = .returned (.tuple #[.pointer none, v]) ∧ (Err.flt 3 (i : Nat) tLabel).At w' v
    | .edge c i => ∃ v, e = .returned (.tuple #[.pointer none, v]) ∧ (Err.step tEdge (.flt c (i : Nat) tEdge)).At w' v
theorem OnEd.same {w w' : World} {b n : Nat} {f : Int → Int → Bool} (h : OnEd w b n f) (hb : w'.heap[b]? = w.heap[b]?) : OnEd w' b n f := by
  obtain ⟨D, h1, h2⟩ := h
  obtain ⟨es', clock, h3, F, hs, hD⟩ := h1
  exact ⟨D, ⟨es', clock, hb.trans h3, F, hs, hD⟩, h2⟩
/-- All blocks but two are as they were. -/
def Asd2 (p q : Nat) (w w' : World) : Prop := w.heap.size ≤ w'.heap.size ∧ ∀ k, k < w.heap.size → k ≠ p → k ≠ q → w'.heap[k]? = w.heap[k]?
theorem Asd2.refl (p q : Nat) (w : World) : Asd2 p q w w := ⟨Nat.le_refl _, fun _ _ _ _ => rfl⟩
theorem Asd2.then {p q : Nat} {a w w' : World} (h : Asd2 p q a w) (hb : Below w.heap.size w w') : Asd2 p q a w' := ⟨Nat.le_trans h.1 hb.size, fun k hk hp hq => (hb.block k (Nat.lt_of_lt_of_le hk h.1)).trans (h.2 k hk hp hq)⟩
theorem Asd2.grown {p q : Nat} {a w w' : World} (h : Asd2 p q a w) (hg : w.grownBy w' (some p)) : Asd2 p q a w' := ⟨Nat.le_trans h.1 hg.size, fun k hk hp hq => (hg.block k (Nat.lt_of_lt_of_le hk h.1) (fun e => hp (Option.some.inj e))).trans (h.2 k hk hp hq)⟩
theorem Asd2.low {p q : Nat} {a w w' : World} (h : Asd2 p q a w) (hb : Below a.heap.size w w') : Asd2 p q a w' := ⟨Nat.le_trans h.1 hb.size, fun k hk hp hq => (hb.block k hk).trans (h.2 k hk hp hq)⟩
theorem Asd2.setq {p q : Nat} {a w : World} (h : Asd2 p q a w) (i : Nat) (u : Value) : Asd2 p q a (w.setCell ⟨q, i, none⟩ u) := ⟨by simpa using h.1, fun k hk hp hq => (Below.heap_setCell w ⟨q, i, none⟩ u k hq).trans (h.2 k hk hp hq)⟩
theorem lab_first {L : List Int} {k : Nat} {x : Int} (hx : L[k]? = some x) (hb : Gh.labBad x = true) (hn : ∀ j y, j < k → L[j]? = some y → Gh.labBad y = false) : L.findIdx? Gh.labBad = some k := by
  obtain ⟨h1, h2⟩ := List.getElem?_eq_some_iff.1 hx
  rw [List.findIdx?_eq_some_iff_getElem]
  refine ⟨h1, by rw [h2]; exact hb, fun j hj => ?_⟩
  rw [hn j _ hj (List.getElem?_eq_getElem (by omega))]
  decide
theorem lab_all {L : List Int} (hn : ∀ j y, j < L.length → L[j]? = some y → Gh.labBad y = false) : L.findIdx? Gh.labBad = none := by
  rw [List.findIdx?_eq_none_iff]
  intro x hx
  obtain ⟨j, hj⟩ := List.mem_iff_getElem?.1 hx
  exact hn j x (List.getElem?_eq_some_iff.1 hj).1 hj
end Go.Proofs.YtbbmgcdocolakaaGreatDoor
/-
  A region that draws its order, by an invariant: whatever may come up keeps it; so no order is gone through by itself.
-/
namespace Go.Proofs.YtbbmgcdocolakaaGreatDoor
open Go.RowKit
set_option linter.unusedVariables false

theorem set_fewer : ∀ (l : List Bool) (i : Nat), l[i]? = some false → ((l.set i true).filter (! ·)).length + 1 = (l.filter (! ·)).length
  | [], i, h => by simp at h
  | b :: l, 0, h => by
    obtain rfl : b = false := by simpa using h
    simp
  | b :: l, i + 1, h => by
    have ih := set_fewer l i (by simpa using h)
    rw [List.set_cons_succ]
    cases b
    · simp only [List.filter_cons, Bool.not_false, if_true, List.length_cons]
      omega
    · simp only [List.filter_cons, Bool.not_true, Bool.false_eq_true, if_false]
      exact ih
section
variable {P : Program} {md : Region.Mode} {ops : Array Oper} {Q : Exit → Act → World → Prop}
theorem ready_open {listed : Array Bool} {i : Nat} (hi : i ∈ Region.ready md ops listed) : listed.toList[i]? = some false := by
  have h := (mem_ready.1 hi).1
  rw [Array.getElem?_toList]
  rw [Array.getD_eq_getD_getElem?] at h
  cases hx : listed[i]? with
  | none => rw [hx] at h; simp at h
  | some b => rw [hx] at h; simp at h; rw [h]
theorem wpAny_inv {I : Array Bool → Act → World → Prop}
    (hstep : ∀ (i : Nat) (listed : Array Bool) (a : Act) (w : World), i ∈ Region.ready md ops listed → I listed a w → wpOp P ops Q i (fun a' w' => I (listed.setIfInBounds i true) a' w') a w)
    (hend : ∀ (listed : Array Bool) (a : Act) (w : World), Region.ready md ops listed = [] → I listed a w → Q .normal a w) :
    ∀ (fuel : Nat) (listed : Array Bool) (a : Act) (w : World), (listed.toList.filter (! ·)).length ≤ fuel → I listed a w → wpAny P md ops Q fuel listed a w
  | 0, listed, a, w, hf, h => by
    have hnil : Region.ready md ops listed = [] := by
      refine List.eq_nil_iff_forall_not_mem.2 fun i hi => ?_
      have := set_fewer _ _ (ready_open hi)
      omega
    exact ⟨hnil, hend listed a w hnil h⟩
  | fuel + 1, listed, a, w, hf, h =>
    ⟨fun h0 => hend listed a w h0 h, fun i hi => wpOp_mono (fun a' w' h' => wpAny_inv hstep hend fuel _ a' w' (by
      have := set_fewer _ _ (ready_open hi)
      rw [Array.toList_setIfInBounds]
      omega) h') (hstep i listed a w hi h)⟩
/-- A region by an invariant. -/
theorem wp_region_inv {id : Nat} {a : Act} {w : World} (I : Array Bool → Act → World → Prop) (hm : P.follows .mixedOrders = true) (h0 : I (Array.replicate ops.size false) a w.drew)
    (hstep : ∀ (i : Nat) (listed : Array Bool) (a : Act) (w : World), i ∈ Region.ready .any ops listed → I listed a w → wpOp P ops Q i (fun a' w' => I (listed.setIfInBounds i true) a' w') a w)
    (hend : ∀ (listed : Array Bool) (a : Act) (w : World), Region.ready .any ops listed = [] → I listed a w → Q .normal a w) : (Code.region id ops true).wp P Q a w :=
  wp_region_any hm (wpAny_inv hstep hend _ _ _ _ (by simp) h0)
end
section
variable {P : Program} {ops : Array Oper} {C : World → Prop}
/-- A region whose operations leave the world in a class: one walk in the order of the text serves every order. -/
theorem wp_region_cls {id : Nat} {Q : Exit → Act → World → Prop} {a : Act} {w : World} {l : List Oper} (C : World → Prop) (hm : P.follows .mixedOrders = true) (hB : Region.lexB .any l.toArray = true) (hC : C w.drew)
    (h : wpQuiet P l.toArray C (fun a' => ∀ w', C w' → Q .normal a' w') l a) : (Code.region id l.toArray true).wp P Q a w :=
  wp_region_quiet hm hB hC (by simpa using h)
theorem wpQ_want {Q : Act → Prop} {a : Act} {o : Oper} {rest : List Oper} {v : Value} (hw : Region.wanted o (yielded ops a.tmps) = true) (h1 : ∀ W, C W → o.quietAt P a C W v) (h2 : wpQuiet P ops C Q rest (a.put o.dst v)) : wpQuiet P ops C Q (o :: rest) a := by
  unfold wpQuiet
  rw [if_pos hw]
  exact ⟨v, h1, h2⟩
theorem wpQ_pass {Q : Act → Prop} {a : Act} {o : Oper} {rest : List Oper} (hw : Region.wanted o (yielded ops a.tmps) = false) (h2 : wpQuiet P ops C Q rest (a.put o.dst undef)) : wpQuiet P ops C Q (o :: rest) a := by
  unfold wpQuiet
  rw [if_neg (by rw [hw]; decide)]
  exact h2
theorem if_wanted {c : Bool} {p q : Prop} (hc : c = true) (h : p) : if c = true then p else q := by rw [if_pos hc]; exact h
theorem if_passed {c : Bool} {p q : Prop} (hc : c = false) (h : q) : if c = true then p else q := by rw [if_neg (by rw [hc]; decide)]; exact h
end
end Go.Proofs.YtbbmgcdocolakaaGreatDoor
/-
  A region that draws its order, its values fixed, step by step in a closed word (so that no step evaluates what comes behind it).
-/
namespace Go.Proofs.YtbbmgcdocolakaaGreatDoor
open Go.RowKit
set_option linter.unusedVariables false

/-- What wpQuiet says, closed. -/
structure QQ (P : Program) (ops : Array Oper) (C : World → Prop) (Q : Act → Prop) (l : List Oper) (a : Act) : Prop where
  out : wpQuiet P ops C Q l a
section
variable {P : Program} {ops : Array Oper} {C : World → Prop}
theorem wp_region_qq {id : Nat} {Q : Exit → Act → World → Prop} {a : Act} {w : World} {l : List Oper} (C : World → Prop) (hm : P.follows .mixedOrders = true) (hB : Region.lexB .any l.toArray = true) (hC : C w.drew)
    (h : QQ P l.toArray C (fun a' => ∀ w', C w' → Q .normal a' w') l a) : (Code.region id l.toArray true).wp P Q a w := wp_region_cls C hm hB hC h.out
theorem qq_want {Q : Act → Prop} {a : Act} {o : Oper} {rest : List Oper} {v : Value} (hw : Region.wanted o (yielded ops a.tmps) = true) (h1 : ∀ W, C W → o.quietAt P a C W v) (h2 : QQ P ops C Q rest (a.put o.dst v)) : QQ P ops C Q (o :: rest) a := ⟨wpQ_want hw h1 h2.out⟩
theorem qq_pass {Q : Act → Prop} {a : Act} {o : Oper} {rest : List Oper} (hw : Region.wanted o (yielded ops a.tmps) = false) (h2 : QQ P ops C Q rest (a.put o.dst undef)) : QQ P ops C Q (o :: rest) a := ⟨wpQ_pass hw h2.out⟩
theorem qq_nil {Q : Act → Prop} {a : Act} (h : Q a) : QQ P ops C Q [] a := ⟨wpQuiet_nil h⟩
end
end Go.Proofs.YtbbmgcdocolakaaGreatDoor
/-
  A graph's methods: Len, Size, Label, Edge, Same.
-/
namespace Go.Proofs.YtbbmgcdocolakaaGreatDoor
open Go.RowKit
attribute [local go_sem ↓] Go.wp_at_zero Go.wp_at_succ
set_option maxRecDepth 100000
set_option linter.unusedVariables false

section
variable {w : World} {g : Nat} {L : List Int} {F : List (Int × Int)}
theorem GLen_any (h : GraphAt w g L F) : Calls Tryz.prog 12 #[.pointer (some ⟨g, 0, none⟩)] w fun e w' => e = .returned (.int .i64 (L.length : Nat)) ∧ w = w' := by
  obtain ⟨A, c, B, d, C, N, I, hk, _⟩ := h
  have c0 := hk.cell 0
  simp at c0
  clear hk
  go_enter Tryz.func12, Tryz.ntmps12
  go_wp2_with fail
  go_ret
  exact ⟨rfl, rfl⟩
theorem GLen_nil (w : World) : Calls Tryz.prog 12 #[.pointer none] w fun e w' => e = .returned (.int .i64 0) ∧ w = w' := by
  go_enter Tryz.func12, Tryz.ntmps12
  go_wp2_with fail
  go_ret
  exact ⟨rfl, rfl⟩
theorem GSize_any (h : GraphAt w g L F) : Calls Tryz.prog 13 #[.pointer (some ⟨g, 0, none⟩)] w fun e w' => e = .returned (.int .i64 (F.length : Nat)) ∧ w = w' := by
  obtain ⟨A, c, B, d, C, N, I, hk, _⟩ := h
  have c1 := hk.cell 1
  simp at c1
  clear hk
  go_enter Tryz.func13, Tryz.ntmps13
  go_wp2_with fail
  go_ret
  exact ⟨rfl, rfl⟩
theorem GSize_nil (w : World) : Calls Tryz.prog 13 #[.pointer none] w fun e w' => e = .returned (.int .i64 0) ∧ w = w' := by
  go_enter Tryz.func13, Tryz.ntmps13
  go_wp2_with fail
  go_ret
  exact ⟨rfl, rfl⟩
theorem GHas_t (h : GraphAt w g L F) {v : Nat} (hv : v < L.length) : Calls Tryz.prog 68 #[.pointer (some ⟨g, 0, none⟩), .int .i64 (v : Int)] w fun e w' => e = .returned (.bool true) ∧ w = w' := by
  have HL := Lib.hid (GLen_any h)
  have v0 : (0 : Int) ≤ (v : Int) := by omega
  have v1 : (v : Int) < (L.length : Int) := by omega
  clear h
  generalize L.length = n at *
  go_enter Tryz.func68, Tryz.ntmps68
  go_wp2_with (go_at_call 12; refine HL.out.mono ?_; rintro e w' ⟨rfl, rfl⟩)
  go_ret
  exact ⟨rfl, rfl⟩
theorem GLabel_any (h : GraphAt w g L F) {v : Nat} {x : Int} (hx : L[v]? = some x) : Calls Tryz.prog 42 #[.pointer (some ⟨g, 0, none⟩), .int .i64 (v : Int)] w fun e w' => e = .returned (.int .i64 x) ∧ w = w' := by
  have hv := (List.getElem?_eq_some_iff.1 hx).1
  have HH := Lib.hid (GHas_t h hv)
  obtain ⟨A, c, B, d, C, N, I, hk, hs, _⟩ := h
  obtain ⟨b1, o1, hA, _⟩ := hs.at_ hv
  subst hA
  have hc := hs.again hv (by rw [List.getElem?_map, hx]; rfl)
  have c0 := hk.cell 0
  simp at c0
  have v0 : (0 : Int) ≤ (v : Int) := by omega
  have v1 : (v : Int) < (L.length : Int) := by omega
  clear hk hs hx
  generalize L.length = n at *
  go_enter Tryz.func42, Tryz.ntmps42
  go_wp2_with (go_at_call 68; refine HH.out.mono ?_; rintro e w' ⟨rfl, rfl⟩)
  go_ret
  exact ⟨rfl, rfl⟩
theorem GEdge_any (h : GraphAt w g L F) {v : Nat} {x y : Int} (hx : F[v]? = some (x, y)) : Calls Tryz.prog 75 #[.pointer (some ⟨g, 0, none⟩), .int .i64 (v : Int)] w fun e w' => e = .returned (.tuple #[.agg #[.int .i64 x, .int .i64 y], .bool true]) ∧ Below w.heap.size w w' := by
  have hv := (List.getElem?_eq_some_iff.1 hx).1
  obtain ⟨w0, hw0⟩ : ∃ W, W = w.alloc (.cells #[.int .i64 0, .int .i64 0] 76) := ⟨_, rfl⟩
  have HB0 := Lib.hid (show Below w.heap.size w w0 from by rw [hw0]; exact bel_al (Below.refl _ _) _)
  have HK0 := Lib.hid (show Blk w0 w.heap.size 76 #[.int .i64 0, .int .i64 0] from by rw [hw0]; exact Blk.new _ _ _)
  have HH := Lib.hid (GSize_any (h.keep HB0.out))
  obtain ⟨A, c, B, d, C, N, I, hk, _, hs, _⟩ := h.keep HB0.out
  obtain ⟨b1, o1, hA, e0, e1⟩ := hs.edge hv hx
  subst hA
  simp only at e0 e1
  have c1 := hk.cell 1
  have k0 := HK0.out.cell 0
  have k1 := HK0.out.cell 1
  have f0 := HK0.out.frozen 0
  have f1 := HK0.out.frozen 1
  simp at c1 k0 k1
  have v0 : ¬ (v : Int) < 0 := by omega
  have v1 : (v : Int) < (F.length : Int) := by omega
  have v2 : ¬ (F.length : Int) ≤ (v : Int) := by omega
  clear hk hs hx h
  generalize F.length = n at *
  go_enter Tryz.func75, Tryz.ntmps75
  go_upto_region 1 with (fail)
  rw [← hw0]
  clear hw0
  go_wp2_with (go_at_call 13; refine HH.out.mono ?_; rintro e w' ⟨rfl, rfl⟩)
  have hx := (HK0.out.set_ 0 (.int .i64 x)).set_ 1 (.int .i64 y)
  have x00 := hx.cell 0
  have x01 := hx.cell 1
  simp at x00 x01
  refine bodyPost_ret (v := .tuple #[.agg #[.int .i64 x, .int .i64 y], .bool true]) (by simp [results, Tryz.results75, go_sem, x00, x01]) rfl ?_
  exact ⟨rfl, (HB0.out.setCell (p := ⟨w.heap.size, 0, none⟩) (Nat.le_refl _) _).setCell (p := ⟨w.heap.size, 1, none⟩) (Nat.le_refl _) _⟩
end
set_option maxHeartbeats 1000000 in
theorem EqualIG_any (p q : List Int) (A B : Option Addr) (n m c d : Nat) (w : World) (hl : p.length = n) (hm : q.length = m) (hs : Sl w 1 A n (p.map (Value.int .i64))) (ht : Sl w 1 B m (q.map (Value.int .i64))) (hn : n ≤ 9223372036854775806) :
    Calls Tryz.prog 34 #[.slice A n c, .slice B m d] w fun e w' => e = .returned (.bool (decide (p = q))) ∧ Below w.heap.size w w' := by
  go_enter Tryz.func34, Tryz.ntmps34
  by_cases hnm : n = m
  · subst hnm
    go_wp2
    go_loopw [13] (fun i wr => ∃ k : Nat, k ≤ n ∧ i = .int .i64 k ∧ p.take k = q.take k ∧ Below w.heap.size w wr) (fun i _ => n - (intOf i).toNat)
    case atStart => exact ⟨0, Nat.zero_le _, rfl, rfl, Below.refl _ _⟩
    case round =>
      obtain ⟨k, hk, rfl, heq, hb⟩ := hrel
      by_cases hlt : k < n
      · have hj : k < p.length := by omega
        have hj' : k < q.length := by omega
        obtain ⟨b, off, u, rfl, e1, c1⟩ := (hs.keep hb).one hlt
        obtain ⟨b', off', u', rfl, e2, c2⟩ := (ht.keep hb).one hlt
        rw [List.getElem?_map, List.getElem?_eq_getElem hj] at e1
        rw [List.getElem?_map, List.getElem?_eq_getElem hj'] at e2
        obtain rfl := Option.some.inj e1
        obtain rfl := Option.some.inj e2
        have HT := Lib.hid (List.take_succ_eq_append_getElem hj)
        have HT' := Lib.hid (List.take_succ_eq_append_getElem hj')
        have HE := Lib.hid heq
        have HP := Lib.hid (fun h : p = q => (by subst h; rfl : p[k] = q[k]))
        generalize p[k] = x at *
        generalize q[k] = y at *
        clear e1 e2 heq hs ht
        by_cases hxy : x = y
        · subst hxy
          have hb0 : (x != x) = false := by simp
          go_wp2_with fail
          go_quiet (fail)
          go_wp2_with fail
          go_roundw
          case rel => exact ⟨k + 1, by omega, by go_num, by rw [HT.out, HT'.out, HE.out], bel_drewN hb _⟩
          case measure => simp [intOf]; omega
        · have hb1 : (x != y) = true := by simpa using hxy
          go_wp2_with fail
          go_quiet (fail)
          go_wp2_with fail
          go_ret
          exact ⟨ret_bool (decide_eq_false (fun h => hxy (HP.out h))).symm, bel_drewN hb _⟩
      · obtain rfl : k = n := by omega
        rw [List.take_of_length_le (by omega), List.take_of_length_le (by omega)] at heq
        have HE := Lib.hid heq
        clear heq hs ht
        go_wp2
        go_ret
        exact ⟨ret_bool (decide_eq_true HE.out).symm, hb⟩
  · have hne : p ≠ q := fun h => hnm (by rw [← hl, ← hm, h])
    have HN := Lib.hid hne
    have hb1 : ((n : Int) != (m : Int)) = true := by simp; omega
    clear hne hs ht
    go_wp2
    go_ret
    exact ⟨ret_bool (decide_eq_false HN.out).symm, Below.refl _ _⟩

set_option maxHeartbeats 2000000 in
theorem EqualE_same (E : List (Int × Int)) (A B : Option Addr) (m c d : Nat) (w : World) (hm : m ≤ 1000000) (hs : Sl w 2 A m (Rk.cells E)) (ht : Sl w 2 B m (Rk.cells E)) :
    Calls Tryz.prog 35 #[.slice A m c, .slice B m d] w fun e w' => e = .returned (.bool true) ∧ Below w.heap.size w w' := by
  have HS := Lib.hid hs
  have HT := Lib.hid ht
  have HL := Lib.hid ht.len2
  clear hs ht
  go_enter Tryz.func35, Tryz.ntmps35
  go_wp2_with fail
  go_loopw [13] (fun i wr => ∃ k : Nat, k ≤ m ∧ i = .int .i64 (k : Int) ∧ Hid (Below w.heap.size w wr)) (fun i _ => m - (intOf i).toNat)
  case atStart => exact ⟨0, Nat.zero_le _, rfl, Lib.hid (Below.refl _ _)⟩
  case round =>
    obtain ⟨k, hk, rfl, HB⟩ := hrel
    by_cases hlt : k < m
    · have hlt' : (k : Int) < (m : Int) := by omega
      have hk0 : (0 : Int) ≤ (k : Int) := by omega
      obtain ⟨⟨x, y⟩, he⟩ : ∃ e, E[k]? = some e := ⟨_, List.getElem?_eq_getElem (by rw [HL.out]; exact hlt)⟩
      obtain ⟨b1, o1, rfl, c0, c1⟩ := (HS.out.keep HB.out).edge hlt he
      obtain ⟨b2, o2, rfl, d0, d1⟩ := (HT.out.keep HB.out).edge hlt he
      simp only at c0 c1 d0 d1
      clear he
      go_wp2_with fail
      go_quiet (fail)
      go_wp2_with fail
      go_roundw
      case rel => exact ⟨k + 1, by omega, by go_num, Lib.hid (bel_drewN HB.out _)⟩
      case measure => simp [intOf]; omega
    · obtain rfl : k = m := by omega
      have hlt' : ¬ (k : Int) < (k : Int) := by omega
      go_wp2_with fail
      go_ret
      exact ⟨rfl, HB.out⟩
set_option maxHeartbeats 2000000 in
theorem GSame_same {w : World} {g h : Nat} {L : List Int} {F : List (Int × Int)} (hg : GraphAt w g L F) (hh : GraphAt w h L F) (hl : L.length ≤ 4096) (hf : F.length ≤ 16384) :
    Calls Tryz.prog 11 #[.pointer (some ⟨g, 0, none⟩), .pointer (some ⟨h, 0, none⟩)] w fun e w' => e = .returned (.bool true) ∧ Below w.heap.size w w' := by
  obtain ⟨A, c, B, d, C, N, I, hk, hs, ht, _⟩ := hg
  obtain ⟨A', c', B', d', C', N', I', hk', hs', ht', _⟩ := hh
  have HAll := Lib.hid (show ∀ W, Below w.heap.size w W → (W.cell? ⟨g, 0, none⟩ = some (.slice A L.length c) ∧ W.cell? ⟨g, 1, none⟩ = some (.slice B F.length d)) ∧ (W.cell? ⟨h, 0, none⟩ = some (.slice A' L.length c') ∧ W.cell? ⟨h, 1, none⟩ = some (.slice B' F.length d')) from fun W hW => ⟨⟨(hk.keep hW).cell 0, (hk.keep hW).cell 1⟩, (hk'.keep hW).cell 0, (hk'.keep hW).cell 1⟩)
  have H1 := Lib.hid (show ∀ W, Below w.heap.size w W → Calls Tryz.prog 34 #[.slice A L.length c, .slice A' L.length c'] W fun e w' => e = .returned (.bool true) ∧ Below w.heap.size w w' from fun W hW => (EqualIG_any L L A A' L.length L.length c c' W rfl rfl (hs.keep hW) (hs'.keep hW) (by omega)).mono fun e w' h => ⟨by rw [h.1]; simp, hW.andThen h.2⟩)
  have H2 := Lib.hid (show ∀ W, Below w.heap.size w W → Calls Tryz.prog 35 #[.slice B F.length d, .slice B' F.length d'] W fun e w' => e = .returned (.bool true) ∧ Below w.heap.size w w' from fun W hW => (EqualE_same F B B' F.length d d' W (by omega) (ht.keep hW) (ht'.keep hW)).mono fun e w' h => ⟨h.1, hW.andThen h.2⟩)
  clear hk hk' hs hs' ht ht'
  generalize L.length = n at *
  generalize F.length = m at *
  go_enter Tryz.func11, Tryz.ntmps11
  go_upto_region 3 with (fail)
  refine wp_region_qq (fun W => Below w.heap.size w W) (by kernel_rfl) (by kernel_rfl) (bel_drewN (Below.refl _ _) 1) ?_
  repeat (
    first
      | (apply qq_want
         · rfl
         · intro W hW
           have zz := HAll.out W hW
           go_simp
           first
             | done
             | exact rfl
             | with_reducible exact H1.out W hW
             | with_reducible exact H2.out W hW)
      | (refine qq_pass ?_ ?_
         · rfl)
    try simp only [Act.put, List.setIfInBounds_toArray, List.set_cons_zero, List.set_cons_succ])
  refine qq_nil ?_
  intro wq hbq
  have HBq := Lib.hid hbq
  clear hbq
  go_wp2_with fail
  go_ret
  exact ⟨rfl, HBq.out⟩
end Go.Proofs.YtbbmgcdocolakaaGreatDoor
/-
  load.edges: a graph's edges, by numbers.
-/
namespace Go.Proofs.YtbbmgcdocolakaaGreatDoor
open Go.RowKit
attribute [local go_sem ↓] Go.wp_at_zero Go.wp_at_succ
set_option maxRecDepth 100000
set_option linter.unusedVariables false

set_option maxHeartbeats 2000000 in
theorem LEdges_own {w : World} {g : Nat} {L : List Int} {F : List (Int × Int)} (hG : GraphAt w g L F) (hf : F.length ≤ 16384) :
    Calls Tryz.prog 43 #[.pointer (some ⟨g, 0, none⟩)] w fun e w' => ∃ (D : Option Addr) (d : Nat), e = .returned (.slice D F.length d) ∧ w'.ownsRow w.heap.size 76 2 (.slice D F.length d) F.length (Rk.cells F) ∧ Below w.heap.size w w' := by
  have HGr := Lib.hid hG
  have HSz := Lib.hid (GSize_any hG)
  obtain ⟨m, hm⟩ : ∃ m, m = F.length := ⟨_, rfl⟩
  have HM := Lib.hid hm
  rw [← hm] at HSz hf ⊢
  clear hG hm
  go_enter Tryz.func43, Tryz.ntmps43
  go_upto_region 3 with (go_at_call 13; refine HSz.out.mono ?_; clear HSz; rintro e w1 ⟨rfl, rfl⟩)
  go_wp2_with fail
  go_loopw [3, 9] (fun ov iv wr => ∃ k : Nat, k ≤ m ∧ iv = .int .i64 (k : Int) ∧ Hid (wr.ownsRow w.heap.size 76 2 ov k (Rk.cells (F.take k))) ∧ Hid (Below w.heap.size w wr)) (fun _ iv _ => m - (intOf iv).toNat)
  case atStart => exact ⟨0, Nat.zero_le _, rfl, Lib.hid (World.ownsRow_nil _ _ _ _), Lib.hid (Below.refl _ _)⟩
  case round =>
    obtain ⟨k, hk, rfl, HO, HB⟩ := hrel
    by_cases hlt : k < m
    · have hlt' : (k : Int) < (m : Int) := by omega
      obtain ⟨⟨x, y⟩, he⟩ : ∃ e, F[k]? = some e := ⟨_, List.getElem?_eq_getElem (by rw [← HM.out]; exact hlt)⟩
      have HEd := Lib.hid (GEdge_any (HGr.out.keep HB.out) he)
      have HE := Lib.hid (show F.take (k + 1) = F.take k ++ [(x, y)] from by
        obtain ⟨h3, h4⟩ := List.getElem?_eq_some_iff.1 he
        rw [List.take_succ_eq_append_getElem h3, h4])
      clear he
      go_upto_region 6 with (go_at_call 75; refine HEd.out.mono ?_; clear HEd; rintro e w2 ⟨rfl, hb2⟩; have HB2 := Lib.hid hb2; clear hb2)
      obtain ⟨w3, hw3⟩ : ∃ W, W = w2.alloc (.cells #[.int .i64 x, .int .i64 y] 76) := ⟨_, rfl⟩
      obtain ⟨q, hq⟩ : ∃ q, q = w2.heap.size := ⟨_, rfl⟩
      have HB3 := Lib.hid (show Below wr.heap.size wr w3 from by rw [hw3]; exact bel_al HB2.out _)
      have HK3 := Lib.hid (show Blk w3 q 76 #[.int .i64 x, .int .i64 y] from by rw [hw3, hq]; exact Blk.new _ _ _)
      have HO3 := Lib.hid (own_block HO.out (w' := w3) fun b hb => HB3.out.block b (HO.out.lt b hb).2)
      have HBw := Lib.hid (HB.out.andThen HB3.out)
      rw [← hw3, ← hq]
      clear hw3 hq
      have q0 := HK3.out.cell 0
      have q1 := HK3.out.cell 1
      simp at q0 q1
      go_wp2_with (at_builtin; refine wpList_push elemEdge (w0 := w) _ _ rfl rfl HO3.out HBw.out (Nat.le_refl _) rfl rfl rfl (by simp [Value.oneCell']) (by unfold lim; omega) (by unfold lim; omega) ?_; intro v4 w4 hown4 hb4; have HO4 := Lib.hid hown4; have HB4 := Lib.hid hb4; clear hown4 hb4)
      go_roundw
      case rel => exact ⟨k + 1, by omega, by go_num, Lib.hid (by rw [HE.out, Rk.cells_snoc]; exact HO4.out), HB4⟩
      case measure => simp [intOf]; omega
    · obtain rfl : k = m := by omega
      have hlt' : ¬ (k : Int) < (k : Int) := by omega
      rw [List.take_of_length_le (by rw [← HM.out]; exact Nat.le_refl _)] at HO
      obtain ⟨D, dc, rfl, hsl⟩ := Sl.own HO.out
      clear hsl
      go_wp2_with fail
      go_ret
      exact ⟨D, dc, rfl, HO.out, HB.out⟩
theorem LEdges_any {w : World} {g : Nat} {L : List Int} {F : List (Int × Int)} (hG : GraphAt w g L F) (hf : F.length ≤ 16384) :
    Calls Tryz.prog 43 #[.pointer (some ⟨g, 0, none⟩)] w fun e w' => ∃ (D : Option Addr) (d : Nat), e = .returned (.slice D F.length d) ∧ Sl w' 2 D F.length (Rk.cells F) ∧ Below w.heap.size w w' :=
  (LEdges_own hG hf).mono fun e w' ⟨D, d, h1, h2, h3⟩ => ⟨D, d, h1, Sl.of_own h2, h3⟩
/-- .. of no graph. -/
theorem LEdges_nil (w : World) : Calls Tryz.prog 43 #[.pointer none] w fun e w' => e = .returned (.slice none 0 0) ∧ w = w' := by
  have HSz := Lib.hid (GSize_nil w)
  go_enter Tryz.func43, Tryz.ntmps43
  go_upto_region 3 with (go_at_call 13; refine HSz.out.mono ?_; clear HSz; rintro e w1 ⟨rfl, rfl⟩)
  go_wp2_with fail
  go_loopw [3, 9] (fun ov iv wr => ov = .slice none 0 0 ∧ iv = .int .i64 0 ∧ w = wr) (fun _ iv _ => 0)
  case atStart => exact ⟨rfl, rfl, rfl⟩
  case round =>
    obtain ⟨rfl, rfl, rfl⟩ := hrel
    go_wp2_with fail
    go_ret
    exact ⟨rfl, rfl⟩
end Go.Proofs.YtbbmgcdocolakaaGreatDoor
/-
  load.Pack: a graph's parcel.
-/
namespace Go.Proofs.YtbbmgcdocolakaaGreatDoor
open Go.RowKit
attribute [local go_sem ↓] Go.wp_at_zero Go.wp_at_succ
set_option maxRecDepth 100000
set_option linter.unusedVariables false

def packG (L : List Int) (F : List (Int × Int)) : List Int := packL 1 (bytesP L F)
set_option maxHeartbeats 8000000 in
theorem GPack_any {w : World} {g : Nat} {L : List Int} {F : List (Int × Int)} (hG : GraphAt w g L F) (hl : L.length ≤ 4096) (hf : F.length ≤ 16384) (hiL : ∀ x ∈ L, fits x) (hiE : ∀ e ∈ F, fits e.1 ∧ fits e.2) (hby : Bys (bytesP L F)) :
    Calls Tryz.prog 19 #[.pointer (some ⟨g, 0, none⟩)] w fun e w' => ∃ C k, e = .returned (.slice C ((bytesP L F).length + 13) k) ∧ Sl w' 1 C ((bytesP L F).length + 13) ((packG L F).map (Value.int .u8)) ∧ ((bytesP L F).length + 13 ≤ k ∧ k ≤ 9223372036854775807) ∧ Below w.heap.size w w' := by
  have HGr := Lib.hid hG
  have HLe := Lib.hid (GLen_any hG)
  obtain ⟨n, hn⟩ : ∃ n, n = L.length := ⟨_, rfl⟩
  obtain ⟨m, hm⟩ : ∃ m, m = F.length := ⟨_, rfl⟩
  have HN := Lib.hid hn
  have HM := Lib.hid hm
  have HiL := Lib.hid hiL
  have HiE := Lib.hid hiE
  have HBy := Lib.hid hby
  rw [← hn] at HLe hl
  rw [← hm] at hf
  clear hG hn hm hiL hiE hby
  go_enter Tryz.func19, Tryz.ntmps19
  go_upto_region 3 with (go_at_call 12; refine HLe.out.mono ?_; clear HLe; rintro e w1 ⟨rfl, rfl⟩)
  go_loopw [3, 11] (fun lv iv wr => ∃ k : Nat, k ≤ n ∧ iv = .int .i64 (k : Int) ∧ Hid (wr.ownsRow w.heap.size 3 1 lv k ((L.take k).map (Value.int .i64))) ∧ Hid (Below w.heap.size w wr)) (fun _ iv _ => n - (intOf iv).toNat)
  case atStart => exact ⟨0, Nat.zero_le _, rfl, Lib.hid (World.ownsRow_nil _ _ _ _), Lib.hid (Below.refl _ _)⟩
  case round =>
    obtain ⟨k, hk, rfl, HO, HB⟩ := hrel
    by_cases hlt : k < n
    · have hlt' : (k : Int) < (n : Int) := by omega
      obtain ⟨x, hx⟩ : ∃ x, L[k]? = some x := ⟨_, List.getElem?_eq_getElem (by rw [← HN.out]; exact hlt)⟩
      have HLa := Lib.hid (GLabel_any (HGr.out.keep HB.out) hx)
      have HE := Lib.hid (show L.take (k + 1) = L.take k ++ [x] from by
        obtain ⟨h3, h4⟩ := List.getElem?_eq_some_iff.1 hx
        rw [List.take_succ_eq_append_getElem h3, h4])
      clear hx
      go_wp2_with (first
        | (at_builtin; refine wpList_push elemInt (w0 := w) _ _ rfl rfl HO.out HB.out (Nat.le_refl _) rfl rfl rfl (by simp [Value.oneCell']) (by unfold lim; omega) (by unfold lim; omega) ?_; intro v4 w4 hown4 hb4; have HO4 := Lib.hid hown4; have HB4 := Lib.hid hb4; clear hown4 hb4)
        | (go_at_call 42; refine HLa.out.mono ?_; clear HLa; rintro e w2 ⟨rfl, rfl⟩))
      go_roundw
      case rel => exact ⟨k + 1, by omega, by go_num, Lib.hid (by rw [HE.out, List.map_append]; exact HO4.out), HB4⟩
      case measure => simp [intOf]; omega
    obtain rfl : k = n := by omega
    have hlt' : ¬ (k : Int) < (k : Int) := by omega
    rw [List.take_of_length_le (Nat.le_of_eq HN.out.symm)] at HO
    obtain ⟨Z, zc, rfl, _⟩ := Sl.own HO.out
    have HEd := Lib.hid (LEdges_any (HGr.out.keep HB.out) (by rw [← HM.out]; exact hf))
    go_upto_region 8 with (go_at_call 43; refine HEd.out.mono ?_; clear HEd; rintro e W1 ⟨D, dk, rfl, hsD, hb1⟩; have HD := Lib.hid hsD; have HB1 := Lib.hid hb1; clear hsD hb1)
    rw [← HM.out] at HD ⊢
    have HSl := Lib.hid ((Sl.of_own HO.out).keep HB1.out)
    have HBw := Lib.hid (HB.out.andThen HB1.out)
    clear HO HB HB1 hlt'
    go_loopw [4, 24] (fun ev iv wr => ∃ j : Nat, j ≤ m ∧ iv = .int .i64 (j : Int) ∧ Hid (wr.ownsRow W1.heap.size 3 1 ev (2 * j) ((endsL (F.take j)).map (Value.int .i64))) ∧ Hid (Below W1.heap.size W1 wr)) (fun _ iv _ => m - (intOf iv).toNat)
    case atStart => exact ⟨0, Nat.zero_le _, rfl, Lib.hid (by simpa [endsL] using World.ownsRow_nil _ _ _ _), Lib.hid (Below.refl _ _)⟩
    case round =>
      obtain ⟨j, hj, rfl, HO, HB⟩ := hrel
      by_cases hlt : j < m
      · have hlt' : (j : Int) < (m : Int) := by omega
        obtain ⟨⟨x, y⟩, he⟩ : ∃ e, F[j]? = some e := ⟨_, List.getElem?_eq_getElem (by rw [← HM.out]; exact hlt)⟩
        obtain ⟨b2, off2, hDD, c0, c1⟩ := (HD.out.keep HB.out).edge hlt he
        subst hDD
        simp only at c0 c1
        have HE := Lib.hid (show endsL (F.take (j + 1)) = endsL (F.take j) ++ [x, y] from by
          obtain ⟨h1, h2⟩ := List.getElem?_eq_some_iff.1 he
          rw [List.take_succ_eq_append_getElem h1, h2, endsL_snoc])
        clear he
        go_upto_region 10 with (fail)
        obtain ⟨we, hwe⟩ : ∃ W, W = wr.alloc (.cells #[.int .i64 x, .int .i64 y] 76) := ⟨_, rfl⟩
        obtain ⟨q, hq⟩ : ∃ q, q = wr.heap.size := ⟨_, rfl⟩
        have HBe := Lib.hid (show Below W1.heap.size W1 we from by rw [hwe]; exact bel_al HB.out _)
        have HKe := Lib.hid (show Blk we q 76 #[.int .i64 x, .int .i64 y] from by rw [hwe, hq]; exact Blk.new _ _ _)
        have HOe := Lib.hid (show we.ownsRow W1.heap.size 3 1 _ (2 * j) _ from own_block HO.out fun b hb => by rw [hwe]; exact (bel_al (Below.refl wr.heap.size wr) _).block b (HO.out.lt b hb).2)
        rw [← hwe, ← hq]
        clear hwe hq c0 c1 HO
        have q0 := HKe.out.cell 0
        have q1 := HKe.out.cell 1
        simp at q0 q1
        have HOa := Lib.hid (HOe.out.alloc (.cells #[.int .i64 x, .int .i64 y] 3))
        have HAl := Lib.hid (bel_al HBe.out (.cells #[.int .i64 x, .int .i64 y] 3))
        go_wp2_with (at_builtin; refine wpList_cat_at elemInt _ _ rfl rfl HOa.out HAl.out.size (Sl.newAt we [.int .i64 x, .int .i64 y] _ 2 rfl) rfl rfl (by simp [Value.oneCell']) (by unfold lim; omega) (by unfold lim; omega) ?_; intro v6 w6 hown6 hgr; have HO6 := Lib.hid hown6; have HB6 := Lib.hid (HAl.out.trans (hgr.belowOwn HAl.out.size HOa.out)); clear hown6 hgr)
        go_roundw
        case rel => exact ⟨j + 1, by omega, by go_num, Lib.hid (by have h := HO6.out; rw [HE.out, List.map_append, show 2 * (j + 1) = 2 * j + 2 by omega]; simpa using h), HB6⟩
        case measure => simp [intOf]; omega
      obtain rfl : j = m := by omega
      have hlt' : ¬ (j : Int) < (j : Int) := by omega
      rw [List.take_of_length_le (Nat.le_of_eq HM.out.symm)] at HO
      obtain ⟨X, xc, rfl, _⟩ := Sl.own HO.out
      go_upto_region 13 with (fail)
      obtain ⟨w2, hw2⟩ : ∃ W, W = wr.alloc (.cells #[.slice none 0 0, .nilIface] 90) := ⟨_, rfl⟩
      obtain ⟨g2, hg2⟩ : ∃ q, q = wr.heap.size := ⟨_, rfl⟩
      have HB2 := Lib.hid (show Below W1.heap.size W1 w2 from by rw [hw2]; exact bel_al HB.out _)
      have HWr := Lib.hid (show Wr w2 g2 g2 [] .nil from by rw [hw2, hg2]; exact ⟨Nat.le_refl _, trivial, _, _, Blk.new _ _ _, World.ownsRow_nil _ _ _ _, rfl⟩)
      have HO2 := Lib.hid (show w2.ownsRow W1.heap.size 3 1 (.slice X (2 * j) xc) (2 * j) ((endsL F).map (Value.int .i64)) from own_block HO.out fun b hb => by rw [hw2]; exact (bel_al (Below.refl wr.heap.size wr) _).block b (HO.out.lt b hb).2)
      have hg21 : W1.heap.size ≤ g2 := by rw [hg2]; exact HB.out.size
      have hg22 : g2 ≤ w2.heap.size := by rw [hg2, hw2]; simp
      rw [← hw2, ← hg2]
      clear hw2 hg2 HO
      have HEl := Lib.hid (show (endsL F).length = 2 * j ∧ ∀ z ∈ endsL F, fits z from ⟨by rw [endsL_len, ← HM.out], fun z hz => by
        obtain ⟨e, he, h⟩ := List.mem_flatMap.1 hz
        rcases List.mem_cons.1 h with rfl | h
        · exact (HiE.out e he).1
        · rw [List.mem_singleton.1 h]
          exact (HiE.out e he).2⟩)
      have HLi := Lib.hid (List_K L HiL.out Z k zc (by omega) HN.out.symm g2 g2 [] .nil w2 (fun V hV _ => HSl.out.keep (HB2.out.trans (hV.mono hg21))) HWr.out (by simp))
      go_upto_region 14 with (go_at_call 44; refine HLi.out.mono ?_; clear HLi; rintro e w3 ⟨rfl, hw3, hb3, hk3⟩; have HW3 := Lib.hid hw3; have HB3 := Lib.hid hb3; have HK3 := Lib.hid hk3; clear hw3 hb3 hk3)
      have HLi2 := Lib.hid (List_K (endsL F) HEl.out.2 X (2 * j) xc (by omega) HEl.out.1 g2 g2 ([] ++ encW L) .nil w3 (fun V hV hk => Sl.of_own (WkT.own HO2.out (HK3.out.trans hk) (by decide) (by decide))) HW3.out (by rw [List.nil_append, encW_len, ← HN.out]; omega))
      go_upto_region 15 with (go_at_call 44; refine HLi2.out.mono ?_; clear HLi2; rintro e w4 ⟨rfl, hw4, hb4, _⟩; have HW4 := Lib.hid (show Wr w4 g2 g2 (bytesP L F) .nil from by have h := hw4; rw [List.nil_append] at h; exact h); have HB4 := Lib.hid (HB3.out.trans hb4); clear hw4 hb4)
      have hz : (bytesP L F).length ≤ 200000 := by
        unfold bytesP
        rw [List.length_append, encW_len, encW_len, ← HN.out, HEl.out.1]
        omega
      have HBs := Lib.hid (Bytes_any g2 g2 (bytesP L F, .nil) w4 HW4.out (by simp only; omega))
      obtain ⟨z, hzz⟩ : ∃ z, z = (bytesP L F).length := ⟨_, rfl⟩
      have HZz := Lib.hid hzz
      simp only at HBs
      rw [← hzz] at HBs hz
      clear hzz
      go_wp2_with (first
        | (go_at_call 45; refine HPk.out.mono ?_; clear HPk; rintro e w6 ⟨C6, k6, rfl, hs6, hc6, hb6⟩; have HS6 := Lib.hid hs6; have HC6 := Lib.hid hc6; have HB6 := Lib.hid (HB5.out.andThen hb6); clear hs6 hc6 hb6)
        | (go_at_call 46; refine HBs.out.mono ?_; clear HBs; rintro e w5 ⟨C5, k5, rfl, hs5, hc5, hb5⟩; have HPk := Lib.hid (Pack_any 1 (bytesP L F) C5 z k5 w5 (by omega) HZz.out.symm (by omega) HBy.out hs5); have HB5 := Lib.hid hb5; clear hs5 hc5 hb5))
      go_ret
      rw [← HZz.out]
      exact ⟨C6, k6, rfl, HS6.out, HC6.out, ((HBw.out.andThen HB2.out).trans (HB4.out.mono (by have := HBw.out.size; omega))).andThen HB6.out⟩
end Go.Proofs.YtbbmgcdocolakaaGreatDoor
