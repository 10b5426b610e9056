/-
  Part 12 of the proof of LoadBytes: OdM, GrM, GrC, GrR.
-/
import Derived.RangeFuncFrom
import Derived.Test.YtbbmgcdocolakaaGreatDoorLoadBytesM11
import Derived.DeepKeys4
import Derived.Test.YtbbmgcdocolakaaGreatDoorLoadBytesM1
import Derived.BigQuiet
import Derived.Test.YtbbmgcdocolakaaGreatDoorLoadBytesM10
import Derived.Test.YtbbmgcdocolakaaGreatDoorLoadBytesM7
import Derived.BigRegion
import Derived.Deep.RegionLaw
import Derived.Laws.OwnMore
import Derived.Test.YtbbmgcdocolakaaGreatDoorLoadBytesM3
set_option linter.unusedVariables false
/-
  An odag in memory: rows that are maps from ints to slices of ints; words for it.
-/
namespace Go.Proofs.YtbbmgcdocolakaaGreatDoor
open Go.RowKit Go.Maps
set_option maxRecDepth 100000
set_option linter.unusedVariables false
set_option linter.unusedSectionVars false

/-- A row plainly: its numbers, rising, each with its links. -/
abbrev Rw := List (Int × List Int)
def lkR (r : Rw) (a : Int) : List Int := ((r.find? fun p => decide (p.1 = a)).map (·.2)).getD []
def putR (r : Rw) (a : Int) (l : List Int) : Rw := (r.filter fun p => decide (p.1 < a)) ++ (a, l) :: r.filter fun p => decide (a < p.1)
theorem putR_len (r : Rw) (a : Int) (l : List Int) : (putR r a l).length ≤ r.length + 1 := by
  unfold putR
  have h : ∀ r : Rw, (r.filter fun p => decide (p.1 < a)).length + (r.filter fun p => decide (a < p.1)).length ≤ r.length := by
    intro r
    induction r with
    | nil => simp
    | cons p r ih =>
      rw [List.filter_cons, List.filter_cons]
      by_cases h1 : p.1 < a
      · have h2 : ¬ a < p.1 := by omega
        simp [h1, h2]
        omega
      · by_cases h2 : a < p.1
        · simp [h1, h2]
          omega
        · simp [h1, h2]
          omega
  have := h r
  simp
  omega

/-- An entry in memory: its number, where its links lie, the links. -/
abbrev ME := Int × Option Addr × Nat × List Int
def mv (e : ME) : Int × Value := (e.1, rv e.2)
def pl (e : ME) : Int × List Int := (e.1, e.2.2.2)
abbrev MapR (w : World) (b : Nat) (es : List (Int × Value)) : Prop := MapI Tryz.prog 3 w b es
/-- Block b is a map that reads as this row. -/
def MRow (w : World) (b : Nat) (r : Rw) : Prop := ∃ m : List ME, m.map pl = r ∧ MapR w b (m.map mv) ∧ ∀ e ∈ m, RowOK w e.2

theorem kInt : Tryz.prog.underlying 3 = some (.int .i64) := Tryz.underlying3

/-- Block b holds no cells: a map, an iterator. -/
def NC (w : World) (b : Nat) : Prop := ∃ o, w.heap[b]? = some o ∧ o.isCells = false
section
variable {w w' : World} {b b' : Nat} {r : Rw}
theorem NC.of_map {es : Array MapEntry} {cl : Nat} (h : w.heap[b]? = some (.map es cl)) : NC w b := ⟨_, h, rfl⟩
theorem NC.cell {a : Addr} {v : Value} (h : NC w b) (hc : w.cell? a = some v) : a.block ≠ b := fun e => by
  obtain ⟨o, h1, h2⟩ := h
  unfold World.cell? at hc
  rw [e, h1] at hc
  cases o <;> first | (cases hc; done) | cases h2
theorem NC.keep (h : NC w b) (hb : Below w.heap.size w w') : NC w' b := by
  obtain ⟨o, h1, h2⟩ := h
  exact ⟨o, (hb.block b (Array.getElem?_eq_some_iff.1 h1).1).trans h1, h2⟩
theorem bel_turn {B : Nat} {w0 : World} (h : Below B w0 w) (hg : w.grownBy w' (some b)) (hb : B ≤ b) (hB : B ≤ w.heap.size) : Below B w0 w' :=
  h.trans ⟨hg.os, hg.tape, hg.output, hg.size, fun k hk => hg.block k (by omega) (fun e => by cases e; omega)⟩
/-- A row of ints outlives a change of a block that holds no cells. -/
theorem Sl.turned {s n : Nat} {A : Option Addr} {xs : List Value} (h : Sl w s A n xs) (hm : NC w b) (hg : w.grownBy w' (some b)) : Sl w' s A n xs :=
  ⟨h.1, fun hn => by
    obtain ⟨b0, off, hA, hc⟩ := h.2 hn
    refine ⟨b0, off, hA, fun j v hj => ?_⟩
    have h1 := hc j v hj
    have hne : some b0 ≠ some b := fun e => hm.cell h1 (by cases e; rfl)
    exact (World.cell?_of_block (w := w) (a := ⟨b0, off + j, none⟩) (hg.block b0 (World.block_lt_of_cell? w _ h1) hne)).trans h1⟩
theorem RowOK.turned {t : Option Addr × Nat × List Int} (h : RowOK w t) (hm : NC w b) (hg : w.grownBy w' (some b)) : RowOK w' t := ⟨h.1.turned hm hg, h.2⟩
theorem Blk.turned {g : Nat} {t : TypeId} {cs : Array Value} (h : Blk w g t cs) (hm : NC w b) (hg : w.grownBy w' (some b)) : Blk w' g t cs := h.grown hg (fun e => by
  cases e
  obtain ⟨o, h1, h2⟩ := hm
  unfold Blk at h
  rw [h1] at h
  cases h
  cases h2)
theorem own_turned {B size n : Nat} {e : TypeId} {v : Value} {xs : List Value} (h : w.ownsRow B e size v n xs) (hm : NC w b) (hg : w.grownBy w' (some b)) : w'.ownsRow B e size v n xs :=
  own_block h fun g hgv => hg.block g (h.lt g hgv).2 (fun e1 => by
    cases e1
    obtain ⟨_, h2⟩ := h
    obtain ⟨o, h3, h4⟩ := hm
    rcases h2 with ⟨rfl, _⟩ | ⟨g', cap, cur, rfl, _, h5, _⟩
    · cases hgv
    · cases hgv
      rw [h3] at h5
      cases h5
      cases h4)

theorem MRow.keep (h : MRow w b r) (hb : Below w.heap.size w w') : MRow w' b r := by
  obtain ⟨m, h1, h2, h3⟩ := h
  exact ⟨m, h1, MapI.keep h2 hb, fun e he => (h3 e he).keep hb⟩
theorem MRow.lt (h : MRow w b r) : b < w.heap.size := by
  obtain ⟨m, h1, h2, h3⟩ := h
  exact MapI.lt h2
theorem MRow.isMap (h : MRow w b r) : NC w b := by
  obtain ⟨m, h1, h2, h3⟩ := h
  obtain ⟨es, cl, h4⟩ := MapI.isMap h2
  exact NC.of_map h4
theorem MRow.other (h : MRow w b r) (hm : NC w b') (hg : w.grownBy w' (some b')) (hne : b ≠ b') : MRow w' b r := by
  obtain ⟨m, h1, h2, h3⟩ := h
  exact ⟨m, h1, MapI.kept h2 hg (fun e => hne (by cases e; rfl)), fun e he => (h3 e he).turned hm hg⟩
/-- A change of a block of cells, behind a row's own memory. -/
theorem MRow.incr (h : MRow w b r) : r.Pairwise fun p q => p.1 < q.1 := by
  obtain ⟨m, rfl, h2, _⟩ := h
  have := MapI.inc kInt h2
  unfold IncK at this
  rw [List.pairwise_map] at this ⊢
  exact this
theorem MRow.made (w : World) : MRow (w.alloc (.map #[] 0)) w.heap.size [] := ⟨[], rfl, MapI.made _ _ w, fun e he => by cases he⟩

theorem find_pl (y : Int) : ∀ m : List ME, ((m.map pl).find? fun p => decide (p.1 = y)) = (m.find? fun e => decide (e.1 = y)).map pl
  | [] => rfl
  | e :: m => by
    rw [List.map_cons, List.find?_cons, List.find?_cons, find_pl y m]
    show (match decide (e.1 = y) with | true => some (pl e) | false => _) = _
    cases decide (e.1 = y) <;> rfl
theorem find_mv (y : Int) : ∀ m : List ME, ((m.map mv).find? fun p => decide (p.1 = y)) = (m.find? fun e => decide (e.1 = y)).map mv
  | [] => rfl
  | e :: m => by
    rw [List.map_cons, List.find?_cons, List.find?_cons, find_mv y m]
    show (match decide (e.1 = y) with | true => some (mv e) | false => _) = _
    cases decide (e.1 = y) <;> rfl
/-- What is read at a number. -/
theorem MRow.look {m : List ME} (h3 : ∀ e ∈ m, RowOK w e.2) (y : Int) : ∃ (A : Option Addr) (c : Nat) (l : List Int), RowOK w (A, c, l) ∧ l = lkR (m.map pl) y ∧ (atI (m.map mv) y).getD (.slice none 0 0) = .slice A l.length c := by
  unfold lkR atI
  rw [find_pl, find_mv]
  cases hf : m.find? fun e => decide (e.1 = y) with
  | none => exact ⟨none, 0, [], ⟨Sl.nil _ _ _, Nat.le_refl _, Nat.zero_le _⟩, rfl, rfl⟩
  | some e => exact ⟨e.2.1, e.2.2.1, e.2.2.2, h3 e (List.mem_of_find?_eq_some hf), rfl, rfl⟩
theorem put_map {α : Type} (f : ME → Int × α) (hf : ∀ e, (f e).1 = e.1) (m : List ME) (e0 : ME) (x : Int × α) (hx : f e0 = x) :
    ((m.map f).filter fun p => decide (p.1 < x.1)) ++ x :: ((m.map f).filter fun p => decide (x.1 < p.1)) = (((m.filter fun e => decide (e.1 < e0.1)) ++ e0 :: m.filter fun e => decide (e0.1 < e.1)).map f) := by
  subst hx
  rw [List.map_append, List.map_cons, List.filter_map, List.filter_map]
  have e1 : ((fun p : Int × α => decide (p.1 < (f e0).1)) ∘ f) = fun e => decide (e.1 < e0.1) := by funext e; simp [hf]
  have e2 : ((fun p : Int × α => decide ((f e0).1 < p.1)) ∘ f) = fun e => decide (e0.1 < e.1) := by funext e; simp [hf]
  rw [e1, e2]
end

section
variable (w : World) {ops : Array Oper} {rest : List Oper} {o : Oper} {a : Act} {Q : Exit → Act → World → Prop}
end

section
/-- A range over a row's map, its iterator in block i: done: what has come so far. -/
def RangesR (w : World) (b i : Nat) (r done : Rw) : Prop :=
  ∃ m d : List ME, m.map pl = r ∧ d.map pl = done ∧ RangesI Tryz.prog 3 w b i (m.map mv) (d.map mv) ∧ (∀ e ∈ d, e ∈ m) ∧ ∀ e ∈ m, RowOK w e.2
variable {w w' : World} {b i : Nat} {r done : Rw}
theorem RangesR.row (h : RangesR w b i r done) : MRow w b r := by
  obtain ⟨m, d, h1, h2, h3, h4, h5⟩ := h
  exact ⟨m, h1, h3.map, h5⟩
theorem RangesR.keep (h : RangesR w b i r done) (hb : Below w.heap.size w w') : RangesR w' b i r done := by
  obtain ⟨m, d, h1, h2, h3, h4, h5⟩ := h
  exact ⟨m, d, h1, h2, h3.keep hb, h4, fun e he => (h5 e he).keep hb⟩
theorem RangesR.sub (h : RangesR w b i r done) : ∀ p ∈ done, p ∈ r := by
  obtain ⟨m, d, rfl, rfl, _, h4, _⟩ := h
  intro p hp
  obtain ⟨e, he, rfl⟩ := List.mem_map.1 hp
  exact List.mem_map.2 ⟨e, h4 e he, rfl⟩
theorem RangesR.keysNodup (h : RangesR w b i r done) : (done.map (·.1)).Nodup := by
  obtain ⟨m, d, rfl, rfl, h3, h4, _⟩ := h
  have hI := h3.map.inc kInt
  obtain ⟨left, cnt, _, _, _, hnd⟩ := h3
  rw [List.map_map]
  have hnd' := List.pairwise_map.1 hnd
  refine List.pairwise_map.2 (List.Pairwise.imp_of_mem (fun {p q} hp hq hpq e => hpq ?_) hnd')
  exact inc_key hI (List.mem_map.2 ⟨p, h4 p hp, rfl⟩) (List.mem_map.2 ⟨q, h4 q hq, rfl⟩) e
end

section
variable (w : World) {ops : Array Oper} {rest : List Oper} {o : Oper} {a : Act} {Q : Exit → Act → World → Prop}
/-- The step. -/
theorem wpList_nextR (hg : o.guard = none) (it : Operand) (hop : o.op = Op.next it false) (b i : Nat) (r done : Rw) (hit : a.eval it = .pointer (some ⟨i, 0, none⟩)) (h : RangesR w b i r done)
    (hDone : done.Perm r → wpList Tryz.prog ops Q rest (a.put o.dst (.tuple #[.bool false])) w)
    (hMore : ∀ (y : Int) (A : Option Addr) (c : Nat) (l : List Int) (w' : World), (y, l) ∈ r → y ∉ done.map (·.1) → RowOK w' (A, c, l) → RangesR w' b i r (done ++ [(y, l)]) → w'.rangeLeft b i < w.rangeLeft b i → w.grownBy w' (some i) → NC w i → w'.heap.size = w.heap.size →
      (Instr.entry (.pointer (some ⟨i, 0, none⟩))).run Tryz.prog w' = .ok (.tuple #[.int .i64 y, .slice A l.length c]) w' → wpList Tryz.prog ops Q rest (a.put o.dst (.tuple #[.bool true, .int .i64 y, .slice A l.length c])) w') :
    wpList Tryz.prog ops Q (o :: rest) a w := by
  have hkn := h.keysNodup
  obtain ⟨m, d, rfl, rfl, h3, h4, h5⟩ := h
  have hI := h3.map.inc kInt
  have hnc : NC w i := by
    obtain ⟨left, cnt, hr, _⟩ := h3
    obtain ⟨es, clock, since, seen, c0, _, _, _, _, hi, _⟩ := hr
    exact ⟨_, hi, rfl⟩
  have hinj : ∀ e ∈ m, ∀ e' ∈ m, e.1 = e'.1 → e = e' := by
    have hI' : m.Pairwise fun e e' => e.1 < e'.1 := by
      unfold IncK at hI
      rw [List.pairwise_map] at hI
      exact hI
    clear h3 h4 h5 hDone hMore hkn hI
    induction m with
    | nil => intro e he; cases he
    | cons x m ih =>
      obtain ⟨g1, g2⟩ := List.pairwise_cons.1 hI'
      intro e he e' he' hee
      rcases List.mem_cons.1 he with h1 | h1
      · rcases List.mem_cons.1 he' with h2 | h2
        · rw [h1, h2]
        · have := g1 e' h2
          rw [h1] at hee
          omega
      · rcases List.mem_cons.1 he' with h2 | h2
        · have := g1 e h1
          rw [h2] at hee
          omega
        · exact ih g2 e h1 e' h2 hee
  refine wpList_nextI w hg it hop kInt b i (m.map mv) (d.map mv) hit h3 (fun hp => hDone ?_) (fun p w' hp hpd hrg hlt hgr hsz hen => ?_)
  · refine List.Perm.map pl ?_
    have hndm : m.Nodup := by
      unfold IncK at hI
      rw [List.pairwise_map] at hI
      exact hI.imp fun {e e'} h1 h2 => by subst h2; omega
    have hndd : d.Nodup := by
      rw [List.map_map] at hkn
      exact (List.pairwise_map.1 hkn).imp fun {e e'} h1 h2 => h1 (by subst h2; rfl)
    refine (List.perm_ext_iff_of_nodup hndd hndm).2 fun e => ⟨h4 e, fun he => ?_⟩
    have h6 := hp.mem_iff.2 (List.mem_map.2 ⟨e, he, rfl⟩)
    obtain ⟨e', he', h7⟩ := List.mem_map.1 h6
    have h8 : (mv e').1 = (mv e).1 := by rw [h7]
    have := hinj e' (h4 e' he') e he h8
    rw [← this]
    exact he'
  · obtain ⟨e, he, rfl⟩ := List.mem_map.1 hp
    have hnot : e ∉ d := fun h => hpd (List.mem_map.2 ⟨e, h, rfl⟩)
    refine hMore e.1 e.2.1 e.2.2.1 e.2.2.2 w' (List.mem_map.2 ⟨e, he, rfl⟩) (fun h => ?_) ((h5 e he).turned hnc hgr) ⟨m, d ++ [e], rfl, by rw [List.map_append]; rfl, by rw [List.map_append]; exact hrg, fun x hx => ?_, fun x hx => (h5 x hx).turned hnc hgr⟩ hlt hgr hnc hsz hen
    · obtain ⟨q, hq, hqe⟩ := List.mem_map.1 h
      obtain ⟨e', he', rfl⟩ := List.mem_map.1 hq
      have h8 : (pl e').1 = e.1 := hqe
      have := hinj e' (h4 e' he') e he h8
      exact hnot (this ▸ he')
    · rcases List.mem_append.1 hx with h6 | h6
      · exact h4 x h6
      · rw [List.mem_singleton.1 h6]
        exact he
end

section
variable {w w' : World} {p : Nat} {od : List Rw}
end
end Go.Proofs.YtbbmgcdocolakaaGreatDoor
/-
  Sets of edges in memory: a map from edges to bool; words for it.
-/
namespace Go.Proofs.YtbbmgcdocolakaaGreatDoor
open Go.RowKit Go.Maps Go.WideMaps
set_option maxRecDepth 100000
set_option linter.unusedVariables false

theorem edgeK_wide : (match Tryz.prog.underlying 76 with | some (.array _ _) | some (.struct _) => true | _ => false) = true := by kernel_rfl
theorem edgeK_row : (76 : TypeId) < Tryz.prog.types.size := of_decide_eq_true (by kernel_rfl)
theorem edgeK_law : KeyLaw Tryz.prog 76 := deep_law_laid fr_laidOut (m := 2) (by omega) edgeK_row (by kernel_rfl) edgeK_wide
theorem edgeK_keyed : Keyed Tryz.prog 76 := Keyed.of_law edgeK_law
theorem edgeK_keyType : Tryz.prog.keyType 76 = true := by kernel_rfl
def i64e (x : Int) : Prop := -9223372036854775808 ≤ x ∧ x ≤ 9223372036854775807
def kE (i a : Int) : Lit := .string (keyBytes [.int .i64 i, .int .i64 a])
theorem edgeK_size : ∃ m, Tryz.prog.types.size = m + 1 := by
  have h := edgeK_row
  generalize Tryz.prog.types.size = m at h
  cases m with
  | zero => exact absurd h (Nat.not_lt_zero _)
  | succ m => exact ⟨m, rfl⟩
theorem keyOf_edge {i a : Int} (hi : i64e i) (ha : i64e a) : keyOf Tryz.prog 76 (.agg #[.int .i64 i, .int .i64 a]) = some (kE i a) := by
  have wi := lit_i64 hi.1 hi.2
  have wa := lit_i64 ha.1 ha.2
  have hkt := edgeK_keyType
  obtain ⟨m, hm⟩ := edgeK_size
  have hu := Tryz.underlying76
  have hc : Tryz.prog.cellsOf 76 = 2 := by kernel_rfl
  have hi2 : Tryz.prog.cellsOf 3 = 1 := by kernel_rfl
  unfold keyOf
  simp only [hu]
  rw [if_pos (by simp [hkt, Value.formed, hu, hc]), hm]
  unfold Program.keyLits
  simp only [hu, Value.cells]
  rw [if_pos ⟨by rw [hc]; rfl, by simp⟩, List.mapM_cons, List.mapM_cons, List.mapM_nil]
  simp [hi2, Program.keyLits, wi, wa, kE]
theorem kE_inj {i a j b : Int} (hi : i64e i) (ha : i64e a) (hj : i64e j) (hb : i64e b) (h : kE i a = kE j b) : i = j ∧ a = b := by
  have := edgeK_law.inj (keyOf_edge hi ha) (h ▸ keyOf_edge hj hb)
  simpa using this

/-- Block b is a map of counts: what it answers at each number of a row. -/
def OnEd (w : World) (b n : Nat) (f : Int → Int → Bool) : Prop := ∃ D, w.ownsMap Tryz.prog 76 rawR b n D ∧ ∀ i a, i64e i → i64e a → D.atKey (kE i a) (.held (.bool false)) = .held (.bool (f i a))
def updE (f : Int → Int → Bool) (i a : Int) (v : Bool) : Int → Int → Bool := fun j b => if j = i ∧ b = a then v else f j b
section
variable {w w' : World} {b n : Nat} {f : Int → Int → Bool}
theorem OnEd.made (w : World) : OnEd (w.alloc (.map #[] 0)) w.heap.size 0 fun _ _ => false := ⟨_, World.ownsMap_made w Tryz.prog _ rawR, fun i a _ _ => rfl⟩
theorem OnEd.lt (h : OnEd w b n f) : b < w.heap.size := by
  obtain ⟨D, h1, _⟩ := h
  exact World.ownsMap.lt h1
theorem OnEd.keep (h : OnEd w b n f) (hb : Below w.heap.size w w') : OnEd w' b n f := by
  obtain ⟨D, h1, h2⟩ := h
  have hlt := World.ownsMap.lt h1
  obtain ⟨es', clock, h3, F, hs, hD⟩ := h1
  exact ⟨D, ⟨es', clock, (hb.block b hlt).trans h3, F, hs, hD⟩, h2⟩
theorem OnEd.isMap (h : OnEd w b n f) : NC w b := by
  obtain ⟨D, ⟨es', clock, h3, _⟩, _⟩ := h
  exact NC.of_map h3
end
section
variable (w : World) {ops : Array Oper} {rest : List Oper} {o : Oper} {a : Act} {Q : Exit → Act → World → Prop}
theorem wpList_lookE (hg : o.guard = none) (m x : Operand) (hop : o.op = Op.lookup 107 m x false) (b n : Nat) (f : Int → Int → Bool) (hm : a.eval m = .map (some b)) (hown : OnEd w b n f) (i y : Int) (hx : a.eval x = .agg #[.int .i64 i, .int .i64 y]) (hi : i64e i) (hy : i64e y)
    (hK : wpList Tryz.prog ops Q rest (a.put o.dst (.bool (f i y))) w) :
    wpList Tryz.prog ops Q (o :: rest) a w := by
  refine wpList_plain hg fun K' hK' => ?_
  obtain ⟨D, h1, h2⟩ := hown
  obtain ⟨v, ps, hrun, hv⟩ := World.ownsMap.lookup h1 edgeK_keyed Tryz.underlying107 (show (zeroValue 4).run Tryz.prog w = .ok (.bool false) w from by kernel_rfl) (zd := .held (.bool false)) (zp := []) rfl (keyOf_edge hi hy)
  rw [h2 i y hi hy] at hv
  obtain rfl : v = .bool (f i y) := by
    have := (Prod.mk.inj (Option.some.inj hv)).1
    exact DataW.held.inj this
  unfold Oper.wp
  simp [execOp, hop, hm, hx, hrun, Result.andThen]
  exact hK' _ _ hK
theorem wpList_putE (hg : o.guard = none) (m x v : Operand) (hop : o.op = Op.mapUpdate 107 m x v) (b n : Nat) (f : Int → Int → Bool) (hm : a.eval m = .map (some b)) (hown : OnEd w b n f) (hn : n < maxLen) (i y : Int) (z : Bool) (hx : a.eval x = .agg #[.int .i64 i, .int .i64 y]) (hv : a.eval v = .bool z) (hi : i64e i) (hy : i64e y)
    (hK : ∀ w', OnEd w' b (n + 1) (updE f i y z) → w.grownBy w' (some b) → wpList Tryz.prog ops Q rest (a.put o.dst undef) w') :
    wpList Tryz.prog ops Q (o :: rest) a w := by
  obtain ⟨D, h1, h2⟩ := hown
  refine wpList_mapUpdate_own w hg m x v _ hop 76 4 edgeK_keyed Tryz.underlying107 rawR b n D hm h1 hn _ _ _ hx hv (keyOf_edge hi hy) (.held (.bool z)) [] rfl fun w' hw' hgr => hK w' ⟨_, hw', fun j c hj hc => ?_⟩ hgr
  unfold updE
  by_cases h : j = i ∧ c = y
  · obtain ⟨rfl, rfl⟩ := h
    rw [if_pos ⟨rfl, rfl⟩, atKey_put_same (World.ownsMap.isMap h1) (edgeK_keyed.key (keyOf_edge hi hy))]
  · rw [if_neg h, atKey_put_other (fun e => h (kE_inj hj hc hi hy e)), h2 j c hj hc]
end
end Go.Proofs.YtbbmgcdocolakaaGreatDoor
/-
  graph.check: what is wrong with an edge.
-/
namespace Go.Proofs.YtbbmgcdocolakaaGreatDoor
open Go.RowKit
attribute [local go_sem ↓] Go.wp_at_zero Go.wp_at_succ
set_option maxRecDepth 100000
set_option linter.unusedVariables false

set_option maxHeartbeats 4000000 in
theorem check_any (a b at_ : Int) (n : Nat) (acc : List (Int × Int)) (mb k : Nat) (f : Int → Int → Bool) (w : World) (hM : OnEd w mb k f) (hf : ∀ i j, f i j = decide ((i, j) ∈ acc)) (ha : i64e a) (hb : i64e b) :
    Calls Tryz.prog 58 #[.agg #[.int .i64 a, .int .i64 b], .int .i64 at_, .int .i64 (n : Int), .map (some mb)] w fun e w' => Below w.heap.size w w' ∧ ((Gh.badE n acc (a, b) = 0 ∧ e = .returned .nilIface) ∨ (Gh.badE n acc (a, b) ≠ 0 ∧ ∃ v, e = .returned v ∧ (Err.step ⟨#[101, 100, 103, 101]⟩ (.flt (Gh.badE n acc (a, b)) at_ ⟨#[101, 100, 103, 101]⟩)).At w' v)) := by
  obtain ⟨w0, hw0⟩ : ∃ W, W = w.alloc (.cells #[.int .i64 a, .int .i64 b] 76) := ⟨_, rfl⟩
  have HBc := Lib.hid (show Below w.heap.size w w0 from by rw [hw0]; exact bel_al (Below.refl _ _) _)
  have HMc := Lib.hid (hM.keep HBc.out)
  have HKc := Lib.hid (show Blk w0 w.heap.size 76 #[.int .i64 a, .int .i64 b] from by rw [hw0]; exact Blk.new _ _ _)
  have HTt := Lib.hid (gturned_any a b w0)
  have HFf := Lib.hid hf
  have HiA := Lib.hid ha
  have HiB := Lib.hid hb
  have k0 := HKc.out.cell 0
  have k1 := HKc.out.cell 1
  simp at k0 k1
  clear hM hf ha hb
  go_enter Tryz.func58, Tryz.ntmps58
  go_upto_region 1 with (fail)
  rw [← hw0]
  clear hw0
  rcases Int.lt_trichotomy a b with h | h | h
  · have h1 : ¬ b < a := by omega
    have h2 : ¬ b ≤ a := by omega
    have h3 : a ≤ b := by omega
    have hmn : min a b = a := by omega
    have hmx : max a b = b := by omega
    have HT := Lib.hid (show turnE (a, b) = (a, b) by unfold turnE; rw [if_pos (by simp only; omega)])
    have HBd := Lib.hid (show Gh.badE n acc (a, b) = if a < 0 ∨ (n : Int) ≤ b then 3 else if a = b then 1 else if (a, b) ∈ acc then 4 else 0 by unfold Gh.badE; rw [HT.out])
    have HTu := Lib.hid (show Calls Tryz.prog 59 #[.agg #[.int .i64 a, .int .i64 b]] w0 fun e w' => e = .returned (.agg #[.int .i64 a, .int .i64 b]) ∧ Below w0.heap.size w0 w' from HTt.out.mono fun e w' h => ⟨by rw [h.1, HT.out]; rfl, h.2⟩)
    clear HTt
    by_cases h4 : a < 0
    · have HR := Lib.hid (show Gh.badE n acc (a, b) = 3 by rw [HBd.out, if_pos (.inl h4)])
      clear HBd
      go_wp2_with (first
        | (go_at_call 39; refine HI.out.mono ?_; clear HI; rintro e w5 ⟨v5, rfl, hv5, hb5⟩; have HV5 := Lib.hid hv5; have HB5 := Lib.hid (HBn.out.andThen hb5); clear hv5 hb5)
        | (go_at_call 29; refine (New_err _ _ _ _).mono ?_; rintro e w4 ⟨v4, rfl, hv4, hb4⟩; have HI := Lib.hid (In_any ⟨#[101, 100, 103, 101]⟩ (.flt 3 at_ ⟨#[101, 100, 103, 101]⟩) v4 w4 hv4); have HBn := Lib.hid (HBc.out.andThen hb4); clear hv4 hb4))
      go_ret
      refine ⟨HB5.out, .inr ⟨by rw [HR.out]; decide, v5, rfl, ?_⟩⟩
      rw [HR.out]
      have h := HV5.out
      rwa [Err.in_of (by exact fun h => by cases h)] at h
    by_cases h5 : (n : Int) ≤ b
    · have HR := Lib.hid (show Gh.badE n acc (a, b) = 3 by rw [HBd.out, if_pos (.inr h5)])
      clear HBd
      go_wp2_with (first
        | (go_at_call 39; refine HI.out.mono ?_; clear HI; rintro e w5 ⟨v5, rfl, hv5, hb5⟩; have HV5 := Lib.hid hv5; have HB5 := Lib.hid (HBn.out.andThen hb5); clear hv5 hb5)
        | (go_at_call 29; refine (New_err _ _ _ _).mono ?_; rintro e w4 ⟨v4, rfl, hv4, hb4⟩; have HI := Lib.hid (In_any ⟨#[101, 100, 103, 101]⟩ (.flt 3 at_ ⟨#[101, 100, 103, 101]⟩) v4 w4 hv4); have HBn := Lib.hid (HBc.out.andThen hb4); clear hv4 hb4))
      go_ret
      refine ⟨HB5.out, .inr ⟨by rw [HR.out]; decide, v5, rfl, ?_⟩⟩
      rw [HR.out]
      have h := HV5.out
      rwa [Err.in_of (by exact fun h => by cases h)] at h
    have hne : (a == b) = false := by simp; omega
    have HiL := Lib.hid (show i64e a from HiA.out)
    have HiH := Lib.hid (show i64e b from HiB.out)
    by_cases h6 : (a, b) ∈ acc
    · have HR := Lib.hid (show Gh.badE n acc (a, b) = 4 by rw [HBd.out, if_neg (by omega), if_neg (by omega), if_pos h6])
      have HF := Lib.hid (show f a b = true by rw [HFf.out]; exact decide_eq_true h6)
      clear HBd h6
      go_wp2_with (first
        | (go_at_call 39; refine HI.out.mono ?_; clear HI; rintro e w5 ⟨v5, rfl, hv5, hb5⟩; have HV5 := Lib.hid hv5; have HB5 := Lib.hid (HBn.out.andThen hb5); clear hv5 hb5)
        | (go_at_call 29; refine (New_err _ _ _ _).mono ?_; rintro e w4 ⟨v4, rfl, hv4, hb4⟩; have HI := Lib.hid (In_any ⟨#[101, 100, 103, 101]⟩ (.flt 4 at_ ⟨#[101, 100, 103, 101]⟩) v4 w4 hv4); have HBn := Lib.hid (HBc.out.andThen hb4); clear hv4 hb4)
        | (refine wpList_lookE _ rfl _ _ rfl mb k f (by go_simp) HMc.out (a) (b) (by go_simp) HiL.out HiH.out ?_; rw [HF.out])
        | (go_at_call 59; refine HTu.out.mono ?_; clear HTu; rintro e w3 ⟨rfl, hb3⟩; replace HMc := Lib.hid (HMc.out.keep hb3); replace HBc := Lib.hid (HBc.out.andThen hb3); clear hb3))
      go_ret
      refine ⟨HB5.out, .inr ⟨by rw [HR.out]; decide, v5, rfl, ?_⟩⟩
      rw [HR.out]
      have h := HV5.out
      rwa [Err.in_of (by exact fun h => by cases h)] at h
    · have HR := Lib.hid (show Gh.badE n acc (a, b) = 0 by rw [HBd.out, if_neg (by omega), if_neg (by omega), if_neg h6])
      have HF := Lib.hid (show f a b = false by rw [HFf.out]; exact decide_eq_false h6)
      clear HBd h6
      go_wp2_with (first
        | (refine wpList_lookE _ rfl _ _ rfl mb k f (by go_simp) HMc.out (a) (b) (by go_simp) HiL.out HiH.out ?_; rw [HF.out])
        | (go_at_call 59; refine HTu.out.mono ?_; clear HTu; rintro e w3 ⟨rfl, hb3⟩; replace HMc := Lib.hid (HMc.out.keep hb3); replace HBc := Lib.hid (HBc.out.andThen hb3); clear hb3))
      go_ret
      exact ⟨HBc.out, .inl ⟨HR.out, rfl⟩⟩
  · subst h
    have h1 : ¬ a < a := by omega
    have h2 : a ≤ a := by omega
    have hmn : min a a = a := by omega
    have hmx : max a a = a := by omega
    have HT := Lib.hid (show turnE (a, a) = (a, a) by unfold turnE; rw [if_pos (by simp only; omega)])
    have HBd := Lib.hid (show Gh.badE n acc (a, a) = if a < 0 ∨ (n : Int) ≤ a then 3 else if a = a then 1 else if (a, a) ∈ acc then 4 else 0 by unfold Gh.badE; rw [HT.out])
    have HTu := Lib.hid (show Calls Tryz.prog 59 #[.agg #[.int .i64 a, .int .i64 a]] w0 fun e w' => e = .returned (.agg #[.int .i64 a, .int .i64 a]) ∧ Below w0.heap.size w0 w' from HTt.out.mono fun e w' h => ⟨by rw [h.1, HT.out]; rfl, h.2⟩)
    clear HTt
    by_cases h4 : a < 0
    · have HR := Lib.hid (show Gh.badE n acc (a, a) = 3 by rw [HBd.out, if_pos (.inl h4)])
      clear HBd
      go_wp2_with (first
        | (go_at_call 39; refine HI.out.mono ?_; clear HI; rintro e w5 ⟨v5, rfl, hv5, hb5⟩; have HV5 := Lib.hid hv5; have HB5 := Lib.hid (HBn.out.andThen hb5); clear hv5 hb5)
        | (go_at_call 29; refine (New_err _ _ _ _).mono ?_; rintro e w4 ⟨v4, rfl, hv4, hb4⟩; have HI := Lib.hid (In_any ⟨#[101, 100, 103, 101]⟩ (.flt 3 at_ ⟨#[101, 100, 103, 101]⟩) v4 w4 hv4); have HBn := Lib.hid (HBc.out.andThen hb4); clear hv4 hb4))
      go_ret
      refine ⟨HB5.out, .inr ⟨by rw [HR.out]; decide, v5, rfl, ?_⟩⟩
      rw [HR.out]
      have h := HV5.out
      rwa [Err.in_of (by exact fun h => by cases h)] at h
    by_cases h5 : (n : Int) ≤ a
    · have HR := Lib.hid (show Gh.badE n acc (a, a) = 3 by rw [HBd.out, if_pos (.inr h5)])
      clear HBd
      go_wp2_with (first
        | (go_at_call 39; refine HI.out.mono ?_; clear HI; rintro e w5 ⟨v5, rfl, hv5, hb5⟩; have HV5 := Lib.hid hv5; have HB5 := Lib.hid (HBn.out.andThen hb5); clear hv5 hb5)
        | (go_at_call 29; refine (New_err _ _ _ _).mono ?_; rintro e w4 ⟨v4, rfl, hv4, hb4⟩; have HI := Lib.hid (In_any ⟨#[101, 100, 103, 101]⟩ (.flt 3 at_ ⟨#[101, 100, 103, 101]⟩) v4 w4 hv4); have HBn := Lib.hid (HBc.out.andThen hb4); clear hv4 hb4))
      go_ret
      refine ⟨HB5.out, .inr ⟨by rw [HR.out]; decide, v5, rfl, ?_⟩⟩
      rw [HR.out]
      have h := HV5.out
      rwa [Err.in_of (by exact fun h => by cases h)] at h
    have HR := Lib.hid (show Gh.badE n acc (a, a) = 1 by rw [HBd.out, if_neg (by omega), if_pos rfl])
    clear HBd
    go_wp2_with (first
      | (go_at_call 39; refine HI.out.mono ?_; clear HI; rintro e w5 ⟨v5, rfl, hv5, hb5⟩; have HV5 := Lib.hid hv5; have HB5 := Lib.hid (HBn.out.andThen hb5); clear hv5 hb5)
      | (go_at_call 29; refine (New_err _ _ _ _).mono ?_; rintro e w4 ⟨v4, rfl, hv4, hb4⟩; have HI := Lib.hid (In_any ⟨#[101, 100, 103, 101]⟩ (.flt 1 at_ ⟨#[101, 100, 103, 101]⟩) v4 w4 hv4); have HBn := Lib.hid (HBc.out.andThen hb4); clear hv4 hb4))
    go_ret
    refine ⟨HB5.out, .inr ⟨by rw [HR.out]; decide, v5, rfl, ?_⟩⟩
    rw [HR.out]
    have h := HV5.out
    rwa [Err.in_of (by exact fun h => by cases h)] at h
  · have h1 : ¬ a < b := by omega
    have h2 : ¬ a ≤ b := by omega
    have h3 : b ≤ a := by omega
    have hmn : min a b = b := by omega
    have hmx : max a b = a := by omega
    have HT := Lib.hid (show turnE (a, b) = (b, a) by unfold turnE; rw [if_neg (by simp only; omega)])
    have HBd := Lib.hid (show Gh.badE n acc (a, b) = if b < 0 ∨ (n : Int) ≤ a then 3 else if a = b then 1 else if (b, a) ∈ acc then 4 else 0 by unfold Gh.badE; rw [HT.out])
    have HTu := Lib.hid (show Calls Tryz.prog 59 #[.agg #[.int .i64 a, .int .i64 b]] w0 fun e w' => e = .returned (.agg #[.int .i64 b, .int .i64 a]) ∧ Below w0.heap.size w0 w' from HTt.out.mono fun e w' h => ⟨by rw [h.1, HT.out]; rfl, h.2⟩)
    clear HTt
    by_cases h4 : b < 0
    · have HR := Lib.hid (show Gh.badE n acc (a, b) = 3 by rw [HBd.out, if_pos (.inl h4)])
      clear HBd
      go_wp2_with (first
        | (go_at_call 39; refine HI.out.mono ?_; clear HI; rintro e w5 ⟨v5, rfl, hv5, hb5⟩; have HV5 := Lib.hid hv5; have HB5 := Lib.hid (HBn.out.andThen hb5); clear hv5 hb5)
        | (go_at_call 29; refine (New_err _ _ _ _).mono ?_; rintro e w4 ⟨v4, rfl, hv4, hb4⟩; have HI := Lib.hid (In_any ⟨#[101, 100, 103, 101]⟩ (.flt 3 at_ ⟨#[101, 100, 103, 101]⟩) v4 w4 hv4); have HBn := Lib.hid (HBc.out.andThen hb4); clear hv4 hb4))
      go_ret
      refine ⟨HB5.out, .inr ⟨by rw [HR.out]; decide, v5, rfl, ?_⟩⟩
      rw [HR.out]
      have h := HV5.out
      rwa [Err.in_of (by exact fun h => by cases h)] at h
    by_cases h5 : (n : Int) ≤ a
    · have HR := Lib.hid (show Gh.badE n acc (a, b) = 3 by rw [HBd.out, if_pos (.inr h5)])
      clear HBd
      go_wp2_with (first
        | (go_at_call 39; refine HI.out.mono ?_; clear HI; rintro e w5 ⟨v5, rfl, hv5, hb5⟩; have HV5 := Lib.hid hv5; have HB5 := Lib.hid (HBn.out.andThen hb5); clear hv5 hb5)
        | (go_at_call 29; refine (New_err _ _ _ _).mono ?_; rintro e w4 ⟨v4, rfl, hv4, hb4⟩; have HI := Lib.hid (In_any ⟨#[101, 100, 103, 101]⟩ (.flt 3 at_ ⟨#[101, 100, 103, 101]⟩) v4 w4 hv4); have HBn := Lib.hid (HBc.out.andThen hb4); clear hv4 hb4))
      go_ret
      refine ⟨HB5.out, .inr ⟨by rw [HR.out]; decide, v5, rfl, ?_⟩⟩
      rw [HR.out]
      have h := HV5.out
      rwa [Err.in_of (by exact fun h => by cases h)] at h
    have hne : (a == b) = false := by simp; omega
    have HiL := Lib.hid (show i64e b from HiB.out)
    have HiH := Lib.hid (show i64e a from HiA.out)
    by_cases h6 : (b, a) ∈ acc
    · have HR := Lib.hid (show Gh.badE n acc (a, b) = 4 by rw [HBd.out, if_neg (by omega), if_neg (by omega), if_pos h6])
      have HF := Lib.hid (show f b a = true by rw [HFf.out]; exact decide_eq_true h6)
      clear HBd h6
      go_wp2_with (first
        | (go_at_call 39; refine HI.out.mono ?_; clear HI; rintro e w5 ⟨v5, rfl, hv5, hb5⟩; have HV5 := Lib.hid hv5; have HB5 := Lib.hid (HBn.out.andThen hb5); clear hv5 hb5)
        | (go_at_call 29; refine (New_err _ _ _ _).mono ?_; rintro e w4 ⟨v4, rfl, hv4, hb4⟩; have HI := Lib.hid (In_any ⟨#[101, 100, 103, 101]⟩ (.flt 4 at_ ⟨#[101, 100, 103, 101]⟩) v4 w4 hv4); have HBn := Lib.hid (HBc.out.andThen hb4); clear hv4 hb4)
        | (refine wpList_lookE _ rfl _ _ rfl mb k f (by go_simp) HMc.out (b) (a) (by go_simp) HiL.out HiH.out ?_; rw [HF.out])
        | (go_at_call 59; refine HTu.out.mono ?_; clear HTu; rintro e w3 ⟨rfl, hb3⟩; replace HMc := Lib.hid (HMc.out.keep hb3); replace HBc := Lib.hid (HBc.out.andThen hb3); clear hb3))
      go_ret
      refine ⟨HB5.out, .inr ⟨by rw [HR.out]; decide, v5, rfl, ?_⟩⟩
      rw [HR.out]
      have h := HV5.out
      rwa [Err.in_of (by exact fun h => by cases h)] at h
    · have HR := Lib.hid (show Gh.badE n acc (a, b) = 0 by rw [HBd.out, if_neg (by omega), if_neg (by omega), if_neg h6])
      have HF := Lib.hid (show f b a = false by rw [HFf.out]; exact decide_eq_false h6)
      clear HBd h6
      go_wp2_with (first
        | (refine wpList_lookE _ rfl _ _ rfl mb k f (by go_simp) HMc.out (b) (a) (by go_simp) HiL.out HiH.out ?_; rw [HF.out])
        | (go_at_call 59; refine HTu.out.mono ?_; clear HTu; rintro e w3 ⟨rfl, hb3⟩; replace HMc := Lib.hid (HMc.out.keep hb3); replace HBc := Lib.hid (HBc.out.andThen hb3); clear hb3))
      go_ret
      exact ⟨HBc.out, .inl ⟨HR.out, rfl⟩⟩
end Go.Proofs.YtbbmgcdocolakaaGreatDoor
/-
  (*Graph).rows: the closure that puts one vertex beside another.
-/
namespace Go.Proofs.YtbbmgcdocolakaaGreatDoor
open Go.RowKit
attribute [local go_sem ↓] Go.wp_at_zero Go.wp_at_succ
set_option maxRecDepth 100000
set_option linter.unusedVariables false

/-- A row of ints that lies in a block of its own. -/
def OL (w : World) (B b n c : Nat) (l : List Int) : Prop := w.ownsRow B 3 1 (.slice (some ⟨b, 0, none⟩) n c) n (l.map (Value.int .i64))
section
variable {w w' : World} {B b n c : Nat} {l : List Int}
theorem OL.len (h : OL w B b n c l) : l.length = n := by
  have := h.1
  simpa using this
theorem OL.cell (h : OL w B b n c l) {i : Nat} {x : Int} (hi : l[i]? = some x) : w.cell? ⟨b, i, none⟩ = some (.int .i64 x) := by
  have hl := h.len
  have h1 := (List.getElem?_eq_some_iff.1 hi).1
  rw [World.ownsRow.cellAt h i (by omega), List.getElem?_map, hi]
  rfl
theorem OL.frozen (h : OL w B b n c l) (i : Nat) : w.frozen? ⟨b, i, none⟩ = false := World.ownsRow.frozenAt h i
theorem OL.set (h : OL w B b n c l) (i : Nat) (x : Int) : OL (w.setCell ⟨b, i, none⟩ (.int .i64 x)) B b n c (l.set i x) := by
  have := (World.ownsRow.stored h i (.int .i64 x)).1
  unfold OL
  rw [List.map_set]
  exact this
theorem OL.same (h : OL w B b n c l) (hb : w'.heap[b]? = w.heap[b]?) : OL w' B b n c l := own_block h fun g hg => by
  obtain rfl : b = g := by simpa [Value.ownBlock] using hg
  exact hb
theorem OL.far (h : OL w B b n c l) {b' j : Nat} (hne : b ≠ b') (u : Value) : OL (w.setCell ⟨b', j, none⟩ u) B b n c l := h.same (Below.heap_setCell w ⟨b', j, none⟩ u b hne)
theorem OL.lt (h : OL w B b n c l) : B ≤ b ∧ b < w.heap.size := World.ownsRow.lt h b rfl
theorem OL.keep (h : OL w B b n c l) (hb : Below w.heap.size w w') : OL w' B b n c l := h.same (hb.block b h.lt.2)
theorem OL.sl (h : OL w B b n c l) : Sl w 1 (some ⟨b, 0, none⟩) n (l.map (Value.int .i64)) := Sl.of_own h
end

set_option maxHeartbeats 4000000 in
theorem put_any (g p1 p5 N I X m2 n c B v u id x : Nat) (lab edg fst : Value) (ne ids nx : List Int) (w : World)
    (h1 : w.cell? ⟨p1, 0, none⟩ = some (.pointer (some ⟨g, 0, none⟩))) (h5 : w.cell? ⟨p5, 0, none⟩ = some (.slice (some ⟨X, 0, none⟩) n c))
    (hg : Blk w g 74 #[lab, edg, fst, .slice (some ⟨N, 0, none⟩) m2 m2, .slice (some ⟨I, 0, none⟩) m2 m2])
    (hN : OL w B N m2 m2 ne) (hI : OL w B I m2 m2 ids) (hX : OL w B X n c nx) (hv : v < n) (hx : nx[v]? = some ((x : Nat) : Int)) (hxm : x < m2) (hm2 : m2 ≤ 1000000)
    (hNI : N ≠ I) (hNX : N ≠ X) (hIX : I ≠ X) (h1N : p1 ≠ N) (h1I : p1 ≠ I) (h5N : p5 ≠ N) (h5I : p5 ≠ I) (hgN : g ≠ N) (hgI : g ≠ I) :
    Calls Tryz.prog 86 #[.int .i64 (v : Int), .int .i64 (u : Int), .int .i64 (id : Int), .pointer (some ⟨p1, 0, none⟩), .pointer (some ⟨p5, 0, none⟩)] w fun e w' => e = .returned (.tuple #[]) ∧
      OL w' B N m2 m2 (ne.set x (u : Int)) ∧ OL w' B I m2 m2 (ids.set x (id : Int)) ∧ OL w' B X n c (nx.set v ((x : Int) + 1)) ∧ (∀ b, b ≠ N → b ≠ I → b ≠ X → w'.heap[b]? = w.heap[b]?) ∧ Below B w w' := by
  have g3 := hg.cell 3
  have g4 := hg.cell 4
  simp at g3 g4
  have xc := hX.cell hx
  obtain ⟨y1, hy1⟩ : ∃ y, ne[x]? = some y := ⟨_, List.getElem?_eq_getElem (by rw [hN.len]; exact hxm)⟩
  obtain ⟨y2, hy2⟩ : ∃ y, ids[x]? = some y := ⟨_, List.getElem?_eq_getElem (by rw [hI.len]; exact hxm)⟩
  have nc := hN.cell hy1
  have ic := hI.cell hy2
  have f1 := hN.frozen x
  have f2 := hI.frozen x
  have f3 := hX.frozen v
  have hIN : I ≠ N := fun e => hNI e.symm
  have hXN : X ≠ N := fun e => hNX e.symm
  have hXI : X ≠ I := fun e => hIX e.symm
  have v1 : (v : Int) < (n : Int) := by omega
  have v2 : ¬ (v : Int) < 0 := by omega
  have x1 : (x : Int) < (m2 : Int) := by omega
  have x2 : ¬ (x : Int) < 0 := by omega
  have HN := Lib.hid hN
  have HI := Lib.hid hI
  have HX := Lib.hid hX
  clear hN hI hX hg hy1 hy2
  go_enter Tryz.func86, Tryz.ntmps86
  go_wp2_with fail
  go_region
  go_wp2_with fail
  go_end0
  have r1 := ((HN.out.set x (u : Int)).far (j := x) hNI (.int .i64 (id : Int))).far (j := v) hNX (.int .i64 ((x : Int) + 1))
  have r2 := ((HI.out.far (j := x) hIN (.int .i64 (u : Int))).set x (id : Int)).far (j := v) hIX (.int .i64 ((x : Int) + 1))
  have r3 := ((HX.out.far (j := x) hXN (.int .i64 (u : Int))).far (j := x) hXI (.int .i64 (id : Int))).set v ((x : Int) + 1)
  refine ⟨rfl, r1.same rfl, r2.same rfl, r3.same rfl, fun b h1 h2 h3 => ?_, bel_drewN ((((Below.refl B w).setCell (p := ⟨N, x, none⟩) HN.out.lt.1 _).setCell (p := ⟨I, x, none⟩) HI.out.lt.1 _).setCell (p := ⟨X, v, none⟩) HX.out.lt.1 _) 1⟩
  exact (Below.heap_setCell _ ⟨X, v, none⟩ _ b h3).trans ((Below.heap_setCell _ ⟨I, x, none⟩ _ b h2).trans (Below.heap_setCell w ⟨N, x, none⟩ _ b h1))
end Go.Proofs.YtbbmgcdocolakaaGreatDoor
