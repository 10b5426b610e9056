/-
  Part 3 of the proof of OdagMerge: OdM, ListS, PicksP.
-/
import Derived.RangeFuncFrom
import Derived.Test.YtmonepclhbappaaGreatDoorOdagMergeM2
import Derived.Shelf.Spec.SlicesGrow
import Derived.Test.YtmonepclhbappaaGreatDoorOdagMergeM1
/-
  An odag in memory: rows that are maps from ints to slices of ints; words for it.
-/
namespace Go.Proofs.YtmonepclhbappaaGreatDoor
open Go.RowKit Go.Maps
set_option maxRecDepth 100000
set_option linter.unusedVariables false
set_option linter.unusedSectionVars false

/-- A row plainly: its numbers, rising, each with its links. -/
abbrev Rw := List (Int × List Int)
def lkR (r : Rw) (a : Int) : List Int := ((r.find? fun p => decide (p.1 = a)).map (·.2)).getD []
def putR (r : Rw) (a : Int) (l : List Int) : Rw := (r.filter fun p => decide (p.1 < a)) ++ (a, l) :: r.filter fun p => decide (a < p.1)
theorem putR_len (r : Rw) (a : Int) (l : List Int) : (putR r a l).length ≤ r.length + 1 := by
  unfold putR
  have h : ∀ r : Rw, (r.filter fun p => decide (p.1 < a)).length + (r.filter fun p => decide (a < p.1)).length ≤ r.length := by
    intro r
    induction r with
    | nil => simp
    | cons p r ih =>
      rw [List.filter_cons, List.filter_cons]
      by_cases h1 : p.1 < a
      · have h2 : ¬ a < p.1 := by omega
        simp [h1, h2]
        omega
      · by_cases h2 : a < p.1
        · simp [h1, h2]
          omega
        · simp [h1, h2]
          omega
  have := h r
  simp
  omega

/-- An entry in memory: its number, where its links lie, the links. -/
abbrev ME := Int × Option Addr × Nat × List Int
def mv (e : ME) : Int × Value := (e.1, rv e.2)
def pl (e : ME) : Int × List Int := (e.1, e.2.2.2)
abbrev MapR (w : World) (b : Nat) (es : List (Int × Value)) : Prop := MapI Tryz.prog 3 w b es
/-- Block b is a map that reads as this row. -/
def MRow (w : World) (b : Nat) (r : Rw) : Prop := ∃ m : List ME, m.map pl = r ∧ MapR w b (m.map mv) ∧ ∀ e ∈ m, RowOK w e.2

theorem kInt : Tryz.prog.underlying 3 = some (.int .i64) := Tryz.underlying3

/-- Block b holds no cells: a map, an iterator. -/
def NC (w : World) (b : Nat) : Prop := ∃ o, w.heap[b]? = some o ∧ o.isCells = false
section
variable {w w' : World} {b b' : Nat} {r : Rw}
theorem NC.of_map {es : Array MapEntry} {cl : Nat} (h : w.heap[b]? = some (.map es cl)) : NC w b := ⟨_, h, rfl⟩
theorem NC.cell {a : Addr} {v : Value} (h : NC w b) (hc : w.cell? a = some v) : a.block ≠ b := fun e => by
  obtain ⟨o, h1, h2⟩ := h
  unfold World.cell? at hc
  rw [e, h1] at hc
  cases o <;> first | (cases hc; done) | cases h2
theorem NC.keep (h : NC w b) (hb : Below w.heap.size w w') : NC w' b := by
  obtain ⟨o, h1, h2⟩ := h
  exact ⟨o, (hb.block b (Array.getElem?_eq_some_iff.1 h1).1).trans h1, h2⟩
theorem bel_turn {B : Nat} {w0 : World} (h : Below B w0 w) (hg : w.grownBy w' (some b)) (hb : B ≤ b) (hB : B ≤ w.heap.size) : Below B w0 w' :=
  h.trans ⟨hg.os, hg.tape, hg.output, hg.size, fun k hk => hg.block k (by omega) (fun e => by cases e; omega)⟩
/-- A row of ints outlives a change of a block that holds no cells. -/
theorem Sl.turned {s n : Nat} {A : Option Addr} {xs : List Value} (h : Sl w s A n xs) (hm : NC w b) (hg : w.grownBy w' (some b)) : Sl w' s A n xs :=
  ⟨h.1, fun hn => by
    obtain ⟨b0, off, hA, hc⟩ := h.2 hn
    refine ⟨b0, off, hA, fun j v hj => ?_⟩
    have h1 := hc j v hj
    have hne : some b0 ≠ some b := fun e => hm.cell h1 (by cases e; rfl)
    exact (World.cell?_of_block (w := w) (a := ⟨b0, off + j, none⟩) (hg.block b0 (World.block_lt_of_cell? w _ h1) hne)).trans h1⟩
theorem RowOK.turned {t : Option Addr × Nat × List Int} (h : RowOK w t) (hm : NC w b) (hg : w.grownBy w' (some b)) : RowOK w' t := ⟨h.1.turned hm hg, h.2⟩
theorem Blk.turned {g : Nat} {t : TypeId} {cs : Array Value} (h : Blk w g t cs) (hm : NC w b) (hg : w.grownBy w' (some b)) : Blk w' g t cs := h.grown hg (fun e => by
  cases e
  obtain ⟨o, h1, h2⟩ := hm
  unfold Blk at h
  rw [h1] at h
  cases h
  cases h2)
theorem own_turned {B size n : Nat} {e : TypeId} {v : Value} {xs : List Value} (h : w.ownsRow B e size v n xs) (hm : NC w b) (hg : w.grownBy w' (some b)) : w'.ownsRow B e size v n xs :=
  own_block h fun g hgv => hg.block g (h.lt g hgv).2 (fun e1 => by
    cases e1
    obtain ⟨_, h2⟩ := h
    obtain ⟨o, h3, h4⟩ := hm
    rcases h2 with ⟨rfl, _⟩ | ⟨g', cap, cur, rfl, _, h5, _⟩
    · cases hgv
    · cases hgv
      rw [h3] at h5
      cases h5
      cases h4)

theorem MRow.keep (h : MRow w b r) (hb : Below w.heap.size w w') : MRow w' b r := by
  obtain ⟨m, h1, h2, h3⟩ := h
  exact ⟨m, h1, MapI.keep h2 hb, fun e he => (h3 e he).keep hb⟩
theorem MRow.lt (h : MRow w b r) : b < w.heap.size := by
  obtain ⟨m, h1, h2, h3⟩ := h
  exact MapI.lt h2
theorem MRow.isMap (h : MRow w b r) : NC w b := by
  obtain ⟨m, h1, h2, h3⟩ := h
  obtain ⟨es, cl, h4⟩ := MapI.isMap h2
  exact NC.of_map h4
theorem MRow.other (h : MRow w b r) (hm : NC w b') (hg : w.grownBy w' (some b')) (hne : b ≠ b') : MRow w' b r := by
  obtain ⟨m, h1, h2, h3⟩ := h
  exact ⟨m, h1, MapI.kept h2 hg (fun e => hne (by cases e; rfl)), fun e he => (h3 e he).turned hm hg⟩
/-- A change of a block of cells, behind a row's own memory. -/
theorem MRow.incr (h : MRow w b r) : r.Pairwise fun p q => p.1 < q.1 := by
  obtain ⟨m, rfl, h2, _⟩ := h
  have := MapI.inc kInt h2
  unfold IncK at this
  rw [List.pairwise_map] at this ⊢
  exact this
theorem MRow.made (w : World) : MRow (w.alloc (.map #[] 0)) w.heap.size [] := ⟨[], rfl, MapI.made _ _ w, fun e he => by cases he⟩

theorem find_pl (y : Int) : ∀ m : List ME, ((m.map pl).find? fun p => decide (p.1 = y)) = (m.find? fun e => decide (e.1 = y)).map pl
  | [] => rfl
  | e :: m => by
    rw [List.map_cons, List.find?_cons, List.find?_cons, find_pl y m]
    show (match decide (e.1 = y) with | true => some (pl e) | false => _) = _
    cases decide (e.1 = y) <;> rfl
theorem find_mv (y : Int) : ∀ m : List ME, ((m.map mv).find? fun p => decide (p.1 = y)) = (m.find? fun e => decide (e.1 = y)).map mv
  | [] => rfl
  | e :: m => by
    rw [List.map_cons, List.find?_cons, List.find?_cons, find_mv y m]
    show (match decide (e.1 = y) with | true => some (mv e) | false => _) = _
    cases decide (e.1 = y) <;> rfl
/-- What is read at a number. -/
theorem MRow.look {m : List ME} (h3 : ∀ e ∈ m, RowOK w e.2) (y : Int) : ∃ (A : Option Addr) (c : Nat) (l : List Int), RowOK w (A, c, l) ∧ l = lkR (m.map pl) y ∧ (atI (m.map mv) y).getD (.slice none 0 0) = .slice A l.length c := by
  unfold lkR atI
  rw [find_pl, find_mv]
  cases hf : m.find? fun e => decide (e.1 = y) with
  | none => exact ⟨none, 0, [], ⟨Sl.nil _ _ _, Nat.le_refl _, Nat.zero_le _⟩, rfl, rfl⟩
  | some e => exact ⟨e.2.1, e.2.2.1, e.2.2.2, h3 e (List.mem_of_find?_eq_some hf), rfl, rfl⟩
theorem put_map {α : Type} (f : ME → Int × α) (hf : ∀ e, (f e).1 = e.1) (m : List ME) (e0 : ME) (x : Int × α) (hx : f e0 = x) :
    ((m.map f).filter fun p => decide (p.1 < x.1)) ++ x :: ((m.map f).filter fun p => decide (x.1 < p.1)) = (((m.filter fun e => decide (e.1 < e0.1)) ++ e0 :: m.filter fun e => decide (e0.1 < e.1)).map f) := by
  subst hx
  rw [List.map_append, List.map_cons, List.filter_map, List.filter_map]
  have e1 : ((fun p : Int × α => decide (p.1 < (f e0).1)) ∘ f) = fun e => decide (e.1 < e0.1) := by funext e; simp [hf]
  have e2 : ((fun p : Int × α => decide ((f e0).1 < p.1)) ∘ f) = fun e => decide (e0.1 < e.1) := by funext e; simp [hf]
  rw [e1, e2]
end

section
variable (w : World) {ops : Array Oper} {rest : List Oper} {o : Oper} {a : Act} {Q : Exit → Act → World → Prop}
/-- 'r[a]'. -/
theorem wpList_lookR (hg : o.guard = none) (m x : Operand) (hop : o.op = Op.lookup 114 m x false) (b : Nat) (r : Rw) (hm : a.eval m = .map (some b)) (hown : MRow w b r) (y : Int) (hx : a.eval x = .int .i64 y) (h1 : -9223372036854775808 ≤ y) (h2 : y ≤ 9223372036854775807)
    (hK : ∀ (A : Option Addr) (c : Nat) (l : List Int), RowOK w (A, c, l) → l = lkR r y → wpList Tryz.prog ops Q rest (a.put o.dst (.slice A l.length c)) w) :
    wpList Tryz.prog ops Q (o :: rest) a w := by
  obtain ⟨me, rfl, hM, hR⟩ := hown
  obtain ⟨A, c, l, h3, h4, h5⟩ := MRow.look hR y
  refine wpList_lookI w hg m x _ hop 22 kInt Tryz.underlying114 (.slice none 0 0) (by kernel_rfl) b _ hm hM y hx h1 h2 ?_
  rw [h5]
  exact hK A c l h3 h4
/-- 'r[a] = l'. -/
theorem wpList_putR (hg : o.guard = none) (m x v : Operand) (hop : o.op = Op.mapUpdate 114 m x v) (b : Nat) (r : Rw) (hm : a.eval m = .map (some b)) (hown : MRow w b r) (hn : r.length ≤ 1000000) (y : Int) (hx : a.eval x = .int .i64 y) (h1 : -9223372036854775808 ≤ y) (h2 : y ≤ 9223372036854775807)
    (A : Option Addr) (c n : Nat) (l : List Int) (hl : l.length = n) (hv : a.eval v = .slice A n c) (hrow : RowOK w (A, c, l))
    (hK : ∀ w', MRow w' b (putR r y l) → w.grownBy w' (some b) → wpList Tryz.prog ops Q rest (a.put o.dst undef) w') :
    wpList Tryz.prog ops Q (o :: rest) a w := by
  have hmap := hown.isMap
  obtain ⟨me, rfl, hM, hR⟩ := hown
  subst hl
  refine wpList_putI w hg m x v _ hop 22 kInt Tryz.underlying114 b _ hm hM (by rw [List.length_map] at hn ⊢; unfold maxLen; omega) y _ hx hv h1 h2 fun w' hM' hgr => hK w' ?_ hgr
  refine ⟨(me.filter fun e => decide (e.1 < y)) ++ ((y, A, c, l) : ME) :: me.filter fun e => decide (y < e.1), ?_, ?_, fun e he => ?_⟩
  · exact (put_map pl (fun _ => rfl) me (y, A, c, l) (y, l) rfl).symm
  · have := put_map mv (fun _ => rfl) me (y, A, c, l) (y, .slice A l.length c) rfl
    rw [← this]
    exact hM'
  · have hall : ∀ e ∈ (y, A, c, l) :: me, RowOK w e.2 := fun e he => by
      rcases List.mem_cons.1 he with rfl | he
      · exact hrow
      · exact hR e he
    refine RowOK.turned (hall e ?_) hmap hgr
    rcases List.mem_append.1 he with he | he
    · exact List.mem_cons_of_mem _ (List.mem_filter.1 he).1
    · rcases List.mem_cons.1 he with rfl | he
      · exact List.mem_cons_self ..
      · exact List.mem_cons_of_mem _ (List.mem_filter.1 he).1
end

section
/-- A range over a row's map, its iterator in block i: done: what has come so far. -/
def RangesR (w : World) (b i : Nat) (r done : Rw) : Prop :=
  ∃ m d : List ME, m.map pl = r ∧ d.map pl = done ∧ RangesI Tryz.prog 3 w b i (m.map mv) (d.map mv) ∧ (∀ e ∈ d, e ∈ m) ∧ ∀ e ∈ m, RowOK w e.2
variable {w w' : World} {b i : Nat} {r done : Rw}
theorem RangesR.row (h : RangesR w b i r done) : MRow w b r := by
  obtain ⟨m, d, h1, h2, h3, h4, h5⟩ := h
  exact ⟨m, h1, h3.map, h5⟩
theorem RangesR.keep (h : RangesR w b i r done) (hb : Below w.heap.size w w') : RangesR w' b i r done := by
  obtain ⟨m, d, h1, h2, h3, h4, h5⟩ := h
  exact ⟨m, d, h1, h2, h3.keep hb, h4, fun e he => (h5 e he).keep hb⟩
theorem RangesR.sub (h : RangesR w b i r done) : ∀ p ∈ done, p ∈ r := by
  obtain ⟨m, d, rfl, rfl, _, h4, _⟩ := h
  intro p hp
  obtain ⟨e, he, rfl⟩ := List.mem_map.1 hp
  exact List.mem_map.2 ⟨e, h4 e he, rfl⟩
theorem RangesR.keysNodup (h : RangesR w b i r done) : (done.map (·.1)).Nodup := by
  obtain ⟨m, d, rfl, rfl, h3, h4, _⟩ := h
  have hI := h3.map.inc kInt
  obtain ⟨left, cnt, _, _, _, hnd⟩ := h3
  rw [List.map_map]
  have hnd' := List.pairwise_map.1 hnd
  refine List.pairwise_map.2 (List.Pairwise.imp_of_mem (fun {p q} hp hq hpq e => hpq ?_) hnd')
  exact inc_key hI (List.mem_map.2 ⟨p, h4 p hp, rfl⟩) (List.mem_map.2 ⟨q, h4 q hq, rfl⟩) e
end

section
variable (w : World) {ops : Array Oper} {rest : List Oper} {o : Oper} {a : Act} {Q : Exit → Act → World → Prop}
/-- 'range r'. -/
theorem wpList_rangeR (hg : o.guard = none) (m : Operand) (hop : o.op = Op.range 114 m) (b : Nat) (r : Rw) (hm : a.eval m = .map (some b)) (hown : MRow w b r)
    (hK : ∀ w', RangesR w' b w.heap.size r [] → Below w.heap.size w w' → w'.heap.size = w.heap.size + 1 → wpList Tryz.prog ops Q rest (a.put o.dst (.pointer (some ⟨w.heap.size, 0, none⟩))) w') :
    wpList Tryz.prog ops Q (o :: rest) a w := by
  obtain ⟨me, rfl, hM, hR⟩ := hown
  refine wpList_rangeI w hg m _ hop 22 kInt Tryz.underlying114 b _ hm hM fun w' h1 h2 h3 => ?_
  have hb : Below w.heap.size w w' := ⟨h2.os, h2.tape, h2.output, h2.size, fun k hk => h2.block k hk (by simp)⟩
  exact hK w' ⟨me, [], rfl, rfl, h1, (fun e he => by cases he), fun e he => (hR e he).keep hb⟩ hb h3
/-- The step. -/
theorem wpList_nextR (hg : o.guard = none) (it : Operand) (hop : o.op = Op.next it false) (b i : Nat) (r done : Rw) (hit : a.eval it = .pointer (some ⟨i, 0, none⟩)) (h : RangesR w b i r done)
    (hDone : done.Perm r → wpList Tryz.prog ops Q rest (a.put o.dst (.tuple #[.bool false])) w)
    (hMore : ∀ (y : Int) (A : Option Addr) (c : Nat) (l : List Int) (w' : World), (y, l) ∈ r → y ∉ done.map (·.1) → RowOK w' (A, c, l) → RangesR w' b i r (done ++ [(y, l)]) → w'.rangeLeft b i < w.rangeLeft b i → w.grownBy w' (some i) → NC w i → w'.heap.size = w.heap.size →
      (Instr.entry (.pointer (some ⟨i, 0, none⟩))).run Tryz.prog w' = .ok (.tuple #[.int .i64 y, .slice A l.length c]) w' → wpList Tryz.prog ops Q rest (a.put o.dst (.tuple #[.bool true, .int .i64 y, .slice A l.length c])) w') :
    wpList Tryz.prog ops Q (o :: rest) a w := by
  have hkn := h.keysNodup
  obtain ⟨m, d, rfl, rfl, h3, h4, h5⟩ := h
  have hI := h3.map.inc kInt
  have hnc : NC w i := by
    obtain ⟨left, cnt, hr, _⟩ := h3
    obtain ⟨es, clock, since, seen, c0, _, _, _, _, hi, _⟩ := hr
    exact ⟨_, hi, rfl⟩
  have hinj : ∀ e ∈ m, ∀ e' ∈ m, e.1 = e'.1 → e = e' := by
    have hI' : m.Pairwise fun e e' => e.1 < e'.1 := by
      unfold IncK at hI
      rw [List.pairwise_map] at hI
      exact hI
    clear h3 h4 h5 hDone hMore hkn hI
    induction m with
    | nil => intro e he; cases he
    | cons x m ih =>
      obtain ⟨g1, g2⟩ := List.pairwise_cons.1 hI'
      intro e he e' he' hee
      rcases List.mem_cons.1 he with h1 | h1
      · rcases List.mem_cons.1 he' with h2 | h2
        · rw [h1, h2]
        · have := g1 e' h2
          rw [h1] at hee
          omega
      · rcases List.mem_cons.1 he' with h2 | h2
        · have := g1 e h1
          rw [h2] at hee
          omega
        · exact ih g2 e h1 e' h2 hee
  refine wpList_nextI w hg it hop kInt b i (m.map mv) (d.map mv) hit h3 (fun hp => hDone ?_) (fun p w' hp hpd hrg hlt hgr hsz hen => ?_)
  · refine List.Perm.map pl ?_
    have hndm : m.Nodup := by
      unfold IncK at hI
      rw [List.pairwise_map] at hI
      exact hI.imp fun {e e'} h1 h2 => by subst h2; omega
    have hndd : d.Nodup := by
      rw [List.map_map] at hkn
      exact (List.pairwise_map.1 hkn).imp fun {e e'} h1 h2 => h1 (by subst h2; rfl)
    refine (List.perm_ext_iff_of_nodup hndd hndm).2 fun e => ⟨h4 e, fun he => ?_⟩
    have h6 := hp.mem_iff.2 (List.mem_map.2 ⟨e, he, rfl⟩)
    obtain ⟨e', he', h7⟩ := List.mem_map.1 h6
    have h8 : (mv e').1 = (mv e).1 := by rw [h7]
    have := hinj e' (h4 e' he') e he h8
    rw [← this]
    exact he'
  · obtain ⟨e, he, rfl⟩ := List.mem_map.1 hp
    have hnot : e ∉ d := fun h => hpd (List.mem_map.2 ⟨e, h, rfl⟩)
    refine hMore e.1 e.2.1 e.2.2.1 e.2.2.2 w' (List.mem_map.2 ⟨e, he, rfl⟩) (fun h => ?_) ((h5 e he).turned hnc hgr) ⟨m, d ++ [e], rfl, by rw [List.map_append]; rfl, by rw [List.map_append]; exact hrg, fun x hx => ?_, fun x hx => (h5 x hx).turned hnc hgr⟩ hlt hgr hnc hsz hen
    · obtain ⟨q, hq, hqe⟩ := List.mem_map.1 h
      obtain ⟨e', he', rfl⟩ := List.mem_map.1 hq
      have h8 : (pl e').1 = e.1 := hqe
      have := hinj e' (h4 e' he') e he h8
      exact hnot (this ▸ he')
    · rcases List.mem_append.1 hx with h6 | h6
      · exact h4 x h6
      · rw [List.mem_singleton.1 h6]
        exact he
end

section
/-- An odag in memory: a struct of one slice of maps. -/
def OdC (w : World) (p : Nat) (od : List Rw) (R : Option Addr) (n c : Nat) (bs : List Nat) : Prop :=
  Blk w p 117 #[.slice R n c] ∧ od.length = n ∧ bs.length = n ∧ n ≤ c ∧ Sl w 1 R n (bs.map fun b => .map (some b)) ∧ bs.Nodup ∧ ∀ (i : Nat) (b : Nat) (r : Rw), bs[i]? = some b → od[i]? = some r → MRow w b r
def OdM (w : World) (p : Nat) (od : List Rw) : Prop := ∃ (R : Option Addr) (n c : Nat) (bs : List Nat), OdC w p od R n c bs
/-- .. whose maps lie in blocks of B on. -/
def OdN (B : Nat) (w : World) (p : Nat) (od : List Rw) : Prop := ∃ (R : Option Addr) (n c : Nat) (bs : List Nat), OdC w p od R n c bs ∧ ∀ b ∈ bs, B ≤ b
variable {w w' : World} {p : Nat} {od : List Rw}
theorem OdN.odM {B : Nat} (h : OdN B w p od) : OdM w p od := by
  obtain ⟨R, n, c, bs, h1, _⟩ := h
  exact ⟨R, n, c, bs, h1⟩
theorem OdM.keep (h : OdM w p od) (hb : Below w.heap.size w w') : OdM w' p od := by
  obtain ⟨R, n, c, bs, h1, h2, h3, h4, h5, h6, h7⟩ := h
  exact ⟨R, n, c, bs, h1.keep hb, h2, h3, h4, h5.keep hb, h6, fun i b r hb' hr => (h7 i b r hb' hr).keep hb⟩
theorem OdM.lt (h : OdM w p od) : p < w.heap.size := by
  obtain ⟨R, n, c, bs, h1, _⟩ := h
  exact h1.lt
end
end Go.Proofs.YtmonepclhbappaaGreatDoor
/-
  slices.Clip, Clone, Grow, Concat at ints; append onto a slice that is cut to its length.
-/
namespace Go.Proofs.YtmonepclhbappaaGreatDoor
open Go.RowKit Go.Shelf
set_option maxRecDepth 100000
set_option linter.unusedVariables false

section
variable {P : Program} {ops : Array Oper} {o : Oper} {a : Act} {Q : Exit → Act → World → Prop}
/-- append(s[:n:n], x...): a new row. -/
theorem run_full {t ty e : TypeId} {z : Value} {size bytes : Nat} (E : Elem P t e z size bytes) {W : World}
    {A : Option Addr} {n : Nat} {xs : List Value} (hxs : Sl W size A n xs) (hA : A = none → n = 0)
    {b off m c : Nat} {ys : List Value} (hy : Sl W size (some ⟨b, off, none⟩) m ys) (hm : 0 < m) (h1 : ∀ u ∈ ys, u.oneCell' = true)
    (hlim : (n + m) * bytes ≤ lim) (hlim' : n + m ≤ lim) :
    ∃ v' w', (Builtin.append_ #[t, t] ty #[.slice A n n, .slice (some ⟨b, off, none⟩) m c]).run P W = .ok v' w' ∧ w'.ownsRow W.heap.size e size v' (n + m) (xs ++ ys) ∧ Below W.heap.size W w' := by
  obtain ⟨i, hi, hz, hsize, hby⟩ := info_parts E.hi
  unfold lim at hlim hlim'
  have hadd : ∀ (b off j : Nat), (⟨b, off, none⟩ : Addr).add j = ⟨b, off + j, none⟩ := fun b off j => by unfold Addr.add; split <;> simp_all
  obtain ⟨b1, off1, h2, hc⟩ := hy.2 hm
  injection h2 with h2
  injection h2 with h2 h3 _
  subst h2 h3
  have hc' : ∀ j u, ys[j]? = some u → W.cell? ((⟨b, off, none⟩ : Addr).add j) = some u := fun j u hu => by rw [hadd]; exact hc j u hu
  rcases A with _ | A
  · obtain rfl : n = 0 := hA rfl
    obtain rfl : xs = [] := List.eq_nil_of_length_eq_zero (by simpa using hxs.1)
    obtain ⟨v', w', hr, h2, h3, _⟩ := run_append_own (P := P) W W.heap.size t ty e i z size bytes E.ht hi hz hsize hby E.hzs E.hsz (.slice none 0 0) 0 [] (World.ownsRow_nil W _ e size) ⟨b, off, none⟩ m c ys hy.1 hc' h1 (by unfold maxLen; omega) hlim (Nat.le_refl _)
    exact ⟨v', w', hr, h2, h3.os, h3.tape, h3.output, h3.size, fun k hk => h3.block k hk (fun e => by cases e)⟩
  · obtain ⟨v', w', hr, h2, h3⟩ := run_append_arg_grows (P := P) W t ty e i z size bytes E.ht hi hz hsize hby E.hzs E.hsz A n n xs hxs.1 (fun j u hu => by
      have hn : 0 < n := by
        have := (List.getElem?_eq_some_iff.1 hu).1
        rw [hxs.1] at this
        exact Nat.pos_of_ne_zero fun h => by rw [h, Nat.zero_mul] at this; omega
      obtain ⟨b2, off2, h2, h3⟩ := hxs.2 hn
      cases h2
      rw [hadd]; exact h3 j u hu) ⟨b, off, none⟩ m c ys hy.1 hc' (by omega) (by unfold maxLen; omega) hlim
    exact ⟨v', w', hr, h2, h3.os, h3.tape, h3.output, h3.size, fun k hk => h3.block k hk (fun e => by cases e)⟩
/-- The same as a step of a region that draws its order. -/
theorem step_full {t e : TypeId} {z : Value} {size bytes : Nat} (E : Elem P t e z size bytes) {W : World} {K : Act → World → Prop} {L : Prop} (s x : Operand)
    (hgd : o.guard = none) (ho : o.op = .call { callee := .builtin .append, args := #[s, x], argTypes := #[t, t] })
    {A : Option Addr} {n : Nat} {xs : List Value} (hxs : Sl W size A n xs) (hA : A = none → n = 0)
    {b off m c : Nat} {ys : List Value} (hy : Sl W size (some ⟨b, off, none⟩) m ys) (hm : 0 < m)
    (hs : a.eval s = .slice A n n) (hx : a.eval x = .slice (some ⟨b, off, none⟩) m c) (h1 : ∀ u ∈ ys, u.oneCell' = true)
    (hlim : (n + m) * bytes ≤ lim) (hlim' : n + m ≤ lim)
    (h : ∀ v' w', w'.ownsRow W.heap.size e size v' (n + m) (xs ++ ys) → Below W.heap.size W w' → K (a.put o.dst v') w') :
    if Region.wanted o (yielded ops a.tmps) = true then Oper.wp P o a W K Q else L := by
  have hw : Region.wanted o (yielded ops a.tmps) = true := by simp [Region.wanted, hgd]
  rw [if_pos hw]
  obtain ⟨v', w', hr, h2, h3⟩ := run_full (P := P) (ty := o.type) (c := c) E hxs hA hy hm h1 hlim hlim'
  unfold Oper.wp execOp
  simp only [ho, resolve, invoke, builtin, Sem.run_bind, Sem.run_pure, Result.andThen_ok, List.map_toArray, List.map_cons, List.map_nil, hs, hx, hr]
  exact h v' w' h2 h3
end

theorem Clip_any (A : Option Addr) (n c : Nat) (w : World) (hc : n ≤ c) :
    Calls Tryz.prog 109 #[.slice A n c] w fun e w' => e = .returned (.slice A n n) ∧ w = w' := by
  go_enter Tryz.func109, Tryz.ntmps109
  rcases A with _ | A
  · go_wp2_with fail
    go_ret
    exact ⟨rfl, rfl⟩
  · obtain ⟨b, off, sp⟩ := A
    go_wp2_with fail
    go_ret
    exact ⟨rfl, rfl⟩

set_option maxHeartbeats 2000000 in
theorem CloneI_own (l : List Int) (A : Option Addr) (n c : Nat) (w : World) (hl : l.length = n) (hn : n ≤ 1099511627776) (hs : Sl w 1 A n (l.map (Value.int .i64))) :
    Calls Tryz.prog 81 #[.slice A n c] w fun e w' => ∃ v, e = .returned v ∧ w'.ownsRow w.heap.size 3 1 v n (l.map (Value.int .i64)) ∧ Below w.heap.size w w' := by
  have nn := fun (w : World) (a : Option Addr) (n c : Nat) => Lib.run_eql_slice_nil (P := Tryz.prog) w 22 3 a n c 0 0 Tryz.underlying22
  have HS := Lib.hid hs
  go_enter Tryz.func81, Tryz.ntmps81
  rcases A with _ | A
  · have hn0 : n = 0 := by
      rcases Nat.eq_zero_or_pos n with h | h
      · exact h
      · obtain ⟨_, _, h, _⟩ := hs.2 h; cases h
    subst hn0
    clear hs
    go_wp2_with fail
    go_ret
    obtain rfl := List.eq_nil_of_length_eq_zero hl
    exact ⟨_, rfl, World.ownsRow_nil _ _ _ _, Below.refl _ _⟩
  · have hbA := bel_al (Below.refl w.heap.size w) (.cells #[] 3)
    have HOE := Lib.hid (World.ownsRow_made (e := 3) (size := 1) w #[] 0 (Nat.le_refl _) (Nat.zero_le _) rfl)
    have HBA := Lib.hid hbA
    have SPA := Lib.hid (HS.out.keep hbA)
    clear hs hbA
    go_wp2_with (at_builtin; refine wpList_cat_at elemInt _ _ rfl rfl HOE.out HBA.out.size SPA.out rfl rfl (one_i64 _) (by unfold lim; omega) (by unfold lim; omega) ?_; intro v8 w8 hown8 hg8; have HO8 := Lib.hid hown8; have HB8 := Lib.hid (HBA.out.trans (hg8.belowOwn HBA.out.size HOE.out)); clear hown8 hg8 HOE HBA SPA)
    go_ret
    have hown := HO8.out
    rw [List.nil_append, Nat.zero_add] at hown
    exact ⟨_, rfl, hown, HB8.out⟩
theorem CloneI_any (l : List Int) (A : Option Addr) (n c : Nat) (w : World) (hl : l.length = n) (hn : n ≤ 1099511627776) (hs : Sl w 1 A n (l.map (Value.int .i64))) :
    Calls Tryz.prog 81 #[.slice A n c] w fun e w' => ∃ C k, e = .returned (.slice C n k) ∧ Sl w' 1 C n (l.map (Value.int .i64)) ∧ (n ≤ k ∧ k ≤ 9223372036854775807) ∧ Below w.heap.size w w' :=
  (CloneI_own l A n c w hl hn hs).mono fun e w' ⟨v, he, hown, hb⟩ => by
    obtain ⟨C, k, rfl, hsl⟩ := Sl.own hown
    exact ⟨C, k, he, hsl, own_cap hown, hb⟩

def grow_ren : Go.Shelf.Ren := ⟨fun | 4 => 144 | n => n, fun | 22 => 22 | 25 => 3 | 3 => 3 | 4 => 4 | 9 => 9 | 20 => 20 | 0 => 0 | n => n, fun | n => n⟩
theorem grow_lays : Go.Proofs.Lays8.n4 Tryz.prog grow_ren := {
  mixed := by kernel_rfl
  f4 := ⟨Tryz.f144.name, by kernel_rfl, Tryz.func144.trans (congrArg some (by kernel_rfl))⟩
  t0 := Tryz.underlying0
  a0 := Tryz.isAgg0
  z0 := Tryz.sizeOf0
  v0 := Tryz.zeroValue0
  t3 := Tryz.underlying3
  a3 := Tryz.isAgg3
  z3 := Tryz.sizeOf3
  v3 := Tryz.zeroValue3
  t4 := Tryz.underlying4
  a4 := Tryz.isAgg4
  z4 := Tryz.sizeOf4
  v4 := Tryz.zeroValue4
  t9 := Tryz.underlying9
  a9 := Tryz.isAgg9
  z9 := Tryz.sizeOf9
  v9 := Tryz.zeroValue9
  t20 := Tryz.underlying20
  a20 := Tryz.isAgg20
  z20 := Tryz.sizeOf20
  v20 := Tryz.zeroValue20
  t22 := Tryz.underlying22
  a22 := Tryz.isAgg22
  z22 := Tryz.sizeOf22
  v22 := Tryz.zeroValue22 }

theorem GrowNil_any (n : Nat) (w : World) (hn : n ≤ 1000000) :
    Calls Tryz.prog 144 #[.slice none 0 0, .int .i64 n] w fun e w' => ∃ v, e = .returned v ∧ w'.ownsRow w.heap.size 3 1 v 0 [] ∧ Below w.heap.size w w' := by
  rcases Nat.eq_zero_or_pos n with h | h
  · subst h
    refine (Go.Proofs.Any8.slices_Grow_room grow_lays none 0 0 0 w (Nat.le_refl _) (by omega) (by omega) (by omega)).mono ?_
    rintro e w' ⟨rfl, rfl⟩
    exact ⟨_, rfl, World.ownsRow_nil _ _ _ _, Below.refl _ _⟩
  · obtain ⟨i, hi, hz, hsize, hby⟩ := info_parts elemInt.hi
    refine (Go.Proofs.Any8.slices_Grow_grow grow_lays i (.int .i64 0) hi hz (by rw [hsize]; omega) none 0 0 n [] w (Nat.le_refl _) (by omega) (by rw [hby]; omega) (by omega) (by simp) (fun _ => rfl) (fun _ h => by cases h)).mono ?_
    rintro e w' ⟨rfl, rfl⟩
    have h1 := grownCap_ge w (0 + n) 0 (grow_ren.t 25)
    have h2 := grownCap_le_maxLen w (0 + n) 0 (grow_ren.t 25) (by unfold maxLen; omega)
    generalize grownCap w (0 + n) 0 (grow_ren.t 25) = G at *
    refine ⟨_, rfl, World.ownsRow_made (e := 3) (size := 1) w.drew _ _ (Nat.le_refl _) h2 ?_, bel_al (show Below w.heap.size w w.drew from drew_bel ⟨1, rfl⟩) _⟩
    simp only [List.toArray, Array.size_append, size_zeroCells]
    have h3 : (Value.int .i64 0).cells.size = 1 := rfl
    rw [h3]
    simp
    omega

/-- All that some lists hold. -/
def flat (L : List (Option Addr × Nat × List Int)) : List Int := L.flatMap (·.2.2)
theorem flat_snoc {L : List (Option Addr × Nat × List Int)} {k : Nat} {D : Option Addr} {d : Nat} {l : List Int} (h : L[k]? = some (D, d, l)) : flat (L.take (k + 1)) = flat (L.take k) ++ l := by
  obtain ⟨hk, he⟩ := List.getElem?_eq_some_iff.1 h
  unfold flat
  rw [List.take_succ_eq_append_getElem hk, List.flatMap_append, he]; simp
theorem flat_part (L : List (Option Addr × Nat × List Int)) (k : Nat) : (flat (L.take k)).length ≤ (flat L).length := by
  have h : flat L = flat (L.take k) ++ flat (L.drop k) := by unfold flat; rw [← List.flatMap_append, List.take_append_drop]
  rw [h, List.length_append]; omega

set_option maxHeartbeats 4000000 in
theorem Concat_any (L : List (Option Addr × Nat × List Int)) (A : Option Addr) (n c : Nat) (w : World) (hn : L.length = n) (hn1 : n ≤ 1000000) (hs : Sl w 1 A n (L.map rv)) (hr : AllRows w L) (ht : (flat L).length ≤ 1000000) :
    Calls Tryz.prog 125 #[.slice A n c] w fun e w' => ∃ v, e = .returned v ∧ w'.ownsRow w.heap.size 3 1 v (flat L).length ((flat L).map (Value.int .i64)) ∧ Below w.heap.size w w' := by
  have HS := Lib.hid hs
  have HR := Lib.hid hr
  have HN := Lib.hid hn
  have HT := Lib.hid ht
  clear hs hr ht
  go_enter Tryz.func125, Tryz.ntmps125
  go_wp2_with fail
  go_loop [3, 11] (fun sv iv => ∃ k : Nat, k ≤ n ∧ iv = .int .i64 (k : Int) ∧ sv = .int .i64 ((flat (L.take k)).length : Int)) (fun _ iv => n - (intOf iv).toNat)
  case atStart => exact ⟨0, Nat.zero_le _, rfl, rfl⟩
  case round =>
    obtain ⟨k, hk, rfl, rfl⟩ := hrel
    by_cases hkn : k < n
    · have hkn' : (k : Int) < (n : Int) := by omega
      obtain ⟨D, d, l, ht, _⟩ := its_row (its := L) (k := k) (by omega)
      have HF := Lib.hid (flat_snoc ht)
      have hp := flat_part L (k + 1)
      rw [HF.out, List.length_append] at hp
      have hp' := HT.out
      obtain ⟨b, off, u, rfl, e1, c1⟩ := HS.out.one hkn
      rw [List.getElem?_map, ht] at e1
      obtain rfl := Option.some.inj e1
      simp only [rv] at c1
      clear ht e1
      obtain ⟨z, hz⟩ : ∃ z, z = (flat (L.take k)).length := ⟨_, rfl⟩
      rw [← hz] at hp ⊢
      have HZ := Lib.hid hz
      clear hz
      obtain ⟨y, hy⟩ : ∃ y, y = l.length := ⟨_, rfl⟩
      rw [← hy] at hp c1
      have HY := Lib.hid hy
      clear hy
      have hw : wrap64 ((z : Int) + (y : Int)) = ((z + y : Nat) : Int) := by unfold wrap64; omega
      have hw2 : IntKind.i64.wrap ((z : Int) + (y : Int)) = ((z + y : Nat) : Int) := by rw [IntKind.wrap_i64]; omega
      have hneg : ¬ ((z + y : Nat) : Int) < 0 := by omega
      go_wp2_with fail
      go_round
      case rel => exact ⟨k + 1, by omega, by go_num, by rw [HF.out, List.length_append, ← HZ.out, ← HY.out]; go_num⟩
      case measure => simp [intOf]; omega
    · obtain rfl : k = n := by omega
      have hkn' : ¬ (k : Int) < (k : Int) := by omega
      rw [List.take_of_length_le (by omega)]
      have HG := Lib.hid (GrowNil_any (flat L).length w HT.out)
      go_wp2_with fail
      refine HG.out.mono ?_
      rintro e w1 ⟨v, rfl, hown, hb1⟩
      have HO := Lib.hid hown
      have HB := Lib.hid hb1
      clear hown hb1
      go_wp2_with fail
      go_loopw [6, 27] (fun nv iv wr => ∃ j : Nat, j ≤ k ∧ iv = .int .i64 (j : Int) ∧ wr.ownsRow w.heap.size 3 1 nv (flat (L.take j)).length ((flat (L.take j)).map (Value.int .i64)) ∧ Below w.heap.size w wr) (fun _ iv _ => k - (intOf iv).toNat)
      case atStart => exact ⟨0, Nat.zero_le _, rfl, HO.out, HB.out⟩
      case round =>
        obtain ⟨j, hj, rfl, hown, hb⟩ := hrel
        clear HO HB
        have HO := Lib.hid hown
        have HB := Lib.hid hb
        clear hown hb
        by_cases hjk : j < k
        · have hjk' : (j : Int) < (k : Int) := by omega
          obtain ⟨D, d, l, ht, _⟩ := its_row (its := L) (k := j) (by omega)
          have HF := Lib.hid (flat_snoc ht)
          have HRow := Lib.hid (show Sl wr 1 D l.length (l.map (Value.int .i64)) from ((HR.out _ (List.mem_of_getElem? ht)).keep HB.out).1)
          have hp := flat_part L (j + 1)
          rw [HF.out, List.length_append] at hp
          have hp' := HT.out
          obtain ⟨b, off, u, rfl, e1, c1⟩ := (HS.out.keep HB.out).one hjk
          rw [List.getElem?_map, ht] at e1
          obtain rfl := Option.some.inj e1
          simp only [rv] at c1
          clear ht e1
          go_wp2_with (at_builtin; refine wpList_cat_at elemInt _ _ rfl rfl HO.out HB.out.size HRow.out rfl rfl (one_i64 l) (by unfold lim; omega) (by unfold lim; omega) ?_; intro v8 w8 hown8 hg8; have HO8 := Lib.hid hown8; have HB8 := Lib.hid (HB.out.trans (hg8.belowOwn HB.out.size HO.out)); clear hown8 hg8)
          go_roundw
          case rel => exact ⟨j + 1, by omega, by go_num, by rw [HF.out, List.length_append, List.map_append]; exact HO8.out, HB8.out⟩
          case measure => simp [intOf]; omega
        · obtain rfl : j = k := by omega
          have hjk' : ¬ (j : Int) < (j : Int) := by omega
          rw [List.take_of_length_le (by omega)] at HO
          go_wp2_with fail
          go_ret
          exact ⟨_, rfl, HO.out, HB.out⟩
end Go.Proofs.YtmonepclhbappaaGreatDoor
/-
  All choices of k of a list, plainly.
-/
namespace Go.Proofs.YtmonepclhbappaaGreatDoor
set_option linter.unusedVariables false

def combos : Nat → List Int → List (List Int)
  | 0, _ => [[]]
  | _ + 1, [] => []
  | k + 1, x :: S => (combos k S).map (x :: ·) ++ combos (k + 1) S
theorem combos_zero (S : List Int) : combos 0 S = [[]] := by cases S <;> rfl
theorem combos_short : ∀ (S : List Int) (k : Nat), S.length < k → combos k S = []
  | [], k + 1, _ => rfl
  | x :: S, k + 1, h => by
    rw [combos, combos_short S (k + 1) (by simp at h; omega), List.append_nil]
    rw [combos_short S k (by simp at h; omega)]; rfl
  | _, 0, h => by omega
theorem combos_at {S : List Int} {i : Nat} {x : Int} (k : Nat) (h : S[i]? = some x) : combos (k + 1) (S.drop i) = (combos k (S.drop (i + 1))).map (x :: ·) ++ combos (k + 1) (S.drop (i + 1)) := by
  obtain ⟨hi, he⟩ := List.getElem?_eq_some_iff.1 h
  rw [List.drop_eq_getElem_cons hi, he, combos]
theorem combos_el : ∀ (k : Nat) (S : List Int), ∀ q ∈ combos k S, q.length = k
  | 0, S, q, h => by rw [combos_zero] at h; obtain rfl : q = [] := by simpa using h
                     rfl
  | k + 1, [], q, h => by simp [combos] at h
  | k + 1, x :: S, q, h => by
    rw [combos] at h
    rcases List.mem_append.1 h with h | h
    · obtain ⟨r, hr, rfl⟩ := List.mem_map.1 h
      rw [List.length_cons, combos_el k S r hr]
    · exact combos_el (k + 1) S q h
/-- The choices of k; none where there are none. -/
def choices (S : List Int) (k : Int) : List (List Int) := if 0 ≤ k ∧ k ≤ S.length then combos k.toNat S else []
end Go.Proofs.YtmonepclhbappaaGreatDoor
