/-
  Part 5 of the proof of ConfNumbers: OdM, ProgP, PgA.
-/
import Derived.RangeFuncFrom
import Derived.Test.YtddedghnnkcnhaaDoorConfNumbersM4
import Derived.Test.YtddedghnnkcnhaaDoorConfNumbersM3
import Derived.Lib.SlicesS
import Derived.BigQuiet
/-
  An odag in memory: rows that are maps from ints to slices of ints; words for it.
-/
namespace Go.Proofs.YtddedghnnkcnhaaDoor
open Go.RowKit Go.Maps
set_option maxRecDepth 100000
set_option linter.unusedVariables false
set_option linter.unusedSectionVars false

/-- A row plainly: its numbers, rising, each with its links. -/
abbrev Rw := List (Int × List Int)
def lkR (r : Rw) (a : Int) : List Int := ((r.find? fun p => decide (p.1 = a)).map (·.2)).getD []
def putR (r : Rw) (a : Int) (l : List Int) : Rw := (r.filter fun p => decide (p.1 < a)) ++ (a, l) :: r.filter fun p => decide (a < p.1)
theorem putR_len (r : Rw) (a : Int) (l : List Int) : (putR r a l).length ≤ r.length + 1 := by
  unfold putR
  have h : ∀ r : Rw, (r.filter fun p => decide (p.1 < a)).length + (r.filter fun p => decide (a < p.1)).length ≤ r.length := by
    intro r
    induction r with
    | nil => simp
    | cons p r ih =>
      rw [List.filter_cons, List.filter_cons]
      by_cases h1 : p.1 < a
      · have h2 : ¬ a < p.1 := by omega
        simp [h1, h2]
        omega
      · by_cases h2 : a < p.1
        · simp [h1, h2]
          omega
        · simp [h1, h2]
          omega
  have := h r
  simp
  omega

/-- An entry in memory: its number, where its links lie, the links. -/
abbrev ME := Int × Option Addr × Nat × List Int
def mv (e : ME) : Int × Value := (e.1, rv e.2)
def pl (e : ME) : Int × List Int := (e.1, e.2.2.2)
abbrev MapR (w : World) (b : Nat) (es : List (Int × Value)) : Prop := MapI Tryd.prog 3 w b es
/-- Block b is a map that reads as this row. -/
def MRow (w : World) (b : Nat) (r : Rw) : Prop := ∃ m : List ME, m.map pl = r ∧ MapR w b (m.map mv) ∧ ∀ e ∈ m, RowOK w e.2

theorem kInt : Tryd.prog.underlying 3 = some (.int .i64) := Tryd.underlying3

/-- Block b holds no cells: a map, an iterator. -/
def NC (w : World) (b : Nat) : Prop := ∃ o, w.heap[b]? = some o ∧ o.isCells = false
section
variable {w w' : World} {b b' : Nat} {r : Rw}
theorem NC.of_map {es : Array MapEntry} {cl : Nat} (h : w.heap[b]? = some (.map es cl)) : NC w b := ⟨_, h, rfl⟩
theorem NC.cell {a : Addr} {v : Value} (h : NC w b) (hc : w.cell? a = some v) : a.block ≠ b := fun e => by
  obtain ⟨o, h1, h2⟩ := h
  unfold World.cell? at hc
  rw [e, h1] at hc
  cases o <;> first | (cases hc; done) | cases h2
theorem NC.keep (h : NC w b) (hb : Below w.heap.size w w') : NC w' b := by
  obtain ⟨o, h1, h2⟩ := h
  exact ⟨o, (hb.block b (Array.getElem?_eq_some_iff.1 h1).1).trans h1, h2⟩
theorem bel_turn {B : Nat} {w0 : World} (h : Below B w0 w) (hg : w.grownBy w' (some b)) (hb : B ≤ b) (hB : B ≤ w.heap.size) : Below B w0 w' :=
  h.trans ⟨hg.os, hg.tape, hg.output, hg.size, fun k hk => hg.block k (by omega) (fun e => by cases e; omega)⟩
/-- A row of ints outlives a change of a block that holds no cells. -/
theorem Sl.turned {s n : Nat} {A : Option Addr} {xs : List Value} (h : Sl w s A n xs) (hm : NC w b) (hg : w.grownBy w' (some b)) : Sl w' s A n xs :=
  ⟨h.1, fun hn => by
    obtain ⟨b0, off, hA, hc⟩ := h.2 hn
    refine ⟨b0, off, hA, fun j v hj => ?_⟩
    have h1 := hc j v hj
    have hne : some b0 ≠ some b := fun e => hm.cell h1 (by cases e; rfl)
    exact (World.cell?_of_block (w := w) (a := ⟨b0, off + j, none⟩) (hg.block b0 (World.block_lt_of_cell? w _ h1) hne)).trans h1⟩
theorem RowOK.turned {t : Option Addr × Nat × List Int} (h : RowOK w t) (hm : NC w b) (hg : w.grownBy w' (some b)) : RowOK w' t := ⟨h.1.turned hm hg, h.2⟩
theorem Blk.turned {g : Nat} {t : TypeId} {cs : Array Value} (h : Blk w g t cs) (hm : NC w b) (hg : w.grownBy w' (some b)) : Blk w' g t cs := h.grown hg (fun e => by
  cases e
  obtain ⟨o, h1, h2⟩ := hm
  unfold Blk at h
  rw [h1] at h
  cases h
  cases h2)
theorem own_turned {B size n : Nat} {e : TypeId} {v : Value} {xs : List Value} (h : w.ownsRow B e size v n xs) (hm : NC w b) (hg : w.grownBy w' (some b)) : w'.ownsRow B e size v n xs :=
  own_block h fun g hgv => hg.block g (h.lt g hgv).2 (fun e1 => by
    cases e1
    obtain ⟨_, h2⟩ := h
    obtain ⟨o, h3, h4⟩ := hm
    rcases h2 with ⟨rfl, _⟩ | ⟨g', cap, cur, rfl, _, h5, _⟩
    · cases hgv
    · cases hgv
      rw [h3] at h5
      cases h5
      cases h4)

theorem MRow.keep (h : MRow w b r) (hb : Below w.heap.size w w') : MRow w' b r := by
  obtain ⟨m, h1, h2, h3⟩ := h
  exact ⟨m, h1, MapI.keep h2 hb, fun e he => (h3 e he).keep hb⟩
theorem MRow.lt (h : MRow w b r) : b < w.heap.size := by
  obtain ⟨m, h1, h2, h3⟩ := h
  exact MapI.lt h2
theorem MRow.isMap (h : MRow w b r) : NC w b := by
  obtain ⟨m, h1, h2, h3⟩ := h
  obtain ⟨es, cl, h4⟩ := MapI.isMap h2
  exact NC.of_map h4
theorem MRow.other (h : MRow w b r) (hm : NC w b') (hg : w.grownBy w' (some b')) (hne : b ≠ b') : MRow w' b r := by
  obtain ⟨m, h1, h2, h3⟩ := h
  exact ⟨m, h1, MapI.kept h2 hg (fun e => hne (by cases e; rfl)), fun e he => (h3 e he).turned hm hg⟩
/-- A change of a block of cells, behind a row's own memory. -/
theorem MRow.incr (h : MRow w b r) : r.Pairwise fun p q => p.1 < q.1 := by
  obtain ⟨m, rfl, h2, _⟩ := h
  have := MapI.inc kInt h2
  unfold IncK at this
  rw [List.pairwise_map] at this ⊢
  exact this
theorem MRow.made (w : World) : MRow (w.alloc (.map #[] 0)) w.heap.size [] := ⟨[], rfl, MapI.made _ _ w, fun e he => by cases he⟩

theorem find_pl (y : Int) : ∀ m : List ME, ((m.map pl).find? fun p => decide (p.1 = y)) = (m.find? fun e => decide (e.1 = y)).map pl
  | [] => rfl
  | e :: m => by
    rw [List.map_cons, List.find?_cons, List.find?_cons, find_pl y m]
    show (match decide (e.1 = y) with | true => some (pl e) | false => _) = _
    cases decide (e.1 = y) <;> rfl
theorem find_mv (y : Int) : ∀ m : List ME, ((m.map mv).find? fun p => decide (p.1 = y)) = (m.find? fun e => decide (e.1 = y)).map mv
  | [] => rfl
  | e :: m => by
    rw [List.map_cons, List.find?_cons, List.find?_cons, find_mv y m]
    show (match decide (e.1 = y) with | true => some (mv e) | false => _) = _
    cases decide (e.1 = y) <;> rfl
/-- What is read at a number. -/
theorem MRow.look {m : List ME} (h3 : ∀ e ∈ m, RowOK w e.2) (y : Int) : ∃ (A : Option Addr) (c : Nat) (l : List Int), RowOK w (A, c, l) ∧ l = lkR (m.map pl) y ∧ (atI (m.map mv) y).getD (.slice none 0 0) = .slice A l.length c := by
  unfold lkR atI
  rw [find_pl, find_mv]
  cases hf : m.find? fun e => decide (e.1 = y) with
  | none => exact ⟨none, 0, [], ⟨Sl.nil _ _ _, Nat.le_refl _, Nat.zero_le _⟩, rfl, rfl⟩
  | some e => exact ⟨e.2.1, e.2.2.1, e.2.2.2, h3 e (List.mem_of_find?_eq_some hf), rfl, rfl⟩
theorem put_map {α : Type} (f : ME → Int × α) (hf : ∀ e, (f e).1 = e.1) (m : List ME) (e0 : ME) (x : Int × α) (hx : f e0 = x) :
    ((m.map f).filter fun p => decide (p.1 < x.1)) ++ x :: ((m.map f).filter fun p => decide (x.1 < p.1)) = (((m.filter fun e => decide (e.1 < e0.1)) ++ e0 :: m.filter fun e => decide (e0.1 < e.1)).map f) := by
  subst hx
  rw [List.map_append, List.map_cons, List.filter_map, List.filter_map]
  have e1 : ((fun p : Int × α => decide (p.1 < (f e0).1)) ∘ f) = fun e => decide (e.1 < e0.1) := by funext e; simp [hf]
  have e2 : ((fun p : Int × α => decide ((f e0).1 < p.1)) ∘ f) = fun e => decide (e0.1 < e.1) := by funext e; simp [hf]
  rw [e1, e2]
end

section
variable (w : World) {ops : Array Oper} {rest : List Oper} {o : Oper} {a : Act} {Q : Exit → Act → World → Prop}
end

section
/-- A range over a row's map, its iterator in block i: done: what has come so far. -/
def RangesR (w : World) (b i : Nat) (r done : Rw) : Prop :=
  ∃ m d : List ME, m.map pl = r ∧ d.map pl = done ∧ RangesI Tryd.prog 3 w b i (m.map mv) (d.map mv) ∧ (∀ e ∈ d, e ∈ m) ∧ ∀ e ∈ m, RowOK w e.2
variable {w w' : World} {b i : Nat} {r done : Rw}
theorem RangesR.row (h : RangesR w b i r done) : MRow w b r := by
  obtain ⟨m, d, h1, h2, h3, h4, h5⟩ := h
  exact ⟨m, h1, h3.map, h5⟩
theorem RangesR.keep (h : RangesR w b i r done) (hb : Below w.heap.size w w') : RangesR w' b i r done := by
  obtain ⟨m, d, h1, h2, h3, h4, h5⟩ := h
  exact ⟨m, d, h1, h2, h3.keep hb, h4, fun e he => (h5 e he).keep hb⟩
theorem RangesR.sub (h : RangesR w b i r done) : ∀ p ∈ done, p ∈ r := by
  obtain ⟨m, d, rfl, rfl, _, h4, _⟩ := h
  intro p hp
  obtain ⟨e, he, rfl⟩ := List.mem_map.1 hp
  exact List.mem_map.2 ⟨e, h4 e he, rfl⟩
theorem RangesR.keysNodup (h : RangesR w b i r done) : (done.map (·.1)).Nodup := by
  obtain ⟨m, d, rfl, rfl, h3, h4, _⟩ := h
  have hI := h3.map.inc kInt
  obtain ⟨left, cnt, _, _, _, hnd⟩ := h3
  rw [List.map_map]
  have hnd' := List.pairwise_map.1 hnd
  refine List.pairwise_map.2 (List.Pairwise.imp_of_mem (fun {p q} hp hq hpq e => hpq ?_) hnd')
  exact inc_key hI (List.mem_map.2 ⟨p, h4 p hp, rfl⟩) (List.mem_map.2 ⟨q, h4 q hq, rfl⟩) e
end

section
variable (w : World) {ops : Array Oper} {rest : List Oper} {o : Oper} {a : Act} {Q : Exit → Act → World → Prop}
/-- The step. -/
theorem wpList_nextR (hg : o.guard = none) (it : Operand) (hop : o.op = Op.next it false) (b i : Nat) (r done : Rw) (hit : a.eval it = .pointer (some ⟨i, 0, none⟩)) (h : RangesR w b i r done)
    (hDone : done.Perm r → wpList Tryd.prog ops Q rest (a.put o.dst (.tuple #[.bool false])) w)
    (hMore : ∀ (y : Int) (A : Option Addr) (c : Nat) (l : List Int) (w' : World), (y, l) ∈ r → y ∉ done.map (·.1) → RowOK w' (A, c, l) → RangesR w' b i r (done ++ [(y, l)]) → w'.rangeLeft b i < w.rangeLeft b i → w.grownBy w' (some i) → NC w i → w'.heap.size = w.heap.size →
      (Instr.entry (.pointer (some ⟨i, 0, none⟩))).run Tryd.prog w' = .ok (.tuple #[.int .i64 y, .slice A l.length c]) w' → wpList Tryd.prog ops Q rest (a.put o.dst (.tuple #[.bool true, .int .i64 y, .slice A l.length c])) w') :
    wpList Tryd.prog ops Q (o :: rest) a w := by
  have hkn := h.keysNodup
  obtain ⟨m, d, rfl, rfl, h3, h4, h5⟩ := h
  have hI := h3.map.inc kInt
  have hnc : NC w i := by
    obtain ⟨left, cnt, hr, _⟩ := h3
    obtain ⟨es, clock, since, seen, c0, _, _, _, _, hi, _⟩ := hr
    exact ⟨_, hi, rfl⟩
  have hinj : ∀ e ∈ m, ∀ e' ∈ m, e.1 = e'.1 → e = e' := by
    have hI' : m.Pairwise fun e e' => e.1 < e'.1 := by
      unfold IncK at hI
      rw [List.pairwise_map] at hI
      exact hI
    clear h3 h4 h5 hDone hMore hkn hI
    induction m with
    | nil => intro e he; cases he
    | cons x m ih =>
      obtain ⟨g1, g2⟩ := List.pairwise_cons.1 hI'
      intro e he e' he' hee
      rcases List.mem_cons.1 he with h1 | h1
      · rcases List.mem_cons.1 he' with h2 | h2
        · rw [h1, h2]
        · have := g1 e' h2
          rw [h1] at hee
          omega
      · rcases List.mem_cons.1 he' with h2 | h2
        · have := g1 e h1
          rw [h2] at hee
          omega
        · exact ih g2 e h1 e' h2 hee
  refine wpList_nextI w hg it hop kInt b i (m.map mv) (d.map mv) hit h3 (fun hp => hDone ?_) (fun p w' hp hpd hrg hlt hgr hsz hen => ?_)
  · refine List.Perm.map pl ?_
    have hndm : m.Nodup := by
      unfold IncK at hI
      rw [List.pairwise_map] at hI
      exact hI.imp fun {e e'} h1 h2 => by subst h2; omega
    have hndd : d.Nodup := by
      rw [List.map_map] at hkn
      exact (List.pairwise_map.1 hkn).imp fun {e e'} h1 h2 => h1 (by subst h2; rfl)
    refine (List.perm_ext_iff_of_nodup hndd hndm).2 fun e => ⟨h4 e, fun he => ?_⟩
    have h6 := hp.mem_iff.2 (List.mem_map.2 ⟨e, he, rfl⟩)
    obtain ⟨e', he', h7⟩ := List.mem_map.1 h6
    have h8 : (mv e').1 = (mv e).1 := by rw [h7]
    have := hinj e' (h4 e' he') e he h8
    rw [← this]
    exact he'
  · obtain ⟨e, he, rfl⟩ := List.mem_map.1 hp
    have hnot : e ∉ d := fun h => hpd (List.mem_map.2 ⟨e, h, rfl⟩)
    refine hMore e.1 e.2.1 e.2.2.1 e.2.2.2 w' (List.mem_map.2 ⟨e, he, rfl⟩) (fun h => ?_) ((h5 e he).turned hnc hgr) ⟨m, d ++ [e], rfl, by rw [List.map_append]; rfl, by rw [List.map_append]; exact hrg, fun x hx => ?_, fun x hx => (h5 x hx).turned hnc hgr⟩ hlt hgr hnc hsz hen
    · obtain ⟨q, hq, hqe⟩ := List.mem_map.1 h
      obtain ⟨e', he', rfl⟩ := List.mem_map.1 hq
      have h8 : (pl e').1 = e.1 := hqe
      have := hinj e' (h4 e' he') e he h8
      exact hnot (this ▸ he')
    · rcases List.mem_append.1 hx with h6 | h6
      · exact h4 x h6
      · rw [List.mem_singleton.1 h6]
        exact he
end

section
variable {w w' : World} {p : Nat} {od : List Rw}
end
end Go.Proofs.YtddedghnnkcnhaaDoor
/-
  Programs of tests plainly: their texts, there and back.
-/
namespace Go.Proofs.YtddedghnnkcnhaaDoor.Pg
open Go Go.Proofs.YtddedghnnkcnhaaDoor.Tx
set_option linter.unusedVariables false

def namesL : List (List UInt8) := [[99, 108, 105, 113, 117, 101], [108, 97, 98, 101, 108, 115], [100, 101, 103, 114, 101, 101], [115, 105, 122, 101], [101, 100, 103, 101, 115], [117, 110, 108, 105, 107, 101], [111, 110, 108, 121], [102, 114, 101, 101]]
def namesB : List ByteArray := namesL.map fun l => ⟨l.toArray⟩
/-- The name of a kind. -/
def nameL (k : Int) : List UInt8 := if 1 ≤ k ∧ k ≤ 8 then namesL.getD (k.toNat - 1) [] else []
/-- The kind of a name. -/
def idxL (l : List UInt8) : List (List UInt8) → Nat → Int
  | [], _ => 0
  | x :: r, i => if x = l then ((i + 1 : Nat) : Int) else idxL l r (i + 1)
def kindZ (l : List UInt8) : Int := idxL l namesL 0
theorem ba_eq {l m : List UInt8} : (⟨l.toArray⟩ : ByteArray) = ⟨m.toArray⟩ ↔ l = m := by
  constructor
  · intro h
    have := congrArg (·.data.toList) h
    simpa using this
  · intro h; rw [h]
theorem idx_eq (l : List UInt8) : ∀ (r : List (List UInt8)) (i : Nat), (∀ x ∈ r, x ≠ l) → idxL l r i = 0
  | [], _, _ => rfl
  | x :: r, i, h => by
    rw [idxL, if_neg (h x (List.mem_cons_self ..)), idx_eq l r (i + 1) fun y hy => h y (List.mem_cons_of_mem _ hy)]
theorem idxFromS_idxL (l : List UInt8) : ∀ (r : List (List UInt8)) (i : Nat), Lib.idxFromS (r.map fun l => ⟨l.toArray⟩) ⟨l.toArray⟩ i + 1 = idxL l r i
  | [], _ => rfl
  | x :: r, i => by
    have ih := idxFromS_idxL l r (i + 1)
    rw [List.map_cons, idxL]
    unfold Lib.idxFromS
    by_cases h : x = l
    · rw [if_pos (by rw [h]), if_pos h]
      omega
    · rw [if_neg (fun e => h (ba_eq.1 e)), if_neg h, ih]
theorem kind_idx (l : List UInt8) : Lib.idxOfS namesB ⟨l.toArray⟩ + 1 = kindZ l := idxFromS_idxL l namesL 0
theorem idxL_some (l : List UInt8) : ∀ (r : List (List UInt8)) (i : Nat), idxL l r i = 0 ∨ ∃ j, j < r.length ∧ idxL l r i = ((i + j + 1 : Nat) : Int) ∧ r.getD j [] = l
  | [], _ => .inl rfl
  | x :: r, i => by
    rw [idxL]
    by_cases h : x = l
    · rw [if_pos h]
      exact .inr ⟨0, by simp, rfl, h⟩
    · rw [if_neg h]
      rcases idxL_some l r (i + 1) with h1 | ⟨j, h1, h2, h3⟩
      · exact .inl h1
      · exact .inr ⟨j + 1, by simpa using h1, by rw [h2]; congr 1; omega, by simpa using h3⟩
theorem kind_cases (l : List UInt8) : kindZ l = 0 ∨ (1 ≤ kindZ l ∧ kindZ l ≤ 8 ∧ nameL (kindZ l) = l) := by
  rcases idxL_some l namesL 0 with h | ⟨j, h1, h2, h3⟩
  · exact .inl h
  · right
    have hl : namesL.length = 8 := rfl
    have e : kindZ l = ((0 + j + 1 : Nat) : Int) := h2
    refine ⟨by omega, by omega, ?_⟩
    unfold nameL
    rw [if_pos (by omega), e, show ((0 + j + 1 : Nat) : Int).toNat - 1 = j by omega, h3]
theorem nat8 {P : Int → Prop} (h : P 1 ∧ P 2 ∧ P 3 ∧ P 4 ∧ P 5 ∧ P 6 ∧ P 7 ∧ P 8) {k : Int} (h1 : 1 ≤ k) (h8 : k ≤ 8) : P k := by
  obtain ⟨p1, p2, p3, p4, p5, p6, p7, p8⟩ := h
  rcases (show k = 1 ∨ k = 2 ∨ k = 3 ∨ k = 4 ∨ k = 5 ∨ k = 6 ∨ k = 7 ∨ k = 8 by omega) with rfl | rfl | rfl | rfl | rfl | rfl | rfl | rfl <;> assumption
theorem kind_name {k : Int} (h1 : 1 ≤ k) (h8 : k ≤ 8) : kindZ (nameL k) = k :=
  nat8 (P := fun k => kindZ (nameL k) = k) ⟨by decide, by decide, by decide, by decide, by decide, by decide, by decide, by decide⟩ h1 h8
theorem name_ne {k : Int} (h1 : 1 ≤ k) (h8 : k ≤ 8) : nameL k ≠ [] ∧ 32 ∉ nameL k ∧ 59 ∉ nameL k ∧ 10 ∉ nameL k ∧ (nameL k).length ≤ 6 :=
  nat8 (P := fun k => nameL k ≠ [] ∧ 32 ∉ nameL k ∧ 59 ∉ nameL k ∧ 10 ∉ nameL k ∧ (nameL k).length ≤ 6) ⟨by decide, by decide, by decide, by decide, by decide, by decide, by decide, by decide⟩ h1 h8
theorem name_out {k : Int} (h : ¬ (1 ≤ k ∧ k ≤ 8)) : nameL k = [] := if_neg h
/-- Does a kind take a number? -/
def takesZ (k : Int) : Bool := !(decide (k = 1) || decide (k = 6) || decide (k = 8))
/-- A test that may be. -/
def opOK (o : Int × Int) : Prop := (1 ≤ o.1 ∧ o.1 ≤ 8) ∧ (0 ≤ o.2 ∧ o.2 ≤ 255) ∧ (takesZ o.1 = false → o.2 = 0)
instance (o : Int × Int) : Decidable (opOK o) := by unfold opOK; exact inferInstance
def rightG (p : List (Int × Int)) : Prop := p.length ≤ 16 ∧ ∀ o ∈ p, opOK o
instance (p : List (Int × Int)) : Decidable (rightG p) := by unfold rightG; exact inferInstance
/-- A test's text. -/
def opL (o : Int × Int) : List UInt8 := nameL o.1 ++ if takesZ o.1 = true then 32 :: Lib.itoa o.2 else []
def textG (p : List (Int × Int)) : List UInt8 := Lib.join (p.map opL) [59]
/-- A number's digits, at most so many, and no others than the number's own. -/
def numP (d : Nat) (s : List UInt8) : Option Int :=
  match Lib.atoiAll s with
  | .ok v => if s.length ≤ d ∧ Lib.itoa v = s ∧ 0 ≤ v then some v else none
  | _ => none
def testP (x : List UInt8) : Option (Int × Int) :=
  if kindZ (cut1 32 x).1 = 0 ∨ (cut1 32 x).2.2 ≠ takesZ (kindZ (cut1 32 x).1) then none
  else if (cut1 32 x).2.2 = true then (numP 6 (cut1 32 x).2.1).map fun v => (kindZ (cut1 32 x).1, v) else some (kindZ (cut1 32 x).1, 0)
def testsP : List (List UInt8) → Option (List (Int × Int))
  | [] => some []
  | x :: r => match testP x with
    | none => none
    | some o => (testsP r).map (o :: ·)
def parseG (s : List UInt8) : Option (List (Int × Int)) :=
  if s = [] then some [] else match testsP (split1 59 s) with
    | none => none
    | some p => if rightG p then some p else none
theorem numP_dec {d u : Nat} (hu : u ≤ 9223372036854775807) (hd : (Lib.decDigits u).length ≤ d) : numP d (Lib.decDigits u) = some (u : Int) := by
  unfold numP
  rw [atoi_dec hu]
  simp only
  rw [if_pos ⟨hd, itoa_nat u, by omega⟩]
theorem numP_some {d : Nat} {s : List UInt8} {v : Int} (h : numP d s = some v) : 0 ≤ v ∧ s = Lib.decDigits v.toNat ∧ s.length ≤ d := by
  unfold numP at h
  split at h
  · split at h
    · rename_i h1
      injection h with h
      subst h
      obtain ⟨h1, h2, h3⟩ := h1
      refine ⟨h3, ?_, h1⟩
      rw [← h2]
      unfold Lib.itoa
      rw [if_neg (by omega)]
    · cases h
  · cases h
theorem testP_of {x nm n : List UInt8} {has : Bool} (h : cut1 32 x = (nm, n, has)) : testP x = if kindZ nm = 0 ∨ has ≠ takesZ (kindZ nm) then none else if has = true then (numP 6 n).map fun v => (kindZ nm, v) else some (kindZ nm, 0) := by
  unfold testP
  rw [h]
theorem testP_opL {o : Int × Int} (h : opOK o) : testP (opL o) = some o := by
  obtain ⟨⟨h1, h8⟩, ⟨h0, h255⟩, hz⟩ := h
  obtain ⟨n1, n2, n3, n4, n5⟩ := name_ne h1 h8
  have hk := kind_name h1 h8
  cases ht : takesZ o.1 with
  | true =>
    have hc : cut1 32 (opL o) = (nameL o.1, Lib.itoa o.2, true) := by
      unfold opL
      rw [if_pos ht]
      exact cut1_app _ n2
    have hi : Lib.itoa o.2 = Lib.decDigits o.2.toNat := by unfold Lib.itoa; rw [if_neg (by omega)]
    rw [testP_of hc, hk, ht, if_neg (fun e => e.elim (fun e => by omega) (fun e => e rfl)), if_pos rfl, hi, numP_dec (by omega) ((dec_len_lt 6 _ (by omega)).2 (by omega))]
    show some (o.1, ((o.2.toNat : Nat) : Int)) = some o
    congr 1
    exact Prod.ext rfl (by simp only; omega)
  | false =>
    have hc : cut1 32 (opL o) = (nameL o.1, [], false) := by
      unfold opL
      rw [if_neg (by rw [ht]; decide), List.append_nil]
      exact cut1_none n2
    rw [testP_of hc, hk, ht, if_neg (fun e => e.elim (fun e => by omega) (fun e => e rfl)), if_neg (by decide)]
    congr 1
    exact Prod.ext rfl (hz ht).symm
theorem testP_some {x : List UInt8} {o : Int × Int} (h : testP x = some o) : opL o = x ∧ (1 ≤ o.1 ∧ o.1 ≤ 8) ∧ 0 ≤ o.2 ∧ o.2 < 1000000 ∧ (takesZ o.1 = false → o.2 = 0) := by
  obtain ⟨nm, n, has, hc⟩ : ∃ nm n has, cut1 32 x = (nm, n, has) := ⟨_, _, _, rfl⟩
  rw [testP_of hc] at h
  split at h
  · cases h
  · rename_i hn
    have hk : kindZ nm ≠ 0 := fun e => hn (.inl e)
    have ht : has = takesZ (kindZ nm) := Decidable.byContradiction fun e => hn (.inr e)
    obtain ⟨k1, k8, knm⟩ := (kind_cases nm).resolve_left hk
    clear hn hk
    rcases cut1_cases 32 x with ⟨hx, hc2⟩ | ⟨a, b, hx, ha, hc2⟩
    · rw [hc] at hc2
      obtain ⟨rfl, rfl, rfl⟩ : nm = x ∧ n = [] ∧ has = false := by simpa using hc2
      rw [if_neg (by decide)] at h
      injection h with h
      subst h
      refine ⟨?_, ⟨k1, k8⟩, Int.le_refl _, (by simp only; omega), fun _ => rfl⟩
      unfold opL
      simp only
      rw [← ht, if_neg (by decide), List.append_nil, knm]
    · rw [hc] at hc2
      obtain ⟨rfl, rfl, rfl⟩ : nm = a ∧ n = b ∧ has = true := by simpa using hc2
      rw [if_pos rfl] at h
      cases hv : numP 6 n with
      | none => rw [hv] at h; cases h
      | some v =>
        rw [hv] at h
        simp only [Option.map_some] at h
        injection h with h
        subst h
        obtain ⟨v0, hb, hl⟩ := numP_some hv
        rw [hb] at hl
        have hlt := (dec_len_lt 6 v.toNat (by omega)).1 hl
        refine ⟨?_, ⟨k1, k8⟩, v0, by simp only; omega, fun e => by simp only at e; rw [← ht] at e; cases e⟩
        unfold opL
        simp only
        rw [← ht, if_pos rfl, knm, hx]
        congr 2
        unfold Lib.itoa
        rw [if_neg (by omega), hb]
theorem testsP_map : ∀ {p : List (Int × Int)}, (∀ o ∈ p, opOK o) → testsP (p.map opL) = some p
  | [], _ => rfl
  | o :: p, h => by
    rw [List.map_cons, testsP, testP_opL (h o (List.mem_cons_self ..)), testsP_map fun x hx => h x (List.mem_cons_of_mem _ hx)]
    rfl
theorem testsP_some : ∀ {l : List (List UInt8)} {p : List (Int × Int)}, testsP l = some p → p.map opL = l
  | [], p, h => by
    injection h with h
    rw [← h]; rfl
  | x :: r, p, h => by
    rw [testsP] at h
    cases ht : testP x with
    | none => rw [ht] at h; cases h
    | some o =>
      rw [ht] at h
      simp only at h
      cases hr : testsP r with
      | none => rw [hr] at h; cases h
      | some q =>
        rw [hr] at h
        injection h with h
        rw [← h, List.map_cons, (testP_some ht).1, testsP_some hr]
theorem dec_no {b : UInt8} (hb : b.toNat < 48 ∨ 57 < b.toNat) (u : Nat) : b ∉ Lib.decDigits u := fun h => by have := dec_digit u b h; omega
theorem opL_no {o : Int × Int} (h1 : 1 ≤ o.1 ∧ o.1 ≤ 8) (h0 : 0 ≤ o.2) : 59 ∉ opL o ∧ 10 ∉ opL o ∧ opL o ≠ [] := by
  obtain ⟨n1, n2, n3, n4, n5⟩ := name_ne h1.1 h1.2
  have hi : Lib.itoa o.2 = Lib.decDigits o.2.toNat := by unfold Lib.itoa; rw [if_neg (by omega)]
  unfold opL
  rw [hi]
  refine ⟨fun h => ?_, fun h => ?_, fun h => n1 (List.append_eq_nil_iff.1 h).1⟩
  · rcases List.mem_append.1 h with h | h
    · exact n3 h
    · split at h
      · rcases List.mem_cons.1 h with h | h
        · cases h
        · exact dec_no (.inr (by decide)) _ h
      · cases h
  · rcases List.mem_append.1 h with h | h
    · exact n4 h
    · split at h
      · rcases List.mem_cons.1 h with h | h
        · cases h
        · exact dec_no (.inl (by decide)) _ h
      · cases h
/-- The text of a program that is right is parsed as it. -/
theorem parse_text {p : List (Int × Int)} (h : rightG p) : parseG (textG p) = some p := by
  rcases p with _ | ⟨o, p⟩
  · rfl
  · have hno : ∀ y ∈ (o :: p).map opL, (59 : UInt8) ∉ y := fun y hy => by
      obtain ⟨z, hz, rfl⟩ := List.mem_map.1 hy
      have := h.2 z hz
      exact (opL_no this.1 this.2.1.1).1
    have hs : split1 59 (textG (o :: p)) = (o :: p).map opL := by
      unfold textG
      rw [List.map_cons] at hno ⊢
      exact split_join 59 _ _ (hno _ (List.mem_cons_self ..)) fun y hy => hno y (List.mem_cons_of_mem _ hy)
    have hne : textG (o :: p) ≠ [] := fun e => by
      rw [e] at hs
      have h2 := (opL_no (h.2 o (List.mem_cons_self ..)).1 (h.2 o (List.mem_cons_self ..)).2.1.1).2.2
      rw [List.map_cons] at hs
      injection hs with hs _
      exact h2 hs.symm
    unfold parseG
    rw [if_neg hne, hs, testsP_map h.2]
    simp only
    rw [if_pos h]
/-- What is parsed is right, and has just the text. -/
theorem parse_some {s : List UInt8} {p : List (Int × Int)} (h : parseG s = some p) : textG p = s ∧ rightG p := by
  unfold parseG at h
  split at h
  · rename_i hs
    injection h with h
    rw [← h, hs]
    exact ⟨rfl, by decide, fun o ho => by cases ho⟩
  · split at h
    · cases h
    · rename_i q hq
      split at h
      · rename_i hr
        injection h with h
        subst h
        refine ⟨?_, hr⟩
        unfold textG
        rw [testsP_some hq, join_split]
      · cases h
end Go.Proofs.YtddedghnnkcnhaaDoor.Pg
/-
  Programs of tests: walks of names, Name, Kind, takes, right, Right.
-/
namespace Go.Proofs.YtddedghnnkcnhaaDoor
open Go.RowKit Go.Proofs.YtddedghnnkcnhaaDoor.Pg
attribute [local go_sem ↓] Go.wp_at_zero Go.wp_at_succ
set_option maxRecDepth 100000
set_option linter.unusedVariables false

theorem elemOp : Elem Tryd.prog 27 61 (.agg #[.int .i64 0, .int .i64 0]) 2 16 := ⟨Tryd.underlying27, by kernel_rfl, rfl, by decide⟩
theorem names_any (w : World) : Calls Tryd.prog 50 #[] w fun e w' => e = .returned (.slice (some ⟨w.heap.size, 0, none⟩) 8 8) ∧ w.alloc (.cells (namesB.map Value.string).toArray 9) = w' := by
  go_enter Tryd.func50, Tryd.ntmps50
  go_wp2
  go_ret
  exact ⟨rfl, rfl⟩
theorem takes_any (k : Int) (w : World) : Calls Tryd.prog 36 #[.int .i64 k] w fun e w' => e = .returned (.bool (takesZ k)) ∧ w = w' := by
  by_cases h1 : k = 1
  · subst h1
    go_enter Tryd.func36, Tryd.ntmps36
    go_wp2
    go_ret
    exact ⟨rfl, rfl⟩
  · by_cases h6 : k = 6
    · subst h6
      go_enter Tryd.func36, Tryd.ntmps36
      go_wp2
      go_ret
      exact ⟨rfl, rfl⟩
    · by_cases h8 : k = 8
      · subst h8
        go_enter Tryd.func36, Tryd.ntmps36
        go_wp2
        go_ret
        exact ⟨rfl, rfl⟩
      · have e1 : (k == 1) = false := by simpa using h1
        have e6 : (k == 6) = false := by simpa using h6
        have e8 : (k == 8) = false := by simpa using h8
        have HT := Lib.hid (show true = takesZ k from by unfold takesZ; simp [h1, h6, h8])
        clear h1 h6 h8
        go_enter Tryd.func36, Tryd.ntmps36
        go_wp2
        go_ret
        exact ⟨ret_bool HT.out, rfl⟩
theorem Name_any (k : Int) (w : World) : Calls Tryd.prog 51 #[.int .i64 k] w fun e w' => e = .returned (.string (bz (nameL k))) ∧ Below w.heap.size w w' := by
  by_cases h1 : k < 1
  · have HN := Lib.hid (show (⟨#[]⟩ : ByteArray) = bz (nameL k) from by rw [name_out (by omega)])
    go_enter Tryd.func51, Tryd.ntmps51
    go_wp2_with fail
    go_ret
    exact ⟨ret_eq (congrArg Value.string HN.out), Below.refl _ _⟩
  · by_cases h8 : 8 < k
    · have HN := Lib.hid (show (⟨#[]⟩ : ByteArray) = bz (nameL k) from by rw [name_out (by omega)])
      go_enter Tryd.func51, Tryd.ntmps51
      go_wp2_with fail
      go_ret
      exact ⟨ret_eq (congrArg Value.string HN.out), Below.refl _ _⟩
    · rcases (show k = 1 ∨ k = 2 ∨ k = 3 ∨ k = 4 ∨ k = 5 ∨ k = 6 ∨ k = 7 ∨ k = 8 by omega) with rfl | rfl | rfl | rfl | rfl | rfl | rfl | rfl
      all_goals (
        clear h1 h8
        go_enter Tryd.func51, Tryd.ntmps51
        go_wp2_with go_in
        go_ret
        exact ⟨rfl, bel_al (Below.refl _ _) _⟩)
theorem kind_bounds (l : List UInt8) : 0 ≤ kindZ l ∧ kindZ l ≤ 8 := by
  rcases kind_cases l with h | ⟨h1, h2, _⟩ <;> omega
theorem Kind_any (l : List UInt8) (w : World) : Calls Tryd.prog 35 #[.string (bz l)] w fun e w' => e = .returned (.int .i64 (kindZ l)) ∧ Below w.heap.size w w' := by
  have HI := Lib.hid (Any.slices_Index_string lay109 w.heap.size 0 8 8 namesB (bz l) (w.alloc (.cells (namesB.map Value.string).toArray 9)) (Nat.le_refl 8) (by omega) (fun j hj => by
    rw [Nat.zero_add, World.cell?_alloc_new, List.getElem?_toArray, List.getElem?_map, List.getElem?_eq_getElem hj, List.getD_eq_getElem?_getD, List.getElem?_eq_getElem hj]
    rfl))
  have hk := kind_idx l
  have hb := kind_bounds l
  rw [List.take_of_length_le (Nat.le_refl 8)] at HI
  obtain ⟨z, hz⟩ : ∃ z, z = Lib.idxOfS namesB (bz l) := ⟨_, rfl⟩
  have hk' : z + 1 = kindZ l := by rw [hz]; exact hk
  rw [← hz] at HI
  have hw : IntKind.i64.wrap (z + 1) = z + 1 := by rw [IntKind.wrap_i64]; omega
  have HK := Lib.hid hk'
  clear hk hb hz hk'
  go_enter Tryd.func35, Tryd.ntmps35
  go_wp2_with (first
    | (go_at_call 50; refine (names_any w).mono ?_; rintro e w1 ⟨rfl, rfl⟩)
    | (go_at_call 14; refine HI.out.mono ?_; rintro e w1 ⟨rfl, rfl⟩))
  go_ret
  exact ⟨ret_int HK.out, bel_al (Below.refl _ _) _⟩
/-- What right answers. -/
def OpRes (o : Int × Int) (w : World) (e : Ending) (w' : World) : Prop :=
  (opOK o ∧ e = .returned .nilIface ∧ Below w.heap.size w w') ∨ (¬ opOK o ∧ ∃ (c a : Int) (s : ByteArray) (g : Nat), e = .returned (.iface 43 (.pointer (some ⟨g, 0, none⟩))) ∧ (Err.flt c a s).At w' (.iface 43 (.pointer (some ⟨g, 0, none⟩))) ∧ Below w.heap.size w w' ∧ (c = 1 ∨ c = 3 ∨ c = 6))
theorem bz_empty (l : List UInt8) : (bz l).toList.isEmpty = l.isEmpty := by rw [Lib.toList_data]
theorem bz_toList (l : List UInt8) : (bz l).toList = l := by rw [Lib.toList_data]
set_option maxHeartbeats 4000000 in
theorem right_any (k n at_ : Int) (w : World) : Calls Tryd.prog 38 #[.agg #[.int .i64 k, .int .i64 n], .int .i64 at_] w (OpRes (k, n) w) := by
  have HB := Lib.hid (bel_al (Below.refl w.heap.size w) (.cells #[.int .i64 k, .int .i64 n] 61))
  have HK := Lib.hid (Blk.new w 61 #[.int .i64 k, .int .i64 n])
  have HNm := Lib.hid (fun W => Name_any k W)
  have HTk := Lib.hid (fun W => takes_any k W)
  by_cases hk : 1 ≤ k ∧ k ≤ 8
  · have he : (bz (nameL k)).toList.isEmpty = false := by
      rw [bz_empty]
      have := (name_ne hk.1 hk.2).1
      cases h : nameL k with
      | nil => exact absurd h this
      | cons a l => rfl
    obtain ⟨nm, hnm⟩ : ∃ nm, nm = bz (nameL k) := ⟨_, rfl⟩
    rw [← hnm] at he HNm
    have HKk := Lib.hid hk
    clear hk hnm
    go_enter Tryd.func38, Tryd.ntmps38
    by_cases h0 : n < 0
    · go_wp2_with (first
        | (go_at_call 51; refine (HNm.out _).mono ?_; rintro e w1 ⟨rfl, hb1⟩; have HB1 := Lib.hid (HB.out.andThen hb1); have k0 := (HK.out.keep hb1).cell 0; have k1 := (HK.out.keep hb1).cell 1; simp at k0 k1; clear hb1)
        | (go_at_call 8; refine (New_err _ _ _ _).mono ?_; rintro e w2 ⟨v, rfl, ⟨g, rfl, hv⟩, hb2⟩))
      go_ret
      exact .inr ⟨fun h => by have := h.2.1.1; omega, _, _, _, g, rfl, ⟨g, rfl, hv⟩, HB1.out.andThen hb2, .inr (.inl rfl)⟩
    · by_cases h255 : 255 < n
      · go_wp2_with (first
          | (go_at_call 51; refine (HNm.out _).mono ?_; rintro e w1 ⟨rfl, hb1⟩; have HB1 := Lib.hid (HB.out.andThen hb1); have k0 := (HK.out.keep hb1).cell 0; have k1 := (HK.out.keep hb1).cell 1; simp at k0 k1; clear hb1)
          | (go_at_call 8; refine (New_err _ _ _ _).mono ?_; rintro e w2 ⟨v, rfl, ⟨g, rfl, hv⟩, hb2⟩))
        go_ret
        exact .inr ⟨fun h => by have := h.2.1.2; omega, _, _, _, g, rfl, ⟨g, rfl, hv⟩, HB1.out.andThen hb2, .inr (.inl rfl)⟩
      · by_cases hn0 : 0 < n
        · cases ht : takesZ k with
          | true =>
            rw [ht] at HTk
            have HOk := Lib.hid (show opOK (k, n) from ⟨HKk.out, ⟨by simp only; omega, by simp only; omega⟩, fun e => by simp only at e; rw [ht] at e; cases e⟩)
            clear ht
            go_wp2_with (first
              | (go_at_call 51; refine (HNm.out _).mono ?_; rintro e w1 ⟨rfl, hb1⟩; have HB1 := Lib.hid (HB.out.andThen hb1); have k0 := (HK.out.keep hb1).cell 0; have k1 := (HK.out.keep hb1).cell 1; simp at k0 k1; clear hb1)
              | (go_at_call 36; refine (HTk.out _).mono ?_; rintro e w2 ⟨rfl, rfl⟩))
            go_ret
            exact .inl ⟨HOk.out, rfl, HB1.out⟩
          | false =>
            rw [ht] at HTk
            have HNo := Lib.hid (show ¬ opOK (k, n) from fun h => by have := h.2.2 ht; simp only at this; omega)
            clear ht
            go_wp2_with (first
              | (go_at_call 51; refine (HNm.out _).mono ?_; rintro e w1 ⟨rfl, hb1⟩; have HB1 := Lib.hid (HB.out.andThen hb1); have k0 := (HK.out.keep hb1).cell 0; have k1 := (HK.out.keep hb1).cell 1; simp at k0 k1; clear hb1)
              | (go_at_call 36; refine (HTk.out _).mono ?_; rintro e w2 ⟨rfl, rfl⟩)
              | (go_at_call 8; refine (New_err _ _ _ _).mono ?_; rintro e w2 ⟨v, rfl, ⟨g, rfl, hv⟩, hb2⟩))
            go_ret
            exact .inr ⟨HNo.out, _, _, _, g, rfl, ⟨g, rfl, hv⟩, HB1.out.andThen hb2, .inr (.inl rfl)⟩
        · have hn00 : n = 0 := by omega
          subst hn00
          have HOk := Lib.hid (show opOK (k, 0) from ⟨HKk.out, ⟨by simp only; omega, by simp only; omega⟩, fun _ => rfl⟩)
          go_wp2_with (go_at_call 51; refine (HNm.out _).mono ?_; rintro e w1 ⟨rfl, hb1⟩; have HB1 := Lib.hid (HB.out.andThen hb1); have k0 := (HK.out.keep hb1).cell 0; have k1 := (HK.out.keep hb1).cell 1; simp at k0 k1; clear hb1)
          go_ret
          exact .inl ⟨HOk.out, rfl, HB1.out⟩
  · have he : (bz (nameL k)).toList.isEmpty = true := by rw [bz_empty, name_out hk]; rfl
    obtain ⟨nm, hnm⟩ : ∃ nm, nm = bz (nameL k) := ⟨_, rfl⟩
    rw [← hnm] at he HNm
    have HNo := Lib.hid (show ¬ opOK (k, n) from fun h => hk h.1)
    clear hk hnm
    go_enter Tryd.func38, Tryd.ntmps38
    go_wp2_with (first
      | (go_at_call 51; refine (HNm.out _).mono ?_; rintro e w1 ⟨rfl, hb1⟩; have HB1 := Lib.hid (HB.out.andThen hb1); clear hb1)
      | (go_at_call 8; refine (New_err _ _ _ _).mono ?_; rintro e w2 ⟨v, rfl, ⟨g, rfl, hv⟩, hb2⟩))
    go_ret
    exact .inr ⟨HNo.out, _, _, _, g, rfl, ⟨g, rfl, hv⟩, HB1.out.andThen hb2, .inl rfl⟩
/-- What Right answers. -/
def ProgRes (p : List (Int × Int)) (w : World) (e : Ending) (w' : World) : Prop :=
  (rightG p ∧ e = .returned .nilIface ∧ Below w.heap.size w w') ∨ (¬ rightG p ∧ ∃ (c a : Int) (s : ByteArray) (g : Nat), e = .returned (.iface 43 (.pointer (some ⟨g, 0, none⟩))) ∧ (Err.flt c a s).At w' (.iface 43 (.pointer (some ⟨g, 0, none⟩))) ∧ Below w.heap.size w w' ∧ (c = 1 ∨ c = 3 ∨ c = 6))
set_option maxHeartbeats 4000000 in
theorem ProgRight_any (p : List (Int × Int)) (A : Option Addr) (n c : Nat) (w : World) (hn : n ≤ 1000000) (hs : Sl w 2 A n (Rk.cells p)) :
    Calls Tryd.prog 23 #[.slice A n c] w (ProgRes p w) := by
  have HS := Lib.hid hs
  have HM := Lib.hid hs.len2
  clear hs
  go_enter Tryd.func23, Tryd.ntmps23
  by_cases h16 : 16 < n
  · have h16' : (16 : Int) < (n : Int) := by omega
    go_wp2_with (go_at_call 8; refine (New_err _ _ _ _).mono ?_; rintro e w2 ⟨v, rfl, ⟨g, rfl, hv⟩, hb2⟩)
    go_ret
    exact .inr ⟨fun h => by have := h.1; rw [HM.out] at this; omega, _, _, _, g, rfl, ⟨g, rfl, hv⟩, hb2, .inr (.inr rfl)⟩
  · have h16' : ¬ (16 : Int) < (n : Int) := by omega
    go_wp2_with fail
    go_loopw [12] (fun iv wr => ∃ k : Nat, k ≤ n ∧ iv = .int .i64 (k : Int) ∧ Hid (∀ o ∈ p.take k, opOK o) ∧ Hid (Below w.heap.size w wr)) (fun iv _ => n - (intOf iv).toNat)
    case atStart => exact ⟨0, Nat.zero_le _, rfl, Lib.hid (fun o ho => by simp at ho), Lib.hid (Below.refl _ _)⟩
    case round =>
      obtain ⟨k, hk, rfl, HD, HB⟩ := hrel
      by_cases hlt : k < n
      · have hlt' : (k : Int) < (n : Int) := by omega
        have hk0 : (0 : Int) ≤ (k : Int) := by omega
        obtain ⟨⟨x, y⟩, he⟩ : ∃ e, p[k]? = some e := ⟨_, List.getElem?_eq_getElem (by rw [HM.out]; exact hlt)⟩
        obtain ⟨b1, off1, rfl, c0, c1⟩ := (HS.out.keep HB.out).edge hlt he
        simp only at c0 c1
        have HE := Lib.hid he
        have HR := Lib.hid (right_any x y (k : Int) (wr.alloc (.cells #[.int .i64 x, .int .i64 y] 61)))
        have HB1 := Lib.hid (bel_alloc HB.out (Nat.le_refl _) (.cells #[.int .i64 x, .int .i64 y] 61))
        clear he
        go_upto_region 7 with (go_at_call 38; refine HR.out.mono ?_; clear HR; intro e w2 hp; obtain ⟨ev, hev⟩ : ∃ ev, e = .returned ev := (by rcases hp with ⟨_, h, _⟩ | ⟨_, _, _, _, _, h, _⟩ <;> exact ⟨_, h⟩); subst hev; have HP := Lib.hid hp; clear hp)
        rcases HP.out with ⟨hok, he, hb⟩ | ⟨hno, cc, a, s, g, he, hv, hb, hc⟩
        · injection he with he
          subst he
          have HN := Lib.hid (show ∀ o ∈ p.take (k + 1), opOK o from fun o ho => by
            obtain ⟨h3, h4⟩ := List.getElem?_eq_some_iff.1 HE.out
            rw [List.take_succ_eq_append_getElem h3, h4] at ho
            rcases List.mem_append.1 ho with h | h
            · exact HD.out o h
            · rw [List.mem_singleton.1 h]; exact hok)
          have HB2 := Lib.hid (HB1.out.andThen hb)
          clear hok hb HP
          go_wp2_with fail
          go_roundw
          case rel => exact ⟨k + 1, by omega, by go_num, HN, HB2⟩
          case measure => simp [intOf]; omega
        · injection he with he
          subst he
          have HV := Lib.hid hv
          have HB2 := Lib.hid (HB1.out.andThen hb)
          have HC := Lib.hid hc
          have HNo := Lib.hid (show ¬ rightG p from fun h => hno (h.2 _ (List.mem_of_getElem? HE.out)))
          clear hno hb HP hv hc
          go_wp2_with fail
          go_ret
          exact .inr ⟨HNo.out, cc, a, s, g, rfl, HV.out, HB2.out, HC.out⟩
      · obtain rfl : k = n := by omega
        have hlt' : ¬ (k : Int) < (k : Int) := by omega
        rw [List.take_of_length_le (by rw [HM.out]; exact Nat.le_refl _)] at HD
        go_wp2_with fail
        go_ret
        exact .inl ⟨⟨by rw [HM.out]; omega, HD.out⟩, rfl, HB.out⟩
end Go.Proofs.YtddedghnnkcnhaaDoor
