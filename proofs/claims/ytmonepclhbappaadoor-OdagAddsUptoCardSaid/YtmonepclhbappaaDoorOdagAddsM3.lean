/-
  Part 3 of the proof of OdagAdds: Words3, RowsL, OdM.
-/
import Derived.Test.YtmonepclhbappaaDoorOdagAddsM2
import Derived.Maps.AppendAt
import Derived.ArgAppend
import Derived.Laws.IdiomStrings
import Derived.RangeFuncFrom
/-
  More words for memory: a row that grows (Gr): nothing old has changed but the row; the law of append in that form.
-/
namespace Go.Proofs.YtmonepclhbappaaDoor
open Go.RowKit

/-- From w to w': of the old blocks at most v's row has changed; v' lies in v's row or in a new one. -/
structure Gr (w w' : World) (v v' : Value) : Prop where
  g : w.grownBy w' v.ownBlock
  at_ : ∀ k, v'.ownBlock = some k → v.ownBlock = some k ∨ w.heap.size ≤ k

section
variable {w w1 w' : World} {v v1 v' : Value}
theorem gb_refl (w : World) (r : Option Nat) : w.grownBy w r := ⟨rfl, rfl, rfl, Nat.le_refl _, fun _ _ _ => rfl⟩
theorem gb_alloc (w : World) (o : Obj) (r : Option Nat) : w.grownBy (w.alloc o) r := ⟨rfl, rfl, rfl, by simp, fun k hk _ => Below.heap_alloc _ _ _ hk⟩
theorem gb_below (h : Below w.heap.size w w') (r : Option Nat) : w.grownBy w' r := ⟨h.os, h.tape, h.output, h.size, fun k hk _ => h.block k hk⟩
theorem Gr.refl (w : World) (v : Value) : Gr w w v v := ⟨gb_refl w _, fun _ h => .inl h⟩
theorem Gr.trans (h : Gr w w1 v v1) (k : Gr w1 w' v1 v') : Gr w w' v v' := by
  refine ⟨⟨k.g.os.trans h.g.os, k.g.tape.trans h.g.tape, k.g.output.trans h.g.output, Nat.le_trans h.g.size k.g.size, fun i hi hne => ?_⟩, fun i hi => ?_⟩
  · refine (k.g.block i (Nat.lt_of_lt_of_le hi h.g.size) (fun e => ?_)).trans (h.g.block i hi hne)
    rcases h.at_ i e.symm with h1 | h1
    · exact hne h1.symm
    · omega
  · rcases k.at_ i hi with h1 | h1
    · exact h.at_ i h1
    · exact .inr (Nat.le_trans h.g.size h1)
theorem Gr.of_below (h : Below w.heap.size w w') (v : Value) : Gr w w' v v := ⟨gb_below h _, fun _ h => .inl h⟩
theorem Gr.of_new (h : Below w.heap.size w w') (v : Value) (hv : ∀ k, v'.ownBlock = some k → w.heap.size ≤ k) : Gr w w' v v' := ⟨gb_below h _, fun k hk => .inr (hv k hk)⟩
theorem Gr.after_alloc {o : Obj} (h : Gr (w.alloc o) w' v v') : Gr w w' v v' := (Gr.of_below (bel_al (Below.refl _ _) o) v).trans h
theorem Gr.then_below (h : Gr w w1 v v') (k : Below w1.heap.size w1 w') : Gr w w' v v' := h.trans (Gr.of_below k v')
theorem Gr.below (h : Gr w w' v v') {B : Nat} (hB : B ≤ w.heap.size) (hv : ∀ k, v.ownBlock = some k → B ≤ k) : Below B w w' :=
  (Below.refl B w).grown h.g hB hv
theorem Gr.belowOwn (h : Gr w w' v v') {B size n : Nat} {e : TypeId} {xs : List Value} (hB : B ≤ w.heap.size) (hv : w.ownsRow B e size v n xs) : Below B w w' := h.below hB fun k hk => (hv.lt k hk).1
theorem Gr.blk (h : Gr w w' v v') {g : Nat} {t : TypeId} {cs : Array Value} (hb : Blk w g t cs) (hne : v.ownBlock ≠ some g) : Blk w' g t cs := (h.g.block g hb.lt (fun e => hne e.symm)).trans hb
theorem Gr.size (h : Gr w w' v v') : w.heap.size ≤ w'.heap.size := h.g.size
/-- A block of other cells than the row's stays. -/
theorem Gr.blkOwn (h : Gr w w' v v') {g B size n : Nat} {t e : TypeId} {cs : Array Value} {xs : List Value} (hb : Blk w g t cs) (hown : w.ownsRow B e size v n xs) (hne : t ≠ e) : Blk w' g t cs := hb.others hown h.g hne
end

/-- The row lies in no other place than this block, or is nil. -/
theorem own_notBlk {w : World} {g B size n : Nat} {t e : TypeId} {cs : Array Value} {v : Value} {xs : List Value} (hown : w.ownsRow B e size v n xs) (h : Blk w g t cs) (hne : t ≠ e) : v.ownBlock ≠ some g := by
  intro hc
  rcases hown.2 with ⟨rfl, _⟩ | ⟨g', cap, cur, rfl, _, hgg, _⟩
  · simp [Value.ownBlock] at hc
  · obtain rfl : g' = g := by simpa [Value.ownBlock] using hc
    unfold Blk at h
    rw [h] at hgg
    injection hgg with hgg
    injection hgg with _ ht
    exact hne ht

section
variable {P : Program} {ops : Array Oper} {rest : List Oper} {o : Oper} {a : Act} {Q : Exit → Act → World → Prop}
theorem run_cat_at {t ty e : TypeId} {z : Value} {size bytes : Nat} (E : Elem P t e z size bytes) {B : Nat} {W : World}
    {v : Value} {n : Nat} {xs : List Value} (hown : W.ownsRow B e size v n xs) (hB : B ≤ W.heap.size)
    {A : Option Addr} {m c : Nat} {ys : List Value} (hy : Sl W size A m ys) (h1 : ∀ u ∈ ys, u.oneCell' = true)
    (hlim : (n + m) * bytes ≤ lim) (hlim' : n + m ≤ lim) :
    ∃ v' w', (Builtin.append_ #[t, t] ty #[v, .slice A m c]).run P W = .ok v' w' ∧ w'.ownsRow B e size v' (n + m) (xs ++ ys) ∧ Gr W w' v v' := by
  obtain ⟨i, hi, hz, hsize, hby⟩ := info_parts E.hi
  unfold lim at hlim hlim'
  rcases Nat.eq_zero_or_pos m with hm | hm
  · subst hm
    have hys : ys = [] := List.eq_nil_of_length_eq_zero (by simpa using hy.1)
    subst hys
    refine ⟨v, W, ?_, by rw [List.append_nil]; exact hown, Gr.refl _ _⟩
    have ht := E.ht
    rcases hown.2 with ⟨rfl, rfl⟩ | ⟨g, cap, cur, rfl, _, _, hnc, _⟩
    · cases A <;> simp [Builtin.append_, run_underlying ht, sizeOf, typeInfo, hi, Builtin.lenOf, Builtin.firstCells, loadCells, loadCellsFrom]
    · cases A <;> simp [Builtin.append_, run_underlying ht, sizeOf, typeInfo, hi, Builtin.lenOf, Builtin.firstCells, loadCells, loadCellsFrom, hnc, storeCells]
  · obtain ⟨b, off, rfl, hc⟩ := hy.2 hm
    obtain ⟨v', w', hr, h2, h3, _, h5⟩ := run_append_own_at (P := P) W B t ty e i z size bytes E.ht hi hz hsize hby E.hzs E.hsz v n xs hown ⟨b, off, none⟩ m c ys hy.1 (fun j u hu => by
      have hadd : (⟨b, off, none⟩ : Addr).add j = ⟨b, off + j, none⟩ := by unfold Addr.add; split <;> simp_all
      rw [hadd]; exact hc j u hu) h1 (by unfold maxLen; omega) hlim hB
    refine ⟨v', w', hr, h2, h3, fun k hk => ?_⟩
    rcases h5 with h5 | h5
    · exact .inl (h5 ▸ hk)
    · exact .inr (by have := h5.symm.trans hk; injection this with this; omega)
/-- append(s, x...): onto a slice that the call owns, what a slice holds that reads. -/
theorem wpList_cat_at {t e : TypeId} {z : Value} {size bytes : Nat} (E : Elem P t e z size bytes) {B : Nat} {W : World} (s x : Operand)
    (hgd : o.guard = none) (ho : o.op = .call { callee := .builtin .append, args := #[s, x], argTypes := #[t, t] })
    {v : Value} {n : Nat} {xs : List Value} (hown : W.ownsRow B e size v n xs) (hB : B ≤ W.heap.size)
    {A : Option Addr} {m c : Nat} {ys : List Value} (hy : Sl W size A m ys)
    (hs : a.eval s = v) (hx : a.eval x = .slice A m c) (h1 : ∀ u ∈ ys, u.oneCell' = true)
    (hlim : (n + m) * bytes ≤ lim) (hlim' : n + m ≤ lim)
    (h : ∀ v' w', w'.ownsRow B e size v' (n + m) (xs ++ ys) → Gr W w' v v' → wpList P ops Q rest (a.put o.dst v') w') : wpList P ops Q (o :: rest) a W := by
  obtain ⟨v', w', hr, h2, h3⟩ := run_cat_at (P := P) (ty := o.type) (c := c) E hown hB hy h1 hlim hlim'
  refine wpList_plain hgd fun K hK => ?_
  unfold Oper.wp execOp
  simp only [ho, resolve, invoke, builtin, Sem.run_bind, Sem.run_pure, Result.andThen_ok, List.map_toArray, List.map_cons, List.map_nil, hs, hx, hr]
  exact hK _ _ (h v' w' h2 h3)
/-- The same, the new value written out. -/
theorem wpList_cat_lies {t e : TypeId} {z : Value} {size bytes : Nat} (E : Elem P t e z size bytes) {B : Nat} {W : World} (s x : Operand)
    (hgd : o.guard = none) (ho : o.op = .call { callee := .builtin .append, args := #[s, x], argTypes := #[t, t] })
    {v : Value} {n : Nat} {xs : List Value} (hown : W.ownsRow B e size v n xs) (hB : B ≤ W.heap.size)
    {A : Option Addr} {m c : Nat} {ys : List Value} (hy : Sl W size A m ys) (h0 : 0 < n + m)
    (hs : a.eval s = v) (hx : a.eval x = .slice A m c) (h1 : ∀ u ∈ ys, u.oneCell' = true)
    (hlim : (n + m) * bytes ≤ lim) (hlim' : n + m ≤ lim)
    (h : ∀ g cap w', w'.ownsRow B e size (.slice (some ⟨g, 0, none⟩) (n + m) cap) (n + m) (xs ++ ys) → Gr W w' v (.slice (some ⟨g, 0, none⟩) (n + m) cap) → wpList P ops Q rest (a.put o.dst (.slice (some ⟨g, 0, none⟩) (n + m) cap)) w') : wpList P ops Q (o :: rest) a W :=
  wpList_cat_at E s x hgd ho hown hB hy hs hx h1 hlim hlim' fun v' w' h2 h3 => by
    rcases h2.2 with ⟨_, h4⟩ | ⟨g, cap, cur, rfl, _⟩
    · omega
    · exact h g cap w' h2 h3
/-- The same as a step of a region that draws its order. -/
theorem step_cat_at {t e : TypeId} {z : Value} {size bytes : Nat} (E : Elem P t e z size bytes) {B : Nat} {W : World} {K : Act → World → Prop} {L : Prop} (s x : Operand)
    (hgd : o.guard = none) (ho : o.op = .call { callee := .builtin .append, args := #[s, x], argTypes := #[t, t] })
    {v : Value} {n : Nat} {xs : List Value} (hown : W.ownsRow B e size v n xs) (hB : B ≤ W.heap.size)
    {A : Option Addr} {m c : Nat} {ys : List Value} (hy : Sl W size A m ys)
    (hs : a.eval s = v) (hx : a.eval x = .slice A m c) (h1 : ∀ u ∈ ys, u.oneCell' = true)
    (hlim : (n + m) * bytes ≤ lim) (hlim' : n + m ≤ lim)
    (h : ∀ v' w', w'.ownsRow B e size v' (n + m) (xs ++ ys) → Gr W w' v v' → K (a.put o.dst v') w') :
    if Region.wanted o (yielded ops a.tmps) = true then Oper.wp P o a W K Q else L := by
  have hw : Region.wanted o (yielded ops a.tmps) = true := by simp [Region.wanted, hgd]
  rw [if_pos hw]
  obtain ⟨v', w', hr, h2, h3⟩ := run_cat_at (P := P) (ty := o.type) (c := c) E hown hB hy h1 hlim hlim'
  unfold Oper.wp execOp
  simp only [ho, resolve, invoke, builtin, Sem.run_bind, Sem.run_pure, Result.andThen_ok, List.map_toArray, List.map_cons, List.map_nil, hs, hx, hr]
  exact h v' w' h2 h3
end
section
variable {P : Program} {ops : Array Oper} {rest : List Oper} {o : Oper} {a : Act} {Q : Exit → Act → World → Prop}
/-- append onto a slice that is full, whoever it belongs to: a new row. -/
theorem wpList_full {t e : TypeId} {z : Value} {size bytes : Nat} (E : Elem P t e z size bytes) {W : World} (s x : Operand)
    (hgd : o.guard = none) (ho : o.op = .call { callee := .builtin .append, args := #[s, x], argTypes := #[t, t] })
    {B : Option Addr} {n : Nat} {xs : List Value} (hxs : Sl W size B n xs) (hn : 0 < n)
    {A : Option Addr} {m c : Nat} {ys : List Value} (hy : Sl W size A m ys) (hm : 0 < m)
    (hs : a.eval s = .slice B n n) (hx : a.eval x = .slice A m c) (h1 : ∀ u ∈ ys, u.oneCell' = true)
    (hlim : (n + m) * bytes ≤ lim) (hlim' : n + m ≤ lim)
    (h : ∀ v' w', w'.ownsRow W.heap.size e size v' (n + m) (xs ++ ys) → Below W.heap.size W w' → wpList P ops Q rest (a.put o.dst v') w') : wpList P ops Q (o :: rest) a W := by
  obtain ⟨i, hi, hz, hsize, hby⟩ := info_parts E.hi
  unfold lim at hlim hlim'
  obtain ⟨b, off, rfl, hc⟩ := hy.2 hm
  obtain ⟨b', off', rfl, hc'⟩ := hxs.2 hn
  have hadd : ∀ (b off j : Nat), (⟨b, off, none⟩ : Addr).add j = ⟨b, off + j, none⟩ := fun b off j => by unfold Addr.add; split <;> simp_all
  refine wpList_append_grows W hgd s x t ho e i z size bytes E.ht hi hz hsize hby E.hzs E.hsz (some ⟨b', off', none⟩) n n xs hs (fun h => by cases h) hxs.1 (fun b'' hb j u hu => ?_) ⟨b, off, none⟩ m c ys hx hy.1 (fun j u hu => ?_) h1 (by omega) (by unfold maxLen; omega) hlim ?_
  · injection hb with hb
    rw [← hb, hadd]; exact hc' j u hu
  · rw [hadd]; exact hc j u hu
  · intro v' w' h2 h3
    exact h v' w' h2 ⟨h3.os, h3.tape, h3.output, h3.size, fun k hk => h3.block k hk (fun e => by cases e)⟩
end
theorem Sl.newMark (w : World) (cs : List Value) (e : TypeId) (fr : Nat × Nat) (n : Nat) (hn : cs.length = n) : Sl (w.alloc (.cells cs.toArray e fr)) 1 (some ⟨w.heap.size, 0, none⟩) n cs :=
  ⟨by rw [hn, Nat.mul_one], fun _ => ⟨_, _, rfl, fun j u hu => by rw [Nat.zero_add, World.cell?_alloc_mark]; simpa using hu⟩⟩
theorem own_block {w w' : World} {B size n : Nat} {e : TypeId} {v : Value} {xs : List Value} (h : w.ownsRow B e size v n xs) (hb : ∀ g, v.ownBlock = some g → w'.heap[g]? = w.heap[g]?) : w'.ownsRow B e size v n xs := by
  refine ⟨h.1, ?_⟩
  rcases h.2 with h' | ⟨g, cap, cur, rfl, h1, h2, h3⟩
  · exact .inl h'
  · exact .inr ⟨g, cap, cur, rfl, h1, (hb g rfl).trans h2, h3⟩
theorem own_ne {w : World} {B B' size size' n n' : Nat} {e e' : TypeId} {v v' : Value} {xs xs' : List Value} (h : w.ownsRow B e size v n xs) (h' : w.ownsRow B' e' size' v' n' xs') (hne : e ≠ e') {g g' : Nat} (hg : v.ownBlock = some g) (hg' : v'.ownBlock = some g') : g ≠ g' := by
  rintro rfl
  rcases h.2 with ⟨rfl, _⟩ | ⟨b, cap, cur, rfl, _, h2, _⟩
  · simp [Value.ownBlock] at hg
  · rcases h'.2 with ⟨rfl, _⟩ | ⟨b', cap', cur', rfl, _, h2', _⟩
    · simp [Value.ownBlock] at hg'
    · obtain rfl : b = g := by simpa [Value.ownBlock] using hg
      obtain rfl : b' = b := by simpa [Value.ownBlock] using hg'
      rw [h2] at h2'
      injection h2' with h2'
      injection h2' with _ h3
      exact hne h3
theorem own_grown {w w' : World} {B B' size size' n n' : Nat} {e e' : TypeId} {v v' : Value} {xs xs' : List Value} (h : w.ownsRow B e size v n xs) (h' : w.ownsRow B' e' size' v' n' xs') (hne : e ≠ e') (hg : w.grownBy w' v'.ownBlock) : w'.ownsRow B e size v n xs :=
  own_block h fun g hb => hg.block g (h.lt g hb).2 (fun e => own_ne h h' hne hb e.symm rfl)
theorem own_set {w : World} {B B' size size' n n' c' : Nat} {e e' : TypeId} {v : Value} {b : Nat} {xs xs' : List Value} (h : w.ownsRow B e size v n xs) (h' : w.ownsRow B' e' size' (.slice (some ⟨b, 0, none⟩) n' c') n' xs') (hne : e ≠ e') (j : Nat) (u : Value) : (w.setCell ⟨b, j, none⟩ u).ownsRow B e size v n xs :=
  own_block h fun g hb => heap_setCell_other w ⟨b, j, none⟩ g u (own_ne h h' hne hb rfl)
theorem own_below {w w' : World} {B Bc size n : Nat} {e : TypeId} {v : Value} {xs : List Value} (h : w.ownsRow B e size v n xs) (hB : ∀ g, v.ownBlock = some g → g < Bc) (hb : Below Bc w w') : w'.ownsRow B e size v n xs :=
  own_block h fun g hg => hb.block g (hB g hg)

theorem own_form {w : World} {B size n : Nat} {e : TypeId} {v : Value} {xs : List Value} (h : w.ownsRow B e size v n xs) (hn : 0 < n) : ∃ g cap, v = .slice (some ⟨g, 0, none⟩) n cap ∧ B ≤ g := by
  rcases h.2 with ⟨_, h0⟩ | ⟨g, cap, cur, hv, hg, _⟩
  · omega
  · exact ⟨g, cap, hv, hg⟩

theorem own_mono {w : World} {B B' size n : Nat} {e : TypeId} {v : Value} {xs : List Value} (h : w.ownsRow B e size v n xs) (hB : B' ≤ B) : w.ownsRow B' e size v n xs := by
  refine ⟨h.1, ?_⟩
  rcases h.2 with h' | ⟨g, cap, cur, hv, h1, h2⟩
  · exact .inl h'
  · exact .inr ⟨g, cap, cur, hv, Nat.le_trans hB h1, h2⟩
theorem own_cell {w : World} {B g n c m : Nat} {e : TypeId} {k : IntKind} {l : List Int} {x : Int} (h : w.ownsRow B e 1 (.slice (some ⟨g, 0, none⟩) n c) n (l.map (Value.int k))) (hx : l[m]? = some x) : w.cell? ⟨g, m, none⟩ = some (.int k x) := by
  have hl := h.1
  have hm := (List.getElem?_eq_some_iff.1 hx).1
  rw [List.length_map] at hl
  rw [h.cellAt m (by omega), List.getElem?_map, hx]; rfl
theorem drew_bel {w w' : World} (h : ∃ m, w' = w.drewN m) : Below w.heap.size w w' := by
  obtain ⟨m, rfl⟩ := h
  exact bel_drewN (Below.refl _ _) m
/-- A slice's length. -/
def lenV : Value → Nat
  | .slice _ k _ => k
  | _ => 0
theorem lenV_own {w : World} {B size n : Nat} {e : TypeId} {v : Value} {xs : List Value} (h : w.ownsRow B e size v n xs) : lenV v = n := by
  rcases h.2 with ⟨rfl, h0⟩ | ⟨g, cap, cur, rfl, _⟩
  · exact h0.symm
  · rfl

theorem one_u8 (l : List Int) : ∀ u ∈ l.map (Value.int .u8), u.oneCell' = true := by
  intro u hu
  obtain ⟨x, _, rfl⟩ := List.mem_map.1 hu
  rfl
theorem one_i64 (l : List Int) : ∀ u ∈ l.map (Value.int .i64), u.oneCell' = true := by
  intro u hu
  obtain ⟨x, _, rfl⟩ := List.mem_map.1 hu
  rfl
/-- A new block's cells, as a slice that reads. -/
theorem Sl.newAt (w : World) (cs : List Value) (e : TypeId) (n : Nat) (hn : cs.length = n) : Sl (w.alloc (.cells cs.toArray e)) 1 (some ⟨w.heap.size, 0, none⟩) n cs := by
  have := Sl.new w cs.toArray e
  simpa [hn] using this
end Go.Proofs.YtmonepclhbappaaDoor
/-
  Rows of rows of ints: each inner list lies so.
-/
namespace Go.Proofs.YtmonepclhbappaaDoor
open Go.RowKit
set_option maxRecDepth 100000
set_option linter.unusedVariables false

theorem elemIntsQ : Elem Tryd.prog 40 22 (.slice none 0 0) 1 24 := ⟨Tryd.underlying40, by kernel_rfl, rfl, by decide⟩
/-- A row's value; its list lies so. -/
def rv (t : Option Addr × Nat × List Int) : Value := .slice t.1 t.2.2.length t.2.1
def RowOK (w : World) (t : Option Addr × Nat × List Int) : Prop := Sl w 1 t.1 t.2.2.length (t.2.2.map (Value.int .i64)) ∧ t.2.2.length ≤ t.2.1 ∧ t.2.1 ≤ 9223372036854775807
theorem RowOK.keep {w w' : World} {t : Option Addr × Nat × List Int} (h : RowOK w t) (hb : Below w.heap.size w w') : RowOK w' t := ⟨h.1.keep hb, h.2⟩
theorem Sl.grownQ {w w' : World} {A : Option Addr} {n : Nat} {xs : List Value} {row : Option Nat} (h : Sl w 1 A n xs) (hg : w.grownBy w' row) (hA : ∀ x : Addr, A = some x → x.block < w.heap.size ∧ some x.block ≠ row) : Sl w' 1 A n xs := by
  refine ⟨h.1, fun hn => ?_⟩
  obtain ⟨b0, off, rfl, h2⟩ := h.2 hn
  refine ⟨b0, off, rfl, fun j v hj => ?_⟩
  exact (World.cell?_of_block (w := w) (a := ⟨b0, off + j, none⟩) (hg.block b0 (hA _ rfl).1 (hA _ rfl).2)).trans (h2 j v hj)
/-- The rows of a row of rows: each lies so, apart from the row itself. -/
def RowsOK (w : World) (nv : Value) (its : List (Option Addr × Nat × List Int)) : Prop := ∀ t ∈ its, RowOK w t ∧ ∀ x : Addr, t.1 = some x → x.block < w.heap.size ∧ some x.block ≠ nv.ownBlock
theorem RowsOK.keep {w w' : World} {nv : Value} {its : List (Option Addr × Nat × List Int)} (h : RowsOK w nv its) (hb : Below w.heap.size w w') : RowsOK w' nv its := fun t ht => ⟨(h t ht).1.keep hb, fun x hx => ⟨Nat.lt_of_lt_of_le ((h t ht).2 x hx).1 hb.size, ((h t ht).2 x hx).2⟩⟩
theorem RowsOK.grow {w w' : World} {nv nv' : Value} {its : List (Option Addr × Nat × List Int)} (h : RowsOK w nv its) (hg : Gr w w' nv nv') : RowsOK w' nv' its := fun t ht => by
  refine ⟨⟨(h t ht).1.1.grownQ hg.g (h t ht).2, (h t ht).1.2⟩, fun x hx => ?_⟩
  have h1 := (h t ht).2 x hx
  refine ⟨Nat.lt_of_lt_of_le h1.1 hg.size, fun e => ?_⟩
  rcases hg.at_ x.block e.symm with h3 | h3
  · exact h1.2 h3.symm
  · omega
theorem RowsOK.snoc {w : World} {nv : Value} {its : List (Option Addr × Nat × List Int)} {t : Option Addr × Nat × List Int} (h : RowsOK w nv its) (ht : RowOK w t ∧ ∀ x : Addr, t.1 = some x → x.block < w.heap.size ∧ some x.block ≠ nv.ownBlock) : RowsOK w nv (its ++ [t]) := fun u hu => by
  rcases List.mem_append.1 hu with hu | hu
  · exact h u hu
  · obtain rfl : u = t := by simpa using hu
    exact ht/-- Rows, each of which lies so. -/
def AllRows (w : World) (its : List (Option Addr × Nat × List Int)) : Prop := ∀ t ∈ its, RowOK w t
theorem AllRows.keep {w w' : World} {its : List (Option Addr × Nat × List Int)} (h : AllRows w its) (hb : Below w.heap.size w w') : AllRows w' its := fun t ht => (h t ht).keep hb
theorem its_row {its : List (Option Addr × Nat × List Int)} {k : Nat} (h : k < its.length) : ∃ D d l, its[k]? = some (D, d, l) ∧ (its.map (·.2.2))[k]? = some l :=
  ⟨its[k].1, its[k].2.1, its[k].2.2, by rw [List.getElem?_eq_getElem h], by rw [List.getElem?_map, List.getElem?_eq_getElem h]; rfl⟩
/-- A row of rows with one row more: a new one. -/
theorem rows_more {wr w5 w6 : World} {B j : Nat} {nv nv' : Value} {jts : List (Option Addr × Nat × List Int)} {g c : Nat} {l : List Int} {et : TypeId} (HO : wr.ownsRow B et 1 nv j (jts.map rv)) (HJ : RowsOK wr nv jts) (hb5 : Below wr.heap.size wr w5)
    (hit : RowOK w5 (some ⟨g, 0, none⟩, c, l)) (hg : wr.heap.size ≤ g) (hg5 : g < w5.heap.size) (hown6 : w6.ownsRow B et 1 nv' (j + 1) (jts.map rv ++ [rv (some ⟨g, 0, none⟩, c, l)])) (hgr : Gr w5 w6 nv nv') :
    w6.ownsRow B et 1 nv' (j + 1) ((jts ++ [((some ⟨g, 0, none⟩ : Option Addr), c, l)]).map rv) ∧ RowsOK w6 nv' (jts ++ [((some ⟨g, 0, none⟩ : Option Addr), c, l)]) := by
  refine ⟨by rw [List.map_append]; exact hown6, RowsOK.grow (RowsOK.snoc (HJ.keep hb5) ⟨hit, fun x hx => ?_⟩) hgr⟩
  cases hx
  refine ⟨hg5, fun (e : some g = nv.ownBlock) => ?_⟩
  have := (HO.lt g (Eq.symm e)).2
  omega
end Go.Proofs.YtmonepclhbappaaDoor
/-
  An odag in memory: rows that are maps from ints to slices of ints; words for it.
-/
namespace Go.Proofs.YtmonepclhbappaaDoor
open Go.RowKit Go.Maps
set_option maxRecDepth 100000
set_option linter.unusedVariables false
set_option linter.unusedSectionVars false

/-- A row plainly: its numbers, rising, each with its links. -/
abbrev Rw := List (Int × List Int)
def lkR (r : Rw) (a : Int) : List Int := ((r.find? fun p => decide (p.1 = a)).map (·.2)).getD []
def putR (r : Rw) (a : Int) (l : List Int) : Rw := (r.filter fun p => decide (p.1 < a)) ++ (a, l) :: r.filter fun p => decide (a < p.1)
theorem putR_len (r : Rw) (a : Int) (l : List Int) : (putR r a l).length ≤ r.length + 1 := by
  unfold putR
  have h : ∀ r : Rw, (r.filter fun p => decide (p.1 < a)).length + (r.filter fun p => decide (a < p.1)).length ≤ r.length := by
    intro r
    induction r with
    | nil => simp
    | cons p r ih =>
      rw [List.filter_cons, List.filter_cons]
      by_cases h1 : p.1 < a
      · have h2 : ¬ a < p.1 := by omega
        simp [h1, h2]
        omega
      · by_cases h2 : a < p.1
        · simp [h1, h2]
          omega
        · simp [h1, h2]
          omega
  have := h r
  simp
  omega

/-- An entry in memory: its number, where its links lie, the links. -/
abbrev ME := Int × Option Addr × Nat × List Int
def mv (e : ME) : Int × Value := (e.1, rv e.2)
def pl (e : ME) : Int × List Int := (e.1, e.2.2.2)
abbrev MapR (w : World) (b : Nat) (es : List (Int × Value)) : Prop := MapI Tryd.prog 3 w b es
/-- Block b is a map that reads as this row. -/
def MRow (w : World) (b : Nat) (r : Rw) : Prop := ∃ m : List ME, m.map pl = r ∧ MapR w b (m.map mv) ∧ ∀ e ∈ m, RowOK w e.2

theorem kInt : Tryd.prog.underlying 3 = some (.int .i64) := Tryd.underlying3

/-- Block b holds no cells: a map, an iterator. -/
def NC (w : World) (b : Nat) : Prop := ∃ o, w.heap[b]? = some o ∧ o.isCells = false
section
variable {w w' : World} {b b' : Nat} {r : Rw}
theorem NC.of_map {es : Array MapEntry} {cl : Nat} (h : w.heap[b]? = some (.map es cl)) : NC w b := ⟨_, h, rfl⟩
theorem NC.cell {a : Addr} {v : Value} (h : NC w b) (hc : w.cell? a = some v) : a.block ≠ b := fun e => by
  obtain ⟨o, h1, h2⟩ := h
  unfold World.cell? at hc
  rw [e, h1] at hc
  cases o <;> first | (cases hc; done) | cases h2
theorem NC.keep (h : NC w b) (hb : Below w.heap.size w w') : NC w' b := by
  obtain ⟨o, h1, h2⟩ := h
  exact ⟨o, (hb.block b (Array.getElem?_eq_some_iff.1 h1).1).trans h1, h2⟩
theorem bel_turn {B : Nat} {w0 : World} (h : Below B w0 w) (hg : w.grownBy w' (some b)) (hb : B ≤ b) (hB : B ≤ w.heap.size) : Below B w0 w' :=
  h.trans ⟨hg.os, hg.tape, hg.output, hg.size, fun k hk => hg.block k (by omega) (fun e => by cases e; omega)⟩
/-- A row of ints outlives a change of a block that holds no cells. -/
theorem Sl.turned {s n : Nat} {A : Option Addr} {xs : List Value} (h : Sl w s A n xs) (hm : NC w b) (hg : w.grownBy w' (some b)) : Sl w' s A n xs :=
  ⟨h.1, fun hn => by
    obtain ⟨b0, off, hA, hc⟩ := h.2 hn
    refine ⟨b0, off, hA, fun j v hj => ?_⟩
    have h1 := hc j v hj
    have hne : some b0 ≠ some b := fun e => hm.cell h1 (by cases e; rfl)
    exact (World.cell?_of_block (w := w) (a := ⟨b0, off + j, none⟩) (hg.block b0 (World.block_lt_of_cell? w _ h1) hne)).trans h1⟩
theorem RowOK.turned {t : Option Addr × Nat × List Int} (h : RowOK w t) (hm : NC w b) (hg : w.grownBy w' (some b)) : RowOK w' t := ⟨h.1.turned hm hg, h.2⟩
theorem Blk.turned {g : Nat} {t : TypeId} {cs : Array Value} (h : Blk w g t cs) (hm : NC w b) (hg : w.grownBy w' (some b)) : Blk w' g t cs := h.grown hg (fun e => by
  cases e
  obtain ⟨o, h1, h2⟩ := hm
  unfold Blk at h
  rw [h1] at h
  cases h
  cases h2)
theorem own_turned {B size n : Nat} {e : TypeId} {v : Value} {xs : List Value} (h : w.ownsRow B e size v n xs) (hm : NC w b) (hg : w.grownBy w' (some b)) : w'.ownsRow B e size v n xs :=
  own_block h fun g hgv => hg.block g (h.lt g hgv).2 (fun e1 => by
    cases e1
    obtain ⟨_, h2⟩ := h
    obtain ⟨o, h3, h4⟩ := hm
    rcases h2 with ⟨rfl, _⟩ | ⟨g', cap, cur, rfl, _, h5, _⟩
    · cases hgv
    · cases hgv
      rw [h3] at h5
      cases h5
      cases h4)

theorem MRow.keep (h : MRow w b r) (hb : Below w.heap.size w w') : MRow w' b r := by
  obtain ⟨m, h1, h2, h3⟩ := h
  exact ⟨m, h1, MapI.keep h2 hb, fun e he => (h3 e he).keep hb⟩
theorem MRow.lt (h : MRow w b r) : b < w.heap.size := by
  obtain ⟨m, h1, h2, h3⟩ := h
  exact MapI.lt h2
theorem MRow.isMap (h : MRow w b r) : NC w b := by
  obtain ⟨m, h1, h2, h3⟩ := h
  obtain ⟨es, cl, h4⟩ := MapI.isMap h2
  exact NC.of_map h4
theorem MRow.other (h : MRow w b r) (hm : NC w b') (hg : w.grownBy w' (some b')) (hne : b ≠ b') : MRow w' b r := by
  obtain ⟨m, h1, h2, h3⟩ := h
  exact ⟨m, h1, MapI.kept h2 hg (fun e => hne (by cases e; rfl)), fun e he => (h3 e he).turned hm hg⟩
/-- A change of a block of cells, behind a row's own memory. -/
theorem MRow.incr (h : MRow w b r) : r.Pairwise fun p q => p.1 < q.1 := by
  obtain ⟨m, rfl, h2, _⟩ := h
  have := MapI.inc kInt h2
  unfold IncK at this
  rw [List.pairwise_map] at this ⊢
  exact this
theorem MRow.made (w : World) : MRow (w.alloc (.map #[] 0)) w.heap.size [] := ⟨[], rfl, MapI.made _ _ w, fun e he => by cases he⟩

theorem find_pl (y : Int) : ∀ m : List ME, ((m.map pl).find? fun p => decide (p.1 = y)) = (m.find? fun e => decide (e.1 = y)).map pl
  | [] => rfl
  | e :: m => by
    rw [List.map_cons, List.find?_cons, List.find?_cons, find_pl y m]
    show (match decide (e.1 = y) with | true => some (pl e) | false => _) = _
    cases decide (e.1 = y) <;> rfl
theorem find_mv (y : Int) : ∀ m : List ME, ((m.map mv).find? fun p => decide (p.1 = y)) = (m.find? fun e => decide (e.1 = y)).map mv
  | [] => rfl
  | e :: m => by
    rw [List.map_cons, List.find?_cons, List.find?_cons, find_mv y m]
    show (match decide (e.1 = y) with | true => some (mv e) | false => _) = _
    cases decide (e.1 = y) <;> rfl
/-- What is read at a number. -/
theorem MRow.look {m : List ME} (h3 : ∀ e ∈ m, RowOK w e.2) (y : Int) : ∃ (A : Option Addr) (c : Nat) (l : List Int), RowOK w (A, c, l) ∧ l = lkR (m.map pl) y ∧ (atI (m.map mv) y).getD (.slice none 0 0) = .slice A l.length c := by
  unfold lkR atI
  rw [find_pl, find_mv]
  cases hf : m.find? fun e => decide (e.1 = y) with
  | none => exact ⟨none, 0, [], ⟨Sl.nil _ _ _, Nat.le_refl _, Nat.zero_le _⟩, rfl, rfl⟩
  | some e => exact ⟨e.2.1, e.2.2.1, e.2.2.2, h3 e (List.mem_of_find?_eq_some hf), rfl, rfl⟩
theorem put_map {α : Type} (f : ME → Int × α) (hf : ∀ e, (f e).1 = e.1) (m : List ME) (e0 : ME) (x : Int × α) (hx : f e0 = x) :
    ((m.map f).filter fun p => decide (p.1 < x.1)) ++ x :: ((m.map f).filter fun p => decide (x.1 < p.1)) = (((m.filter fun e => decide (e.1 < e0.1)) ++ e0 :: m.filter fun e => decide (e0.1 < e.1)).map f) := by
  subst hx
  rw [List.map_append, List.map_cons, List.filter_map, List.filter_map]
  have e1 : ((fun p : Int × α => decide (p.1 < (f e0).1)) ∘ f) = fun e => decide (e.1 < e0.1) := by funext e; simp [hf]
  have e2 : ((fun p : Int × α => decide ((f e0).1 < p.1)) ∘ f) = fun e => decide (e0.1 < e.1) := by funext e; simp [hf]
  rw [e1, e2]
end

section
variable (w : World) {ops : Array Oper} {rest : List Oper} {o : Oper} {a : Act} {Q : Exit → Act → World → Prop}
/-- 'r[a]'. -/
theorem wpList_lookR (hg : o.guard = none) (m x : Operand) (hop : o.op = Op.lookup 101 m x false) (b : Nat) (r : Rw) (hm : a.eval m = .map (some b)) (hown : MRow w b r) (y : Int) (hx : a.eval x = .int .i64 y) (h1 : -9223372036854775808 ≤ y) (h2 : y ≤ 9223372036854775807)
    (hK : ∀ (A : Option Addr) (c : Nat) (l : List Int), RowOK w (A, c, l) → l = lkR r y → wpList Tryd.prog ops Q rest (a.put o.dst (.slice A l.length c)) w) :
    wpList Tryd.prog ops Q (o :: rest) a w := by
  obtain ⟨me, rfl, hM, hR⟩ := hown
  obtain ⟨A, c, l, h3, h4, h5⟩ := MRow.look hR y
  refine wpList_lookI w hg m x _ hop 22 kInt Tryd.underlying101 (.slice none 0 0) (by kernel_rfl) b _ hm hM y hx h1 h2 ?_
  rw [h5]
  exact hK A c l h3 h4
/-- 'r[a] = l'. -/
theorem wpList_putR (hg : o.guard = none) (m x v : Operand) (hop : o.op = Op.mapUpdate 101 m x v) (b : Nat) (r : Rw) (hm : a.eval m = .map (some b)) (hown : MRow w b r) (hn : r.length ≤ 1000000) (y : Int) (hx : a.eval x = .int .i64 y) (h1 : -9223372036854775808 ≤ y) (h2 : y ≤ 9223372036854775807)
    (A : Option Addr) (c n : Nat) (l : List Int) (hl : l.length = n) (hv : a.eval v = .slice A n c) (hrow : RowOK w (A, c, l))
    (hK : ∀ w', MRow w' b (putR r y l) → w.grownBy w' (some b) → wpList Tryd.prog ops Q rest (a.put o.dst undef) w') :
    wpList Tryd.prog ops Q (o :: rest) a w := by
  have hmap := hown.isMap
  obtain ⟨me, rfl, hM, hR⟩ := hown
  subst hl
  refine wpList_putI w hg m x v _ hop 22 kInt Tryd.underlying101 b _ hm hM (by rw [List.length_map] at hn ⊢; unfold maxLen; omega) y _ hx hv h1 h2 fun w' hM' hgr => hK w' ?_ hgr
  refine ⟨(me.filter fun e => decide (e.1 < y)) ++ ((y, A, c, l) : ME) :: me.filter fun e => decide (y < e.1), ?_, ?_, fun e he => ?_⟩
  · exact (put_map pl (fun _ => rfl) me (y, A, c, l) (y, l) rfl).symm
  · have := put_map mv (fun _ => rfl) me (y, A, c, l) (y, .slice A l.length c) rfl
    rw [← this]
    exact hM'
  · have hall : ∀ e ∈ (y, A, c, l) :: me, RowOK w e.2 := fun e he => by
      rcases List.mem_cons.1 he with rfl | he
      · exact hrow
      · exact hR e he
    refine RowOK.turned (hall e ?_) hmap hgr
    rcases List.mem_append.1 he with he | he
    · exact List.mem_cons_of_mem _ (List.mem_filter.1 he).1
    · rcases List.mem_cons.1 he with rfl | he
      · exact List.mem_cons_self ..
      · exact List.mem_cons_of_mem _ (List.mem_filter.1 he).1
end

section
/-- A range over a row's map, its iterator in block i: done: what has come so far. -/
def RangesR (w : World) (b i : Nat) (r done : Rw) : Prop :=
  ∃ m d : List ME, m.map pl = r ∧ d.map pl = done ∧ RangesI Tryd.prog 3 w b i (m.map mv) (d.map mv) ∧ (∀ e ∈ d, e ∈ m) ∧ ∀ e ∈ m, RowOK w e.2
variable {w w' : World} {b i : Nat} {r done : Rw}
theorem RangesR.row (h : RangesR w b i r done) : MRow w b r := by
  obtain ⟨m, d, h1, h2, h3, h4, h5⟩ := h
  exact ⟨m, h1, h3.map, h5⟩
theorem RangesR.keep (h : RangesR w b i r done) (hb : Below w.heap.size w w') : RangesR w' b i r done := by
  obtain ⟨m, d, h1, h2, h3, h4, h5⟩ := h
  exact ⟨m, d, h1, h2, h3.keep hb, h4, fun e he => (h5 e he).keep hb⟩
theorem RangesR.sub (h : RangesR w b i r done) : ∀ p ∈ done, p ∈ r := by
  obtain ⟨m, d, rfl, rfl, _, h4, _⟩ := h
  intro p hp
  obtain ⟨e, he, rfl⟩ := List.mem_map.1 hp
  exact List.mem_map.2 ⟨e, h4 e he, rfl⟩
theorem RangesR.keysNodup (h : RangesR w b i r done) : (done.map (·.1)).Nodup := by
  obtain ⟨m, d, rfl, rfl, h3, h4, _⟩ := h
  have hI := h3.map.inc kInt
  obtain ⟨left, cnt, _, _, _, hnd⟩ := h3
  rw [List.map_map]
  have hnd' := List.pairwise_map.1 hnd
  refine List.pairwise_map.2 (List.Pairwise.imp_of_mem (fun {p q} hp hq hpq e => hpq ?_) hnd')
  exact inc_key hI (List.mem_map.2 ⟨p, h4 p hp, rfl⟩) (List.mem_map.2 ⟨q, h4 q hq, rfl⟩) e
end

section
variable (w : World) {ops : Array Oper} {rest : List Oper} {o : Oper} {a : Act} {Q : Exit → Act → World → Prop}
/-- 'range r'. -/
theorem wpList_rangeR (hg : o.guard = none) (m : Operand) (hop : o.op = Op.range 101 m) (b : Nat) (r : Rw) (hm : a.eval m = .map (some b)) (hown : MRow w b r)
    (hK : ∀ w', RangesR w' b w.heap.size r [] → Below w.heap.size w w' → w'.heap.size = w.heap.size + 1 → wpList Tryd.prog ops Q rest (a.put o.dst (.pointer (some ⟨w.heap.size, 0, none⟩))) w') :
    wpList Tryd.prog ops Q (o :: rest) a w := by
  obtain ⟨me, rfl, hM, hR⟩ := hown
  refine wpList_rangeI w hg m _ hop 22 kInt Tryd.underlying101 b _ hm hM fun w' h1 h2 h3 => ?_
  have hb : Below w.heap.size w w' := ⟨h2.os, h2.tape, h2.output, h2.size, fun k hk => h2.block k hk (by simp)⟩
  exact hK w' ⟨me, [], rfl, rfl, h1, (fun e he => by cases he), fun e he => (hR e he).keep hb⟩ hb h3
/-- The step. -/
theorem wpList_nextR (hg : o.guard = none) (it : Operand) (hop : o.op = Op.next it false) (b i : Nat) (r done : Rw) (hit : a.eval it = .pointer (some ⟨i, 0, none⟩)) (h : RangesR w b i r done)
    (hDone : done.Perm r → wpList Tryd.prog ops Q rest (a.put o.dst (.tuple #[.bool false])) w)
    (hMore : ∀ (y : Int) (A : Option Addr) (c : Nat) (l : List Int) (w' : World), (y, l) ∈ r → y ∉ done.map (·.1) → RowOK w' (A, c, l) → RangesR w' b i r (done ++ [(y, l)]) → w'.rangeLeft b i < w.rangeLeft b i → w.grownBy w' (some i) → NC w i → w'.heap.size = w.heap.size →
      (Instr.entry (.pointer (some ⟨i, 0, none⟩))).run Tryd.prog w' = .ok (.tuple #[.int .i64 y, .slice A l.length c]) w' → wpList Tryd.prog ops Q rest (a.put o.dst (.tuple #[.bool true, .int .i64 y, .slice A l.length c])) w') :
    wpList Tryd.prog ops Q (o :: rest) a w := by
  have hkn := h.keysNodup
  obtain ⟨m, d, rfl, rfl, h3, h4, h5⟩ := h
  have hI := h3.map.inc kInt
  have hnc : NC w i := by
    obtain ⟨left, cnt, hr, _⟩ := h3
    obtain ⟨es, clock, since, seen, c0, _, _, _, _, hi, _⟩ := hr
    exact ⟨_, hi, rfl⟩
  have hinj : ∀ e ∈ m, ∀ e' ∈ m, e.1 = e'.1 → e = e' := by
    have hI' : m.Pairwise fun e e' => e.1 < e'.1 := by
      unfold IncK at hI
      rw [List.pairwise_map] at hI
      exact hI
    clear h3 h4 h5 hDone hMore hkn hI
    induction m with
    | nil => intro e he; cases he
    | cons x m ih =>
      obtain ⟨g1, g2⟩ := List.pairwise_cons.1 hI'
      intro e he e' he' hee
      rcases List.mem_cons.1 he with h1 | h1
      · rcases List.mem_cons.1 he' with h2 | h2
        · rw [h1, h2]
        · have := g1 e' h2
          rw [h1] at hee
          omega
      · rcases List.mem_cons.1 he' with h2 | h2
        · have := g1 e h1
          rw [h2] at hee
          omega
        · exact ih g2 e h1 e' h2 hee
  refine wpList_nextI w hg it hop kInt b i (m.map mv) (d.map mv) hit h3 (fun hp => hDone ?_) (fun p w' hp hpd hrg hlt hgr hsz hen => ?_)
  · refine List.Perm.map pl ?_
    have hndm : m.Nodup := by
      unfold IncK at hI
      rw [List.pairwise_map] at hI
      exact hI.imp fun {e e'} h1 h2 => by subst h2; omega
    have hndd : d.Nodup := by
      rw [List.map_map] at hkn
      exact (List.pairwise_map.1 hkn).imp fun {e e'} h1 h2 => h1 (by subst h2; rfl)
    refine (List.perm_ext_iff_of_nodup hndd hndm).2 fun e => ⟨h4 e, fun he => ?_⟩
    have h6 := hp.mem_iff.2 (List.mem_map.2 ⟨e, he, rfl⟩)
    obtain ⟨e', he', h7⟩ := List.mem_map.1 h6
    have h8 : (mv e').1 = (mv e).1 := by rw [h7]
    have := hinj e' (h4 e' he') e he h8
    rw [← this]
    exact he'
  · obtain ⟨e, he, rfl⟩ := List.mem_map.1 hp
    have hnot : e ∉ d := fun h => hpd (List.mem_map.2 ⟨e, h, rfl⟩)
    refine hMore e.1 e.2.1 e.2.2.1 e.2.2.2 w' (List.mem_map.2 ⟨e, he, rfl⟩) (fun h => ?_) ((h5 e he).turned hnc hgr) ⟨m, d ++ [e], rfl, by rw [List.map_append]; rfl, by rw [List.map_append]; exact hrg, fun x hx => ?_, fun x hx => (h5 x hx).turned hnc hgr⟩ hlt hgr hnc hsz hen
    · obtain ⟨q, hq, hqe⟩ := List.mem_map.1 h
      obtain ⟨e', he', rfl⟩ := List.mem_map.1 hq
      have h8 : (pl e').1 = e.1 := hqe
      have := hinj e' (h4 e' he') e he h8
      exact hnot (this ▸ he')
    · rcases List.mem_append.1 hx with h6 | h6
      · exact h4 x h6
      · rw [List.mem_singleton.1 h6]
        exact he
end

section
/-- An odag in memory: a struct of one slice of maps. -/
def OdC (w : World) (p : Nat) (od : List Rw) (R : Option Addr) (n c : Nat) (bs : List Nat) : Prop :=
  Blk w p 104 #[.slice R n c] ∧ od.length = n ∧ bs.length = n ∧ n ≤ c ∧ Sl w 1 R n (bs.map fun b => .map (some b)) ∧ bs.Nodup ∧ ∀ (i : Nat) (b : Nat) (r : Rw), bs[i]? = some b → od[i]? = some r → MRow w b r
def OdM (w : World) (p : Nat) (od : List Rw) : Prop := ∃ (R : Option Addr) (n c : Nat) (bs : List Nat), OdC w p od R n c bs
/-- .. whose maps lie in blocks of B on. -/
def OdN (B : Nat) (w : World) (p : Nat) (od : List Rw) : Prop := ∃ (R : Option Addr) (n c : Nat) (bs : List Nat), OdC w p od R n c bs ∧ ∀ b ∈ bs, B ≤ b
variable {w w' : World} {p : Nat} {od : List Rw}
theorem OdN.odM {B : Nat} (h : OdN B w p od) : OdM w p od := by
  obtain ⟨R, n, c, bs, h1, _⟩ := h
  exact ⟨R, n, c, bs, h1⟩
theorem OdM.keep (h : OdM w p od) (hb : Below w.heap.size w w') : OdM w' p od := by
  obtain ⟨R, n, c, bs, h1, h2, h3, h4, h5, h6, h7⟩ := h
  exact ⟨R, n, c, bs, h1.keep hb, h2, h3, h4, h5.keep hb, h6, fun i b r hb' hr => (h7 i b r hb' hr).keep hb⟩
theorem OdM.lt (h : OdM w p od) : p < w.heap.size := by
  obtain ⟨R, n, c, bs, h1, _⟩ := h
  exact h1.lt
end
end Go.Proofs.YtmonepclhbappaaDoor
