/-
  More words for memory: a row that grows (Gr): nothing old has changed but the row; the law of append in that form.
-/
import Derived.Test.YtmonepclhbappaaDoorWords2
import Derived.Maps.AppendAt
import Derived.ArgAppend
import Derived.Laws.IdiomStrings
namespace Go.Proofs.YtmonepclhbappaaDoor
open Go.RowKit

/-- From w to w': of the old blocks at most v's row has changed; v' lies in v's row or in a new one. -/
structure Gr (w w' : World) (v v' : Value) : Prop where
  g : w.grownBy w' v.ownBlock
  at_ : ∀ k, v'.ownBlock = some k → v.ownBlock = some k ∨ w.heap.size ≤ k

section
variable {w w1 w' : World} {v v1 v' : Value}
theorem gb_refl (w : World) (r : Option Nat) : w.grownBy w r := ⟨rfl, rfl, rfl, Nat.le_refl _, fun _ _ _ => rfl⟩
theorem gb_alloc (w : World) (o : Obj) (r : Option Nat) : w.grownBy (w.alloc o) r := ⟨rfl, rfl, rfl, by simp, fun k hk _ => Below.heap_alloc _ _ _ hk⟩
theorem gb_below (h : Below w.heap.size w w') (r : Option Nat) : w.grownBy w' r := ⟨h.os, h.tape, h.output, h.size, fun k hk _ => h.block k hk⟩
theorem Gr.refl (w : World) (v : Value) : Gr w w v v := ⟨gb_refl w _, fun _ h => .inl h⟩
theorem Gr.trans (h : Gr w w1 v v1) (k : Gr w1 w' v1 v') : Gr w w' v v' := by
  refine ⟨⟨k.g.os.trans h.g.os, k.g.tape.trans h.g.tape, k.g.output.trans h.g.output, Nat.le_trans h.g.size k.g.size, fun i hi hne => ?_⟩, fun i hi => ?_⟩
  · refine (k.g.block i (Nat.lt_of_lt_of_le hi h.g.size) (fun e => ?_)).trans (h.g.block i hi hne)
    rcases h.at_ i e.symm with h1 | h1
    · exact hne h1.symm
    · omega
  · rcases k.at_ i hi with h1 | h1
    · exact h.at_ i h1
    · exact .inr (Nat.le_trans h.g.size h1)
theorem Gr.of_below (h : Below w.heap.size w w') (v : Value) : Gr w w' v v := ⟨gb_below h _, fun _ h => .inl h⟩
theorem Gr.of_new (h : Below w.heap.size w w') (v : Value) (hv : ∀ k, v'.ownBlock = some k → w.heap.size ≤ k) : Gr w w' v v' := ⟨gb_below h _, fun k hk => .inr (hv k hk)⟩
theorem Gr.after_alloc {o : Obj} (h : Gr (w.alloc o) w' v v') : Gr w w' v v' := (Gr.of_below (bel_al (Below.refl _ _) o) v).trans h
theorem Gr.then_below (h : Gr w w1 v v') (k : Below w1.heap.size w1 w') : Gr w w' v v' := h.trans (Gr.of_below k v')
theorem Gr.below (h : Gr w w' v v') {B : Nat} (hB : B ≤ w.heap.size) (hv : ∀ k, v.ownBlock = some k → B ≤ k) : Below B w w' :=
  (Below.refl B w).grown h.g hB hv
theorem Gr.belowOwn (h : Gr w w' v v') {B size n : Nat} {e : TypeId} {xs : List Value} (hB : B ≤ w.heap.size) (hv : w.ownsRow B e size v n xs) : Below B w w' := h.below hB fun k hk => (hv.lt k hk).1
theorem Gr.blk (h : Gr w w' v v') {g : Nat} {t : TypeId} {cs : Array Value} (hb : Blk w g t cs) (hne : v.ownBlock ≠ some g) : Blk w' g t cs := (h.g.block g hb.lt (fun e => hne e.symm)).trans hb
theorem Gr.size (h : Gr w w' v v') : w.heap.size ≤ w'.heap.size := h.g.size
/-- A block of other cells than the row's stays. -/
theorem Gr.blkOwn (h : Gr w w' v v') {g B size n : Nat} {t e : TypeId} {cs : Array Value} {xs : List Value} (hb : Blk w g t cs) (hown : w.ownsRow B e size v n xs) (hne : t ≠ e) : Blk w' g t cs := hb.others hown h.g hne
end

/-- The row lies in no other place than this block, or is nil. -/
theorem own_notBlk {w : World} {g B size n : Nat} {t e : TypeId} {cs : Array Value} {v : Value} {xs : List Value} (hown : w.ownsRow B e size v n xs) (h : Blk w g t cs) (hne : t ≠ e) : v.ownBlock ≠ some g := by
  intro hc
  rcases hown.2 with ⟨rfl, _⟩ | ⟨g', cap, cur, rfl, _, hgg, _⟩
  · simp [Value.ownBlock] at hc
  · obtain rfl : g' = g := by simpa [Value.ownBlock] using hc
    unfold Blk at h
    rw [h] at hgg
    injection hgg with hgg
    injection hgg with _ ht
    exact hne ht

section
variable {P : Program} {ops : Array Oper} {rest : List Oper} {o : Oper} {a : Act} {Q : Exit → Act → World → Prop}
theorem run_cat_at {t ty e : TypeId} {z : Value} {size bytes : Nat} (E : Elem P t e z size bytes) {B : Nat} {W : World}
    {v : Value} {n : Nat} {xs : List Value} (hown : W.ownsRow B e size v n xs) (hB : B ≤ W.heap.size)
    {A : Option Addr} {m c : Nat} {ys : List Value} (hy : Sl W size A m ys) (h1 : ∀ u ∈ ys, u.oneCell' = true)
    (hlim : (n + m) * bytes ≤ lim) (hlim' : n + m ≤ lim) :
    ∃ v' w', (Builtin.append_ #[t, t] ty #[v, .slice A m c]).run P W = .ok v' w' ∧ w'.ownsRow B e size v' (n + m) (xs ++ ys) ∧ Gr W w' v v' := by
  obtain ⟨i, hi, hz, hsize, hby⟩ := info_parts E.hi
  unfold lim at hlim hlim'
  rcases Nat.eq_zero_or_pos m with hm | hm
  · subst hm
    have hys : ys = [] := List.eq_nil_of_length_eq_zero (by simpa using hy.1)
    subst hys
    refine ⟨v, W, ?_, by rw [List.append_nil]; exact hown, Gr.refl _ _⟩
    have ht := E.ht
    rcases hown.2 with ⟨rfl, rfl⟩ | ⟨g, cap, cur, rfl, _, _, hnc, _⟩
    · cases A <;> simp [Builtin.append_, run_underlying ht, sizeOf, typeInfo, hi, Builtin.lenOf, Builtin.firstCells, loadCells, loadCellsFrom]
    · cases A <;> simp [Builtin.append_, run_underlying ht, sizeOf, typeInfo, hi, Builtin.lenOf, Builtin.firstCells, loadCells, loadCellsFrom, hnc, storeCells]
  · obtain ⟨b, off, rfl, hc⟩ := hy.2 hm
    obtain ⟨v', w', hr, h2, h3, _, h5⟩ := run_append_own_at (P := P) W B t ty e i z size bytes E.ht hi hz hsize hby E.hzs E.hsz v n xs hown ⟨b, off, none⟩ m c ys hy.1 (fun j u hu => by
      have hadd : (⟨b, off, none⟩ : Addr).add j = ⟨b, off + j, none⟩ := by unfold Addr.add; split <;> simp_all
      rw [hadd]; exact hc j u hu) h1 (by unfold maxLen; omega) hlim hB
    refine ⟨v', w', hr, h2, h3, fun k hk => ?_⟩
    rcases h5 with h5 | h5
    · exact .inl (h5 ▸ hk)
    · exact .inr (by have := h5.symm.trans hk; injection this with this; omega)
/-- append(s, x...): onto a slice that the call owns, what a slice holds that reads. -/
theorem wpList_cat_at {t e : TypeId} {z : Value} {size bytes : Nat} (E : Elem P t e z size bytes) {B : Nat} {W : World} (s x : Operand)
    (hgd : o.guard = none) (ho : o.op = .call { callee := .builtin .append, args := #[s, x], argTypes := #[t, t] })
    {v : Value} {n : Nat} {xs : List Value} (hown : W.ownsRow B e size v n xs) (hB : B ≤ W.heap.size)
    {A : Option Addr} {m c : Nat} {ys : List Value} (hy : Sl W size A m ys)
    (hs : a.eval s = v) (hx : a.eval x = .slice A m c) (h1 : ∀ u ∈ ys, u.oneCell' = true)
    (hlim : (n + m) * bytes ≤ lim) (hlim' : n + m ≤ lim)
    (h : ∀ v' w', w'.ownsRow B e size v' (n + m) (xs ++ ys) → Gr W w' v v' → wpList P ops Q rest (a.put o.dst v') w') : wpList P ops Q (o :: rest) a W := by
  obtain ⟨v', w', hr, h2, h3⟩ := run_cat_at (P := P) (ty := o.type) (c := c) E hown hB hy h1 hlim hlim'
  refine wpList_plain hgd fun K hK => ?_
  unfold Oper.wp execOp
  simp only [ho, resolve, invoke, builtin, Sem.run_bind, Sem.run_pure, Result.andThen_ok, List.map_toArray, List.map_cons, List.map_nil, hs, hx, hr]
  exact hK _ _ (h v' w' h2 h3)
/-- The same, the new value written out. -/
theorem wpList_cat_lies {t e : TypeId} {z : Value} {size bytes : Nat} (E : Elem P t e z size bytes) {B : Nat} {W : World} (s x : Operand)
    (hgd : o.guard = none) (ho : o.op = .call { callee := .builtin .append, args := #[s, x], argTypes := #[t, t] })
    {v : Value} {n : Nat} {xs : List Value} (hown : W.ownsRow B e size v n xs) (hB : B ≤ W.heap.size)
    {A : Option Addr} {m c : Nat} {ys : List Value} (hy : Sl W size A m ys) (h0 : 0 < n + m)
    (hs : a.eval s = v) (hx : a.eval x = .slice A m c) (h1 : ∀ u ∈ ys, u.oneCell' = true)
    (hlim : (n + m) * bytes ≤ lim) (hlim' : n + m ≤ lim)
    (h : ∀ g cap w', w'.ownsRow B e size (.slice (some ⟨g, 0, none⟩) (n + m) cap) (n + m) (xs ++ ys) → Gr W w' v (.slice (some ⟨g, 0, none⟩) (n + m) cap) → wpList P ops Q rest (a.put o.dst (.slice (some ⟨g, 0, none⟩) (n + m) cap)) w') : wpList P ops Q (o :: rest) a W :=
  wpList_cat_at E s x hgd ho hown hB hy hs hx h1 hlim hlim' fun v' w' h2 h3 => by
    rcases h2.2 with ⟨_, h4⟩ | ⟨g, cap, cur, rfl, _⟩
    · omega
    · exact h g cap w' h2 h3
/-- The same as a step of a region that draws its order. -/
theorem step_cat_at {t e : TypeId} {z : Value} {size bytes : Nat} (E : Elem P t e z size bytes) {B : Nat} {W : World} {K : Act → World → Prop} {L : Prop} (s x : Operand)
    (hgd : o.guard = none) (ho : o.op = .call { callee := .builtin .append, args := #[s, x], argTypes := #[t, t] })
    {v : Value} {n : Nat} {xs : List Value} (hown : W.ownsRow B e size v n xs) (hB : B ≤ W.heap.size)
    {A : Option Addr} {m c : Nat} {ys : List Value} (hy : Sl W size A m ys)
    (hs : a.eval s = v) (hx : a.eval x = .slice A m c) (h1 : ∀ u ∈ ys, u.oneCell' = true)
    (hlim : (n + m) * bytes ≤ lim) (hlim' : n + m ≤ lim)
    (h : ∀ v' w', w'.ownsRow B e size v' (n + m) (xs ++ ys) → Gr W w' v v' → K (a.put o.dst v') w') :
    if Region.wanted o (yielded ops a.tmps) = true then Oper.wp P o a W K Q else L := by
  have hw : Region.wanted o (yielded ops a.tmps) = true := by simp [Region.wanted, hgd]
  rw [if_pos hw]
  obtain ⟨v', w', hr, h2, h3⟩ := run_cat_at (P := P) (ty := o.type) (c := c) E hown hB hy h1 hlim hlim'
  unfold Oper.wp execOp
  simp only [ho, resolve, invoke, builtin, Sem.run_bind, Sem.run_pure, Result.andThen_ok, List.map_toArray, List.map_cons, List.map_nil, hs, hx, hr]
  exact h v' w' h2 h3
end
section
variable {P : Program} {ops : Array Oper} {rest : List Oper} {o : Oper} {a : Act} {Q : Exit → Act → World → Prop}
/-- append onto a slice that is full, whoever it belongs to: a new row. -/
theorem wpList_full {t e : TypeId} {z : Value} {size bytes : Nat} (E : Elem P t e z size bytes) {W : World} (s x : Operand)
    (hgd : o.guard = none) (ho : o.op = .call { callee := .builtin .append, args := #[s, x], argTypes := #[t, t] })
    {B : Option Addr} {n : Nat} {xs : List Value} (hxs : Sl W size B n xs) (hn : 0 < n)
    {A : Option Addr} {m c : Nat} {ys : List Value} (hy : Sl W size A m ys) (hm : 0 < m)
    (hs : a.eval s = .slice B n n) (hx : a.eval x = .slice A m c) (h1 : ∀ u ∈ ys, u.oneCell' = true)
    (hlim : (n + m) * bytes ≤ lim) (hlim' : n + m ≤ lim)
    (h : ∀ v' w', w'.ownsRow W.heap.size e size v' (n + m) (xs ++ ys) → Below W.heap.size W w' → wpList P ops Q rest (a.put o.dst v') w') : wpList P ops Q (o :: rest) a W := by
  obtain ⟨i, hi, hz, hsize, hby⟩ := info_parts E.hi
  unfold lim at hlim hlim'
  obtain ⟨b, off, rfl, hc⟩ := hy.2 hm
  obtain ⟨b', off', rfl, hc'⟩ := hxs.2 hn
  have hadd : ∀ (b off j : Nat), (⟨b, off, none⟩ : Addr).add j = ⟨b, off + j, none⟩ := fun b off j => by unfold Addr.add; split <;> simp_all
  refine wpList_append_grows W hgd s x t ho e i z size bytes E.ht hi hz hsize hby E.hzs E.hsz (some ⟨b', off', none⟩) n n xs hs (fun h => by cases h) hxs.1 (fun b'' hb j u hu => ?_) ⟨b, off, none⟩ m c ys hx hy.1 (fun j u hu => ?_) h1 (by omega) (by unfold maxLen; omega) hlim ?_
  · injection hb with hb
    rw [← hb, hadd]; exact hc' j u hu
  · rw [hadd]; exact hc j u hu
  · intro v' w' h2 h3
    exact h v' w' h2 ⟨h3.os, h3.tape, h3.output, h3.size, fun k hk => h3.block k hk (fun e => by cases e)⟩
end
theorem Sl.newMark (w : World) (cs : List Value) (e : TypeId) (fr : Nat × Nat) (n : Nat) (hn : cs.length = n) : Sl (w.alloc (.cells cs.toArray e fr)) 1 (some ⟨w.heap.size, 0, none⟩) n cs :=
  ⟨by rw [hn, Nat.mul_one], fun _ => ⟨_, _, rfl, fun j u hu => by rw [Nat.zero_add, World.cell?_alloc_mark]; simpa using hu⟩⟩
theorem own_block {w w' : World} {B size n : Nat} {e : TypeId} {v : Value} {xs : List Value} (h : w.ownsRow B e size v n xs) (hb : ∀ g, v.ownBlock = some g → w'.heap[g]? = w.heap[g]?) : w'.ownsRow B e size v n xs := by
  refine ⟨h.1, ?_⟩
  rcases h.2 with h' | ⟨g, cap, cur, rfl, h1, h2, h3⟩
  · exact .inl h'
  · exact .inr ⟨g, cap, cur, rfl, h1, (hb g rfl).trans h2, h3⟩
theorem own_ne {w : World} {B B' size size' n n' : Nat} {e e' : TypeId} {v v' : Value} {xs xs' : List Value} (h : w.ownsRow B e size v n xs) (h' : w.ownsRow B' e' size' v' n' xs') (hne : e ≠ e') {g g' : Nat} (hg : v.ownBlock = some g) (hg' : v'.ownBlock = some g') : g ≠ g' := by
  rintro rfl
  rcases h.2 with ⟨rfl, _⟩ | ⟨b, cap, cur, rfl, _, h2, _⟩
  · simp [Value.ownBlock] at hg
  · rcases h'.2 with ⟨rfl, _⟩ | ⟨b', cap', cur', rfl, _, h2', _⟩
    · simp [Value.ownBlock] at hg'
    · obtain rfl : b = g := by simpa [Value.ownBlock] using hg
      obtain rfl : b' = b := by simpa [Value.ownBlock] using hg'
      rw [h2] at h2'
      injection h2' with h2'
      injection h2' with _ h3
      exact hne h3
theorem own_grown {w w' : World} {B B' size size' n n' : Nat} {e e' : TypeId} {v v' : Value} {xs xs' : List Value} (h : w.ownsRow B e size v n xs) (h' : w.ownsRow B' e' size' v' n' xs') (hne : e ≠ e') (hg : w.grownBy w' v'.ownBlock) : w'.ownsRow B e size v n xs :=
  own_block h fun g hb => hg.block g (h.lt g hb).2 (fun e => own_ne h h' hne hb e.symm rfl)
theorem own_set {w : World} {B B' size size' n n' c' : Nat} {e e' : TypeId} {v : Value} {b : Nat} {xs xs' : List Value} (h : w.ownsRow B e size v n xs) (h' : w.ownsRow B' e' size' (.slice (some ⟨b, 0, none⟩) n' c') n' xs') (hne : e ≠ e') (j : Nat) (u : Value) : (w.setCell ⟨b, j, none⟩ u).ownsRow B e size v n xs :=
  own_block h fun g hb => heap_setCell_other w ⟨b, j, none⟩ g u (own_ne h h' hne hb rfl)
theorem own_below {w w' : World} {B Bc size n : Nat} {e : TypeId} {v : Value} {xs : List Value} (h : w.ownsRow B e size v n xs) (hB : ∀ g, v.ownBlock = some g → g < Bc) (hb : Below Bc w w') : w'.ownsRow B e size v n xs :=
  own_block h fun g hg => hb.block g (hB g hg)

theorem own_form {w : World} {B size n : Nat} {e : TypeId} {v : Value} {xs : List Value} (h : w.ownsRow B e size v n xs) (hn : 0 < n) : ∃ g cap, v = .slice (some ⟨g, 0, none⟩) n cap ∧ B ≤ g := by
  rcases h.2 with ⟨_, h0⟩ | ⟨g, cap, cur, hv, hg, _⟩
  · omega
  · exact ⟨g, cap, hv, hg⟩

theorem own_mono {w : World} {B B' size n : Nat} {e : TypeId} {v : Value} {xs : List Value} (h : w.ownsRow B e size v n xs) (hB : B' ≤ B) : w.ownsRow B' e size v n xs := by
  refine ⟨h.1, ?_⟩
  rcases h.2 with h' | ⟨g, cap, cur, hv, h1, h2⟩
  · exact .inl h'
  · exact .inr ⟨g, cap, cur, hv, Nat.le_trans hB h1, h2⟩
theorem own_cell {w : World} {B g n c m : Nat} {e : TypeId} {k : IntKind} {l : List Int} {x : Int} (h : w.ownsRow B e 1 (.slice (some ⟨g, 0, none⟩) n c) n (l.map (Value.int k))) (hx : l[m]? = some x) : w.cell? ⟨g, m, none⟩ = some (.int k x) := by
  have hl := h.1
  have hm := (List.getElem?_eq_some_iff.1 hx).1
  rw [List.length_map] at hl
  rw [h.cellAt m (by omega), List.getElem?_map, hx]; rfl
theorem drew_bel {w w' : World} (h : ∃ m, w' = w.drewN m) : Below w.heap.size w w' := by
  obtain ⟨m, rfl⟩ := h
  exact bel_drewN (Below.refl _ _) m
/-- A slice's length. -/
def lenV : Value → Nat
  | .slice _ k _ => k
  | _ => 0
theorem lenV_own {w : World} {B size n : Nat} {e : TypeId} {v : Value} {xs : List Value} (h : w.ownsRow B e size v n xs) : lenV v = n := by
  rcases h.2 with ⟨rfl, h0⟩ | ⟨g, cap, cur, rfl, _⟩
  · exact h0.symm
  · rfl

theorem one_u8 (l : List Int) : ∀ u ∈ l.map (Value.int .u8), u.oneCell' = true := by
  intro u hu
  obtain ⟨x, _, rfl⟩ := List.mem_map.1 hu
  rfl
theorem one_i64 (l : List Int) : ∀ u ∈ l.map (Value.int .i64), u.oneCell' = true := by
  intro u hu
  obtain ⟨x, _, rfl⟩ := List.mem_map.1 hu
  rfl
/-- A new block's cells, as a slice that reads. -/
theorem Sl.newAt (w : World) (cs : List Value) (e : TypeId) (n : Nat) (hn : cs.length = n) : Sl (w.alloc (.cells cs.toArray e)) 1 (some ⟨w.heap.size, 0, none⟩) n cs := by
  have := Sl.new w cs.toArray e
  simpa [hn] using this
end Go.Proofs.YtmonepclhbappaaDoor
