/-
  Part 13 of the proof of OdagReads: Box, OdRm.
-/
import Derived.Test.YtmonepclhbappaaGreatDoorOdagReadsM12
import Derived.Test.YtmonepclhbappaaGreatDoorOdagReadsM3
import Derived.OwnWalkIn
import Derived.Test.YtmonepclhbappaaGreatDoorOdagReadsM9
/-
  Boxes (variables that lie in blocks) and rows under what an iterator may turn.
-/
namespace Go.Proofs.YtmonepclhbappaaGreatDoor
open Go.RowKit
set_option linter.unusedVariables false
theorem own_notNC2 {w : World} {b B size n : Nat} {e : TypeId} {v : Value} {xs : List Value} (h : w.ownsRow B e size v n xs) (hm : NC w b) : some b ≠ v.ownBlock := fun e1 => by
  obtain ⟨_, h2⟩ := h
  obtain ⟨o, h3, h4⟩ := hm
  rcases h2 with ⟨rfl, _⟩ | ⟨g', cap, cur, rfl, _, h5, _⟩
  · cases e1
  · cases e1
    rw [h3] at h5
    cases h5
    cases h4
section
variable {A B : World} {row : Option Nat}
abbrev NonCell (A : World) (row : Option Nat) : Prop := ∀ r, row = some r → ∃ o : Obj, A.heap[r]? = some o ∧ o.isCells = false
theorem blk_gb {g : Nat} {t : TypeId} {cs : Array Value} (h : Blk A g t cs) (hg : A.grownBy B row) (hr : NonCell A row) : Blk B g t cs := h.grown hg fun e => by
  obtain ⟨o, h1, h2⟩ := hr g e.symm
  unfold Blk at h
  rw [h] at h1
  cases h1
  cases h2
theorem sl_gb {n : Nat} {C : Option Addr} {xs : List Value} (h : Sl A 1 C n xs) (hg : A.grownBy B row) (hr : NonCell A row) : Sl B 1 C n xs := by
  refine ⟨h.1, fun hn => ?_⟩
  obtain ⟨b, off, rfl, h2⟩ := h.2 hn
  refine ⟨b, off, rfl, fun j v hj => ?_⟩
  have hc := h2 j v hj
  refine (World.cell?_of_block (w := A) (a := ⟨b, off + j, none⟩) (hg.block b (World.block_lt_of_cell? A _ hc) fun e => ?_)).trans hc
  obtain ⟨o, h3, h4⟩ := hr b e.symm
  exact NC.cell ⟨o, h3, h4⟩ hc rfl
theorem row_gb {t : Option Addr × Nat × List Int} (h : RowOK A t) (hg : A.grownBy B row) (hr : NonCell A row) : RowOK B t := ⟨sl_gb h.1 hg hr, h.2⟩
theorem own_gb {B0 n : Nat} {e : TypeId} {v : Value} {xs : List Value} (h : A.ownsRow B0 e 1 v n xs) (hg : A.grownBy B row) (hr : NonCell A row) : B.ownsRow B0 e 1 v n xs :=
  own_block h fun g hv => hg.block g (h.lt g hv).2 fun e1 => by
    obtain ⟨o, h3, h4⟩ := hr g e1.symm
    exact own_notNC2 h ⟨o, h3, h4⟩ hv.symm
theorem rows_gb {v : Value} {its : List (Option Addr × Nat × List Int)} (h : RowsOK A v its) (hg : A.grownBy B row) (hr : NonCell A row) : RowsOK B v its := fun t ht => ⟨row_gb (h t ht).1 hg hr, fun x hx => ⟨Nat.lt_of_lt_of_le ((h t ht).2 x hx).1 hg.size, ((h t ht).2 x hx).2⟩⟩
theorem bel_gb {n₀ : Nat} {w0 : World} (h : Below n₀ w0 A) (hn : n₀ ≤ w0.heap.size) (hg : A.grownBy B row) (hr : ∀ r, row = some r → n₀ ≤ r) : Below n₀ w0 B := h.grown hg (Nat.le_trans hn h.size) fun k e => hr k e
/-- What a law holds while a range over a function goes on, kept by what the iterator does. -/
theorem ownFrom_of {β : Type} {n : Nat} {I : β → World → Prop} (h : ∀ s A B row, I s A → A.grownBy B row → NonCell A row → (∀ r, row = some r → n ≤ r) → I s B) : OwnFrom n I := fun s A B row hs hg hr => h s A B row hs hg (fun r e => (hr r e).2) (fun r e => (hr r e).1)
theorem ko_belowE {W W' : World} (hb : Below W.heap.size W W') : KeepsOthers W W' := ⟨hb.size, fun k o hk _ => (hb.block k (Array.getElem?_eq_some_iff.1 hk).1).trans hk⟩
/-- A row of ints behind a store into another block. -/
theorem sl_far {W : World} {n : Nat} {C : Option Addr} {xs : List Value} (h : Sl W 1 C n xs) {p : Addr} (hp : ∀ a : Addr, C = some a → a.block ≠ p.block) (u : Value) : Sl (W.setCell p u) 1 C n xs := by
  refine ⟨h.1, fun hn => ?_⟩
  obtain ⟨b, off, rfl, h2⟩ := h.2 hn
  refine ⟨b, off, rfl, fun j v hj => ?_⟩
  have hc := h2 j v hj
  exact (World.cell?_of_block (w := W) (a := ⟨b, off + j, none⟩) (Below.heap_setCell W p u b (hp _ rfl))).trans hc
end
/-- append in a fence: what the row was is known, what changes is that row alone. -/
theorem wpListIn_cat_at {F : Fence} {k : Nat} {P : Program} {ops : Array Oper} {rest : List Oper} {o : Oper} {a : Act} {Q : Exit → Act → World → Prop} {t e : TypeId} {z : Value} {size bytes : Nat} (E : Elem P t e z size bytes) {B : Nat} {W : World} (s x : Operand)
    (hgd : o.guard = none) (ho : o.op = .call { callee := .builtin .append, args := #[s, x], argTypes := #[t, t] })
    {v : Value} {n : Nat} {xs : List Value} (hown : W.ownsRow B e size v n xs) (hB : B ≤ W.heap.size)
    {A : Option Addr} {m c : Nat} {ys : List Value} (hy : Sl W size A m ys)
    (hs : a.eval s = v) (hx : a.eval x = .slice A m c) (h1 : ∀ u ∈ ys, u.oneCell' = true)
    (hlim : (n + m) * bytes ≤ lim) (hlim' : n + m ≤ lim)
    (h : ∀ v' w', w'.ownsRow B e size v' (n + m) (xs ++ ys) → Gr W w' v v' → wpListIn F k P ops Q rest (a.put o.dst v') w') : wpListIn F k P ops Q (o :: rest) a W := by
  obtain ⟨v', w', hr, h2, h3⟩ := run_cat_at (P := P) (ty := o.type) (c := c) E hown hB hy h1 hlim hlim'
  refine wpListIn_plain hgd fun K hK' => ?_
  unfold Oper.wpIn
  refine ⟨?_, ?_⟩
  · simp [Oper.about, ho, resolve, Target.leads, Sem.run_pure]
  · rw [Oper.semAt_plain F _ _ (by rw [ho]; intro c hc'; cases hc')]
    simp [execOp, ho, resolve, invoke, builtin, hs, hx, hr, Result.andThen]
    exact hK' _ _ (h v' w' h2 h3)
theorem KT.cat {n₀ n₂ B n : Nat} {W W' : World} {v v' : Value} {xs : List Value} (hown : W.ownsRow B 22 1 v n xs) (hg : Gr W W' v v') (h0 : n₀ ≤ W.heap.size) (hB : n₀ ≤ B) : KT n₀ n₂ W W' := by
  refine ⟨hg.below h0 fun k hk => Nat.le_trans hB (hown.lt k hk).1, fun k cs t fr _ ht hk => (hg.g.block k (Array.getElem?_eq_some_iff.1 hk).1 fun e => ?_).trans hk⟩
  rcases hown.2 with ⟨rfl, _⟩ | ⟨g', cap, cur, rfl, _, h5, _⟩
  · simp [Value.ownBlock] at e
  · obtain rfl : k = g' := by simpa [Value.ownBlock] using e
    rw [hk] at h5
    injection h5 with h5
    injection h5 with _ h6
    exact ht h6
theorem ko_cat {B n size : Nat} {e : TypeId} {W W' : World} {v v' : Value} {xs : List Value} (hown : W.ownsRow B e size v n xs) (hg : Gr W W' v v') : KeepsOthers W W' :=
  KeepsOthers.of_grownBy hg.g fun j o ej hj => by
    rcases hown.2 with ⟨rfl, _⟩ | ⟨g', cap, cur, rfl, _, h5, _⟩
    · simp [Value.ownBlock] at ej
    · obtain rfl : g' = j := by simpa [Value.ownBlock] using ej
      rw [h5] at hj
      injection hj with hj
      rw [← hj]
      rfl
end Go.Proofs.YtmonepclhbappaaGreatDoor
/-
  Odags: what lies in memory while one is read.
-/
namespace Go.Proofs.YtmonepclhbappaaGreatDoor
open Go.RowKit Go.Maps
set_option maxRecDepth 100000
set_option linter.unusedVariables false

/-- Rows of ints, each in cells of ints. -/
def AllT (W : World) (its : List (Option Addr × Nat × List Int)) : Prop := ∀ t ∈ its, RowOK W t ∧ IntAt W t.1
/-- A row grows whose cells are of another type than these. -/
def OthT (W : World) (row : Option Nat) (ts : List TypeId) : Prop := ∀ g, row = some g → ∃ cs t fr, W.heap[g]? = some (.cells cs t fr) ∧ t ∉ ts
section
variable {W W' w0 : World} {B g O b : Nat} {row : Option Nat} {its : List (Option Addr × Nat × List Int)} {v rvv : Value} {bs : List Nat} {od : List Rw} {A : Option Addr} {n c a : Nat} {E : Err}
theorem OthT.ne {t : TypeId} {ts : List TypeId} {cs : Array Value} (h : OthT W row ts) (ht : t ∈ ts) (hb : Blk W g t cs) : some g ≠ row := fun e => by
  obtain ⟨cs', t', fr, h1, h2⟩ := h g e.symm
  unfold Blk at hb
  rw [hb] at h1
  cases h1
  exact h2 ht
theorem OthT.sub {ts ts' : List TypeId} (h : OthT W row ts) (hs : ∀ t ∈ ts', t ∈ ts) : OthT W row ts' := fun g e => by
  obtain ⟨cs, t, fr, h1, h2⟩ := h g e
  exact ⟨cs, t, fr, h1, fun h3 => h2 (hs t h3)⟩
theorem OthT.of_blk {t : TypeId} {ts : List TypeId} {cs : Array Value} (hb : Blk W g t cs) (h : t ∉ ts) : OthT W (some g) ts := fun g' e => by
  cases e
  exact ⟨_, _, _, hb, h⟩
theorem OthT.of_own {e : TypeId} {size k : Nat} {xs : List Value} {ts : List TypeId} (hown : W.ownsRow B e size v k xs) (h : e ∉ ts) : OthT W v.ownBlock ts := fun g' e' => by
  rcases hown.2 with ⟨rfl, _⟩ | ⟨g2, cap, cur, rfl, _, h2, _⟩
  · simp [Value.ownBlock] at e'
  · obtain rfl : g2 = g' := by simpa [Value.ownBlock] using e'
    exact ⟨_, _, _, h2, h⟩
theorem own_oth {e : TypeId} {size k : Nat} {xs : List Value} {ts : List TypeId} (hown : W.ownsRow B e size v k xs) (h : OthT W row ts) (he : e ∈ ts) (hg : W.grownBy W' row) : W'.ownsRow B e size v k xs := own_block hown fun g' hg' => hg.block g' (hown.lt g' hg').2 fun e' => by
  obtain ⟨cs', t', fr, h1, h2⟩ := h g' e'.symm
  rcases hown.2 with ⟨rfl, _⟩ | ⟨g2, cap, cur, rfl, _, h3, _⟩
  · simp [Value.ownBlock] at hg'
  · obtain rfl : g2 = g' := by simpa [Value.ownBlock] using hg'
    rw [h3] at h1
    cases h1
    exact h2 he
theorem AllT.keep (h : AllT W its) (hb : Below W.heap.size W W') : AllT W' its := fun t ht => ⟨(h t ht).1.keep hb, (h t ht).2.keep hb⟩
theorem AllT.oth (h : AllT W its) (ho : OthT W row [3]) (hg : W.grownBy W' row) : AllT W' its := fun t ht => by
  obtain ⟨k1, k2⟩ := h t ht
  have hne : ∀ x : Addr, t.1 = some x → x.block < W.heap.size ∧ some x.block ≠ row := fun x hx => by
    obtain ⟨cs, fr, h4⟩ := k2 x hx
    refine ⟨(Array.getElem?_eq_some_iff.1 h4).1, fun e => ?_⟩
    obtain ⟨cs', t', fr', h5, h6⟩ := ho _ e.symm
    rw [h4] at h5
    cases h5
    exact h6 (by simp)
  refine ⟨⟨k1.1.grownQ hg hne, k1.2⟩, fun x hx => ?_⟩
  obtain ⟨cs, fr, h4⟩ := k2 x hx
  exact ⟨cs, fr, (hg.block _ (hne x hx).1 (hne x hx).2).trans h4⟩
theorem AllT.turned (h : AllT W its) (hm : NC W b) (hg : W.grownBy W' (some b)) : AllT W' its := fun t ht => ⟨(h t ht).1.turned hm hg, (h t ht).2.turned hm hg⟩
theorem OdW.oth (h : OdW B O v bs W od) (ho : OthT W row [3, 114, 117]) (hg : W.grownBy W' row) : OdW B O v bs W' od := by
  obtain ⟨h1, h2, h3, h4, h5⟩ := h
  refine ⟨h1, own_oth h2 ho (by simp) hg, h3, fun i b r hb' hr => (h4 i b r hb' hr).grown hg fun g' e => ?_, h5.grown hg (ho.ne (by simp) h5)⟩
  obtain ⟨cs, t, fr, k1, k2⟩ := ho g' e
  exact ⟨cs, t, fr, k1, fun e' => k2 (by simp [e'])⟩
theorem Rd.oth (h : Rd W B g A n c a E) (ho : OthT W row [150, 107]) (hg : W.grownBy W' row) : Rd W' B g A n c a E := by
  obtain ⟨h1, h2, h3, ev, h4, h5⟩ := h
  exact ⟨h1, h2, h3, ev, h4.grown hg (ho.ne (by simp) h4), h5.far h2 fun g cs h => h.grown hg (ho.ne (by simp) h)⟩
/-- The reader, the rows read, the odag. -/
def Mem (w0 : World) (B g O : Nat) (v : Value) (bs : List Nat) (A : Option Addr) (n c a : Nat) (E : Err) (rvv : Value) (its : List (Option Addr × Nat × List Int)) (od : List Rw) (W : World) : Prop :=
  Rd W B g A n c a E ∧ W.ownsRow B 22 1 rvv its.length (its.map rv) ∧ AllT W its ∧ OdW B O v bs W od ∧ Below B w0 W
theorem Mem.size (h : Mem w0 B g O v bs A n c a E rvv its od W) : B ≤ W.heap.size := by
  obtain ⟨⟨h1, _, _, ev, h4, _⟩, _⟩ := h
  exact Nat.le_trans h1 (Nat.le_of_lt h4.lt)
theorem Mem.keep (h : Mem w0 B g O v bs A n c a E rvv its od W) (hb : Below W.heap.size W W') : Mem w0 B g O v bs A n c a E rvv its od W' := by
  have hs := h.size
  obtain ⟨h1, h2, h3, h4, h5⟩ := h
  exact ⟨h1.keep hb, own_block h2 fun g' hg' => hb.block g' (h2.lt g' hg').2, h3.keep hb, h4.keep hb, h5.trans (hb.mono hs)⟩
theorem Mem.read {a' : Nat} {E' : Err} (h : Mem w0 B g O v bs A n c a E rvv its od W) (hb : Below B W W') (ha : Asd g W W') (hr : Rd W' B g A n c a' E') : Mem w0 B g O v bs A n c a' E' rvv its od W' := by
  obtain ⟨h1, h2, h3, h4, h5⟩ := h
  have hg := gb_asd hb ha
  obtain ⟨cs, hk⟩ := h1.blk
  exact ⟨hr, own_oth h2 (OthT.of_blk (ts := [22]) hk (by decide)) (by simp) hg, h3.oth (OthT.of_blk hk (by decide)) hg, h4.oth (OthT.of_blk hk (by decide)) hg, h5.trans hb⟩
theorem Mem.put {i : Nat} {r : Rw} (h : Mem w0 B g O v bs A n c a E rvv its od W) (hi : bs[i]? = some b) (hB : B ≤ b) (hm : NC W b) (hg : W.grownBy W' (some b)) (hr : MRowT W' b r) : Mem w0 B g O v bs A n c a E rvv its (od.set i r) W' := by
  have hs := h.size
  obtain ⟨h1, h2, h3, h4, h5⟩ := h
  exact ⟨h1.turned hm hg, own_turned h2 hm hg, h3.turned hm hg, h4.put hi hm hg hr, bel_turn h5 hg hB hs⟩
theorem Mem.push {w6 : World} {v6 : Value} {y : Option Addr × Nat × List Int} {o : Obj} (h : Mem w0 B g O v bs A n c a E rvv its od W) (hy : RowOK W y ∧ IntAt W y.1) (hown : w6.ownsRow B 22 1 v6 (its.length + 1) (its.map rv ++ [rv y])) (hgr : Gr (W.alloc o) w6 rvv v6) : Mem w0 B g O v bs A n c a E v6 (its ++ [y]) od w6 := by
  have hs := h.size
  have ha := h.keep (bel_al (Below.refl _ _) o)
  obtain ⟨h1, h2, h3, h4, h5⟩ := ha
  have hy2 : AllT (W.alloc o) [y] := AllT.keep (W := W) (fun t ht => by rw [List.mem_singleton.1 ht]; exact hy) (bel_al (Below.refl _ _) o)
  have hyy : AllT (W.alloc o) (its ++ [y]) := fun t ht => (List.mem_append.1 ht).elim (h3 t) (hy2 t)
  refine ⟨h1.oth (OthT.of_own h2 (by decide)) hgr.g, ?_, hyy.oth (OthT.of_own h2 (by decide)) hgr.g, h4.oth (OthT.of_own h2 (by decide)) hgr.g, h5.trans (hgr.belowOwn (by have := h.size; simp; omega) h2)⟩
  rw [List.length_append, List.map_append]
  exact hown
end
/-- Numbers laid into rows. -/
theorem putR_snoc {r : Rw} {a : Int} (h : ∀ q ∈ r, q.1 < a) (L : List Int) : putR r a L = r ++ [(a, L)] := by
  unfold putR
  have e1 : (r.filter fun p => decide (p.1 < a)) = r := List.filter_eq_self.2 fun q hq => decide_eq_true (h q hq)
  have e2 : (r.filter fun p => decide (a < p.1)) = [] := List.filter_eq_nil_iff.2 fun q hq => by have := h q hq; simp; omega
  rw [e1, e2]
theorem putR_mid {d r : Rw} {a : Int} {L0 : List Int} (h1 : ∀ q ∈ d, q.1 < a) (h2 : ∀ q ∈ r, a < q.1) (L : List Int) : putR (d ++ (a, L0) :: r) a L = d ++ (a, L) :: r := by
  unfold putR
  have e1 : (d.filter fun p => decide (p.1 < a)) = d := List.filter_eq_self.2 fun q hq => decide_eq_true (h1 q hq)
  have e2 : (d.filter fun p => decide (a < p.1)) = [] := List.filter_eq_nil_iff.2 fun q hq => by have := h1 q hq; simp; omega
  have e3 : (r.filter fun p => decide (p.1 < a)) = [] := List.filter_eq_nil_iff.2 fun q hq => by have := h2 q hq; simp; omega
  have e4 : (r.filter fun p => decide (a < p.1)) = r := List.filter_eq_self.2 fun q hq => decide_eq_true (h2 q hq)
  rw [List.filter_append, List.filter_append, List.filter_cons, List.filter_cons, e1, e2, e3, e4]
  simp
theorem lkR_none {r : Rw} {a : Int} (h : ∀ q ∈ r, q.1 = a → q.2 = []) : lkR r a = [] := by
  unfold lkR
  cases hf : r.find? fun p => decide (p.1 = a) with
  | none => rfl
  | some p =>
    have := List.find?_some hf
    exact h p (List.mem_of_find?_eq_some hf) (of_decide_eq_true this)
theorem setL_self {xs : List Int} (h : Inc xs) : setL xs = xs := inc_ext (setL_inc _) h fun y => setL_mem xs y
theorem bare_step {ks : List Int} (h : Inc ks) {k : Nat} {y : Int} (hy : ks[k]? = some y) : putR (bare (ks.take k)) y (setL (lkR (bare (ks.take k)) y ++ [])) = bare (ks.take (k + 1)) := by
  obtain ⟨h1, h2⟩ := List.getElem?_eq_some_iff.1 hy
  have hlt : ∀ q ∈ bare (ks.take k), q.1 < y := fun q hq => by
    obtain ⟨x, hx, rfl⟩ := List.mem_map.1 hq
    obtain ⟨j, hj, rfl⟩ := List.mem_iff_getElem.1 hx
    rw [List.length_take] at hj
    have := List.pairwise_iff_getElem.1 h j k (by omega) h1 (by omega)
    rw [h2] at this
    simpa using this
  rw [lkR_none fun q hq _ => by obtain ⟨x, _, rfl⟩ := List.mem_map.1 hq; rfl, List.append_nil, putR_snoc hlt, List.take_succ_eq_append_getElem h1, h2]
  unfold bare
  rw [List.map_append]
  rfl
theorem link_step {ks : List Int} (h : Inc ks) {k : Nat} {y : Int} (hy : ks[k]? = some y) {d : Rw} (hd : keysR d = ks.take k) {xs : List Int} (hx : Inc xs) : putR (d ++ bare (ks.drop k)) y (setL (lkR (d ++ bare (ks.drop k)) y ++ xs)) = (d ++ [(y, xs)]) ++ bare (ks.drop (k + 1)) := by
  obtain ⟨h1, h2⟩ := List.getElem?_eq_some_iff.1 hy
  have hlt : ∀ q ∈ d, q.1 < y := fun q hq => by
    have hm : q.1 ∈ ks.take k := by rw [← hd]; exact List.mem_map.2 ⟨q, hq, rfl⟩
    obtain ⟨j, hj, e⟩ := List.mem_iff_getElem.1 hm
    rw [List.length_take] at hj
    have := List.pairwise_iff_getElem.1 h j k (by omega) h1 (by omega)
    rw [h2] at this
    rw [← e]
    simpa using this
  have hgt : ∀ q ∈ bare (ks.drop (k + 1)), y < q.1 := fun q hq => by
    obtain ⟨x, hx, rfl⟩ := List.mem_map.1 hq
    obtain ⟨j, hj, rfl⟩ := List.mem_iff_getElem.1 hx
    rw [List.length_drop] at hj
    have := List.pairwise_iff_getElem.1 h k (k + 1 + j) h1 (by omega) (by omega)
    rw [h2] at this
    simpa using this
  have e : bare (ks.drop k) = (y, []) :: bare (ks.drop (k + 1)) := by rw [List.drop_eq_getElem_cons h1, h2]; rfl
  rw [lkR_none (r := d ++ bare (ks.drop k)) fun q hq hqy => by
    rcases List.mem_append.1 hq with hq | hq
    · have := hlt q hq; omega
    · obtain ⟨x, _, rfl⟩ := List.mem_map.1 hq; rfl]
  rw [e, putR_mid hlt hgt, List.nil_append, setL_self hx, List.append_assoc]
  rfl
/-- What list gives, its two results apart. -/
theorem ListPost.out {B g : Nat} {A : Option Addr} {n c a : Nat} {E : Err} {l : List Int} {w : World} {e : Ending} {w' : World} (h : ListPost B g A n c a E l w e w') : ∃ v ev, e = .returned (.tuple #[v, ev]) ∧ Below B w w' ∧ Asd g w w' ∧
    ((ev = .nilIface ∧ ∃ xs, w'.ownsRow w.heap.size 3 1 v xs.length (xs.map (Value.int .i64)) ∧ ((E = .nil ∧ okAt l a 65536 ∧ xs = lst l a ∧ rightO xs ∧ Rd w' B g A n c (nxtA l a) .nil) ∨ (xs = [] ∧ (E = .nil → ¬ okAt l a 65536) ∧ ∃ a' E', rdBad E' ∧ Rd w' B g A n c a' E'))) ∨
      ∃ gv cc t, (cc = 2 ∨ cc = 3) ∧ ev = .iface 104 (.pointer (some ⟨gv, 0, none⟩)) ∧ Blk w' gv 107 #[.int .i64 cc, .int .i64 0, .string t] ∧ E = .nil ∧ okAt l a 65536 ∧ ¬ rightO (lst l a) ∧ Rd w' B g A n c (nxtA l a) .nil) := by
  obtain ⟨h1, h2, h3⟩ := h
  rcases h3 with ⟨v, xs, rfl, h4, h5⟩ | ⟨gv, cc, t, h4, rfl, h5⟩
  · exact ⟨v, _, rfl, h1, h2, .inl ⟨rfl, xs, h4, h5⟩⟩
  · exact ⟨_, _, rfl, h1, h2, .inr ⟨gv, cc, t, h4, rfl, h5⟩⟩
end Go.Proofs.YtmonepclhbappaaGreatDoor
