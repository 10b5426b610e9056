/-
  Part 13 of the proof of OdagAdds: Box, OdW, OdX.
-/
import Derived.Test.YtmonepclhbappaaDoorOdagAddsM12
import Derived.Test.YtmonepclhbappaaDoorOdagAddsM3
import Derived.OwnWalkIn
import Derived.RangeFuncNested
import Derived.RangeFuncBound
import Derived.RangeFuncCalls
import Derived.RangeFuncLeaves
import Derived.Shelf.Abstract
import Derived.Shelf.RegionOpen
import Derived.TacticsInMore
import Derived.LoopNIn
import Derived.LoopIn
import Derived.Test.YtmonepclhbappaaDoorOdagAddsM10
import Derived.Test.YtmonepclhbappaaDoorOdagAddsM4
import Derived.Deep.RegionLaw
/-
  Boxes (variables that lie in blocks) and rows under what an iterator may turn.
-/
namespace Go.Proofs.YtmonepclhbappaaDoor
open Go.RowKit
set_option linter.unusedVariables false
theorem own_notNC2 {w : World} {b B size n : Nat} {e : TypeId} {v : Value} {xs : List Value} (h : w.ownsRow B e size v n xs) (hm : NC w b) : some b ≠ v.ownBlock := fun e1 => by
  obtain ⟨_, h2⟩ := h
  obtain ⟨o, h3, h4⟩ := hm
  rcases h2 with ⟨rfl, _⟩ | ⟨g', cap, cur, rfl, _, h5, _⟩
  · cases e1
  · cases e1
    rw [h3] at h5
    cases h5
    cases h4
section
variable {A B : World} {row : Option Nat}
abbrev NonCell (A : World) (row : Option Nat) : Prop := ∀ r, row = some r → ∃ o : Obj, A.heap[r]? = some o ∧ o.isCells = false
theorem blk_gb {g : Nat} {t : TypeId} {cs : Array Value} (h : Blk A g t cs) (hg : A.grownBy B row) (hr : NonCell A row) : Blk B g t cs := h.grown hg fun e => by
  obtain ⟨o, h1, h2⟩ := hr g e.symm
  unfold Blk at h
  rw [h] at h1
  cases h1
  cases h2
theorem sl_gb {n : Nat} {C : Option Addr} {xs : List Value} (h : Sl A 1 C n xs) (hg : A.grownBy B row) (hr : NonCell A row) : Sl B 1 C n xs := by
  refine ⟨h.1, fun hn => ?_⟩
  obtain ⟨b, off, rfl, h2⟩ := h.2 hn
  refine ⟨b, off, rfl, fun j v hj => ?_⟩
  have hc := h2 j v hj
  refine (World.cell?_of_block (w := A) (a := ⟨b, off + j, none⟩) (hg.block b (World.block_lt_of_cell? A _ hc) fun e => ?_)).trans hc
  obtain ⟨o, h3, h4⟩ := hr b e.symm
  exact NC.cell ⟨o, h3, h4⟩ hc rfl
theorem row_gb {t : Option Addr × Nat × List Int} (h : RowOK A t) (hg : A.grownBy B row) (hr : NonCell A row) : RowOK B t := ⟨sl_gb h.1 hg hr, h.2⟩
theorem own_gb {B0 n : Nat} {e : TypeId} {v : Value} {xs : List Value} (h : A.ownsRow B0 e 1 v n xs) (hg : A.grownBy B row) (hr : NonCell A row) : B.ownsRow B0 e 1 v n xs :=
  own_block h fun g hv => hg.block g (h.lt g hv).2 fun e1 => by
    obtain ⟨o, h3, h4⟩ := hr g e1.symm
    exact own_notNC2 h ⟨o, h3, h4⟩ hv.symm
theorem rows_gb {v : Value} {its : List (Option Addr × Nat × List Int)} (h : RowsOK A v its) (hg : A.grownBy B row) (hr : NonCell A row) : RowsOK B v its := fun t ht => ⟨row_gb (h t ht).1 hg hr, fun x hx => ⟨Nat.lt_of_lt_of_le ((h t ht).2 x hx).1 hg.size, ((h t ht).2 x hx).2⟩⟩
theorem bel_gb {n₀ : Nat} {w0 : World} (h : Below n₀ w0 A) (hn : n₀ ≤ w0.heap.size) (hg : A.grownBy B row) (hr : ∀ r, row = some r → n₀ ≤ r) : Below n₀ w0 B := h.grown hg (Nat.le_trans hn h.size) fun k e => hr k e
/-- What a law holds while a range over a function goes on, kept by what the iterator does. -/
theorem ownFrom_of {β : Type} {n : Nat} {I : β → World → Prop} (h : ∀ s A B row, I s A → A.grownBy B row → NonCell A row → (∀ r, row = some r → n ≤ r) → I s B) : OwnFrom n I := fun s A B row hs hg hr => h s A B row hs hg (fun r e => (hr r e).2) (fun r e => (hr r e).1)
theorem ko_belowE {W W' : World} (hb : Below W.heap.size W W') : KeepsOthers W W' := ⟨hb.size, fun k o hk _ => (hb.block k (Array.getElem?_eq_some_iff.1 hk).1).trans hk⟩
/-- A row of ints behind a store into another block. -/
theorem sl_far {W : World} {n : Nat} {C : Option Addr} {xs : List Value} (h : Sl W 1 C n xs) {p : Addr} (hp : ∀ a : Addr, C = some a → a.block ≠ p.block) (u : Value) : Sl (W.setCell p u) 1 C n xs := by
  refine ⟨h.1, fun hn => ?_⟩
  obtain ⟨b, off, rfl, h2⟩ := h.2 hn
  refine ⟨b, off, rfl, fun j v hj => ?_⟩
  have hc := h2 j v hj
  exact (World.cell?_of_block (w := W) (a := ⟨b, off + j, none⟩) (Below.heap_setCell W p u b (hp _ rfl))).trans hc
end
/-- append in a fence: what the row was is known, what changes is that row alone. -/
theorem wpListIn_cat_at {F : Fence} {k : Nat} {P : Program} {ops : Array Oper} {rest : List Oper} {o : Oper} {a : Act} {Q : Exit → Act → World → Prop} {t e : TypeId} {z : Value} {size bytes : Nat} (E : Elem P t e z size bytes) {B : Nat} {W : World} (s x : Operand)
    (hgd : o.guard = none) (ho : o.op = .call { callee := .builtin .append, args := #[s, x], argTypes := #[t, t] })
    {v : Value} {n : Nat} {xs : List Value} (hown : W.ownsRow B e size v n xs) (hB : B ≤ W.heap.size)
    {A : Option Addr} {m c : Nat} {ys : List Value} (hy : Sl W size A m ys)
    (hs : a.eval s = v) (hx : a.eval x = .slice A m c) (h1 : ∀ u ∈ ys, u.oneCell' = true)
    (hlim : (n + m) * bytes ≤ lim) (hlim' : n + m ≤ lim)
    (h : ∀ v' w', w'.ownsRow B e size v' (n + m) (xs ++ ys) → Gr W w' v v' → wpListIn F k P ops Q rest (a.put o.dst v') w') : wpListIn F k P ops Q (o :: rest) a W := by
  obtain ⟨v', w', hr, h2, h3⟩ := run_cat_at (P := P) (ty := o.type) (c := c) E hown hB hy h1 hlim hlim'
  refine wpListIn_plain hgd fun K hK' => ?_
  unfold Oper.wpIn
  refine ⟨?_, ?_⟩
  · simp [Oper.about, ho, resolve, Target.leads, Sem.run_pure]
  · rw [Oper.semAt_plain F _ _ (by rw [ho]; intro c hc'; cases hc')]
    simp [execOp, ho, resolve, invoke, builtin, hs, hx, hr, Result.andThen]
    exact hK' _ _ (h v' w' h2 h3)
theorem KT.cat {n₀ n₂ B n : Nat} {W W' : World} {v v' : Value} {xs : List Value} (hown : W.ownsRow B 22 1 v n xs) (hg : Gr W W' v v') (h0 : n₀ ≤ W.heap.size) (hB : n₀ ≤ B) : KT n₀ n₂ W W' := by
  refine ⟨hg.below h0 fun k hk => Nat.le_trans hB (hown.lt k hk).1, fun k cs t fr _ ht hk => (hg.g.block k (Array.getElem?_eq_some_iff.1 hk).1 fun e => ?_).trans hk⟩
  rcases hown.2 with ⟨rfl, _⟩ | ⟨g', cap, cur, rfl, _, h5, _⟩
  · simp [Value.ownBlock] at e
  · obtain rfl : k = g' := by simpa [Value.ownBlock] using e
    rw [hk] at h5
    injection h5 with h5
    injection h5 with _ h6
    exact ht h6
theorem ko_cat {B n size : Nat} {e : TypeId} {W W' : World} {v v' : Value} {xs : List Value} (hown : W.ownsRow B e size v n xs) (hg : Gr W W' v v') : KeepsOthers W W' :=
  KeepsOthers.of_grownBy hg.g fun j o ej hj => by
    rcases hown.2 with ⟨rfl, _⟩ | ⟨g', cap, cur, rfl, _, h5, _⟩
    · simp [Value.ownBlock] at ej
    · obtain rfl : g' = j := by simpa [Value.ownBlock] using ej
      rw [h5] at hj
      injection hj with hj
      rw [← hj]
      rfl
end Go.Proofs.YtmonepclhbappaaDoor
/-
  Odags: walk: the paths that begin so come one by one.
-/
namespace Go.Proofs.YtmonepclhbappaaDoor
open Go.RowKit Go.Shelf Go.Maps
attribute [local go_sem] Oper.semAt_some
set_option maxRecDepth 100000
set_option linter.unusedVariables false

section
variable {P : Program} {ops : Array Oper} {rest : List Oper} {o : Oper} {a : Act} {Q : Exit → Act → World → Prop}
theorem wpList_fullQ {t e : TypeId} {z : Value} {size bytes : Nat} (E : Elem P t e z size bytes) {W : World} (s x : Operand)
    (hgd : o.guard = none) (ho : o.op = .call { callee := .builtin .append, args := #[s, x], argTypes := #[t, t] })
    {A : Option Addr} {n : Nat} {xs : List Value} (hxs : Sl W size A n xs) (hA : A = none → n = 0)
    {b off m c : Nat} {ys : List Value} (hy : Sl W size (some ⟨b, off, none⟩) m ys) (hm : 0 < m)
    (hs : a.eval s = .slice A n n) (hx : a.eval x = .slice (some ⟨b, off, none⟩) m c) (h1 : ∀ u ∈ ys, u.oneCell' = true)
    (hlim : (n + m) * bytes ≤ lim) (hlim' : n + m ≤ lim)
    (h : ∀ v' w', w'.ownsRow W.heap.size e size v' (n + m) (xs ++ ys) → Below W.heap.size W w' → wpList P ops Q rest (a.put o.dst v') w') : wpList P ops Q (o :: rest) a W := by
  obtain ⟨v', w', hr, h2, h3⟩ := run_full (P := P) (ty := o.type) (c := c) E hxs hA hy hm h1 hlim hlim'
  refine wpList_plain hgd fun K hK => ?_
  unfold Oper.wp execOp
  simp only [ho, resolve, invoke, builtin, Sem.run_bind, Sem.run_pure, Result.andThen_ok, List.map_toArray, List.map_cons, List.map_nil, hs, hx, hr]
  exact hK _ _ (h v' w' h2 h3)
theorem wpListIn_fullQ {F : Fence} {k : Nat} {t e : TypeId} {z : Value} {size bytes : Nat} (E : Elem P t e z size bytes) {W : World} (s x : Operand)
    (hgd : o.guard = none) (ho : o.op = .call { callee := .builtin .append, args := #[s, x], argTypes := #[t, t] })
    {A : Option Addr} {n : Nat} {xs : List Value} (hxs : Sl W size A n xs) (hA : A = none → n = 0)
    {b off m c : Nat} {ys : List Value} (hy : Sl W size (some ⟨b, off, none⟩) m ys) (hm : 0 < m)
    (hs : a.eval s = .slice A n n) (hx : a.eval x = .slice (some ⟨b, off, none⟩) m c) (h1 : ∀ u ∈ ys, u.oneCell' = true)
    (hlim : (n + m) * bytes ≤ lim) (hlim' : n + m ≤ lim)
    (h : ∀ v' w', w'.ownsRow W.heap.size e size v' (n + m) (xs ++ ys) → Below W.heap.size W w' → wpListIn F k P ops Q rest (a.put o.dst v') w') : wpListIn F k P ops Q (o :: rest) a W := by
  obtain ⟨v', w', hr, h2, h3⟩ := run_full (P := P) (ty := o.type) (c := c) E hxs hA hy hm h1 hlim hlim'
  refine wpListIn_plain hgd fun K hK' => ?_
  unfold Oper.wpIn
  refine ⟨?_, ?_⟩
  · simp [Oper.about, ho, resolve, Target.leads, Sem.run_pure]
  · rw [Oper.semAt_plain F _ _ (by rw [ho]; intro c hc'; cases hc')]
    simp [execOp, ho, resolve, invoke, builtin, hs, hx, hr, Result.andThen]
    exact hK' _ _ (h v' w' h2 h3)
end

/-- How walk ends: all have come, or a round has said 'no more'. -/
def WalkEnd (n₀ n₂ cnt : Nat) (J Jx : List RowE → World → Prop) (pre : List RowE) (W : World) (e : Ending) (W' : World) : Prop :=
  ∃ r, e = .returned (.bool r) ∧ ((r = true ∧ (∃ ys : List RowE, ys.length = cnt ∧ J (pre ++ ys) W') ∧ KT n₀ n₂ W W') ∨ (r = false ∧ ∃ ys : List RowE, Jx (pre ++ ys) W'))
def AsksT (l n₀ n₁ n₂ : Nat) (G : List (List Int)) (J Jx : List RowE → World → Prop) : Prop :=
  ∀ (m : Nat) (pre : List RowE) (x : RowE) (W1 : World), J pre W1 → KnE n₁ G pre x W1 → pre.length < G.length → YieldAt Fence.wide m Tryd.prog l #[rv x] W1 fun e W' =>
    (e = .returned (.bool true) ∧ J (pre ++ [x]) W' ∧ KT n₀ n₂ W1 W') ∨ (e = .returned (.bool false) ∧ Jx (pre ++ [x]) W')
def WalkOK (l n₀ n₁ n₂ p : Nat) (w0 : World) (od : List Rw) (G : List (List Int)) (J Jx : List RowE → World → Prop) (d : Nat) : Prop :=
  ∀ (P L : List Int) (A B : Option Addr) (a b m : Nat) (pre : List RowE) (W : World), P.length + 1 + d = od.length → L.length = m → m ≤ 1000000 → SnT n₀ n₂ W A P.length (P.map (Value.int .i64)) → P.length ≤ a → (A = none → P.length = 0) →
    (0 < m → SnT n₀ n₂ W B m (L.map (Value.int .i64))) → Below n₀ w0 W → n₁ ≤ W.heap.size → (∀ x ∈ L, i64ok x) → (∀ (i : Nat) (q : List Int), (L.flatMap (tls (od.drop P.length)))[i]? = some q → G[pre.length + i]? = some (P ++ q)) → pre.length + (L.flatMap (tls (od.drop P.length))).length ≤ G.length → J pre W →
    Calls Tryd.prog 61 #[.pointer (some ⟨p, 0, none⟩), .slice A P.length a, .slice B m b, .func (.yield l) #[] #[]] W (WalkEnd n₀ n₂ (L.flatMap (tls (od.drop P.length))).length J Jx pre W)

theorem flatW_len1 {f : Int → List (List Int)} {L : List Int} (h : ∀ x ∈ L, (f x).length = 1) : (L.flatMap f).length = L.length := by
  induction L with
  | nil => rfl
  | cons x L ih => rw [List.flatMap_cons, List.length_append, h x (List.mem_cons_self ..), ih (fun y hy => h y (List.mem_cons_of_mem _ hy)), List.length_cons]; omega
theorem flatW_at {f : Int → List (List Int)} {L : List Int} {k : Nat} {x : Int} (hx : L[k]? = some x) {i : Nat} {q : List Int} (hq : (f x)[i]? = some q) : (L.flatMap f)[((L.take k).flatMap f).length + i]? = some q := by
  obtain ⟨h1, h2⟩ := List.getElem?_eq_some_iff.1 hx
  have e : L.flatMap f = (L.take k).flatMap f ++ (f x ++ (L.drop (k + 1)).flatMap f) := by
    conv => lhs; rw [← List.take_append_drop k L, List.drop_eq_getElem_cons h1, h2]
    rw [List.flatMap_append, List.flatMap_cons]
  rw [e, List.getElem?_append_right (by omega), Nat.add_sub_cancel_left, List.getElem?_append_left (List.getElem?_eq_some_iff.1 hq).1]
  exact hq
theorem flatW_take {f : Int → List (List Int)} {L : List Int} {k : Nat} {x : Int} (hx : L[k]? = some x) : ((L.take (k + 1)).flatMap f).length = ((L.take k).flatMap f).length + (f x).length := by
  obtain ⟨h1, h2⟩ := List.getElem?_eq_some_iff.1 hx
  rw [List.take_succ_eq_append_getElem h1, h2, List.flatMap_append, List.length_append]
  simp
theorem flatW_part {f : Int → List (List Int)} {L : List Int} (k : Nat) : ((L.take k).flatMap f).length ≤ (L.flatMap f).length := by
  conv => rhs; rw [← List.take_append_drop k L]
  rw [List.flatMap_append, List.length_append]
  omega

set_option maxHeartbeats 16000000 in
theorem walk_leaf {l n₀ n₁ n₂ p : Nat} {w0 : World} {od : List Rw} {G : List (List Int)} {J Jx : List RowE → World → Prop} (hod : OdM w0 p od) (hn0 : w0.heap.size = n₀) (hn01 : n₀ ≤ n₁) (hn21 : n₂ ≤ n₁) (hlen : od.length ≤ 100) (hJ : ∀ s A B, J s A → A.grownBy B none → J s B) (hY : AsksT l n₀ n₁ n₂ G J Jx) : WalkOK l n₀ n₁ n₂ p w0 od G J Jx 0 := by
  intro P L A B a b m pre W hPl hL hm hA hPa hA0 hB hbW hn1 hLx hG hN hJ0
  have HOd := Lib.hid hod
  have HJ := Lib.hid hJ
  have HY := Lib.hid hY
  have HA := Lib.hid hA
  have HA0 := Lib.hid hA0
  have HB := Lib.hid hB
  have HbW := Lib.hid hbW
  have HG := Lib.hid hG
  have HN := Lib.hid hN
  have HJ0 := Lib.hid hJ0
  have HL := Lib.hid hL
  have HN0 := Lib.hid hn0
  have HN1 := Lib.hid hn1
  have HN01 := Lib.hid (And.intro hn01 hn21)
  have HT1 := Lib.hid (show ∀ x, tls (od.drop P.length) x = [[x]] from fun x => tls_last (by omega) x)
  have HCnt := Lib.hid (show ∀ k, k ≤ m → ((L.take k).flatMap (tls (od.drop P.length))).length = k from fun k hk => by rw [flatW_len1 (fun x _ => by rw [HT1.out]; rfl), List.length_take, hL]; omega)
  have HCa := Lib.hid (show (L.flatMap (tls (od.drop P.length))).length = m from by rw [flatW_len1 (fun x _ => by rw [HT1.out]; rfl), hL])
  obtain ⟨cnt, hcnt⟩ : ∃ cnt, cnt = (L.flatMap (tls (od.drop P.length))).length := ⟨_, rfl⟩
  rw [← hcnt] at HCa ⊢
  have HCn := Lib.hid hcnt
  clear hcnt
  have HPl := Lib.hid hPl
  have hp8 : P.length ≤ 100 := by omega
  clear hPl hod hJ hY hA hA0 hB hbW hG hN hJ0 hL hn0 hn1 hn01 hn21 hLx
  refine (callsIn_wide (n := 3)).1 ?_
  refine callsIn_of_wp Tryd.func61 rfl trivial ?_ rfl
  simp only [Tryd.ntmps61, List.size_toArray, List.length_cons, List.length_nil, Nat.reduceAdd, Nat.reduceSub, Array.replicate_succ, Array.replicate_zero, List.push_toArray, List.append_toArray, List.nil_append, List.cons_append]
  gi_wp2
  gi_loopw [14] (fun iv wr => ∃ (k : Nat) (ys : List RowE), k ≤ m ∧ iv = .int .i64 (k : Int) ∧ Hid (ys.length = k) ∧ Hid (J (pre ++ ys) wr) ∧ Hid (KT n₀ n₂ W wr)) (fun iv _ => m - (intOf iv).toNat)
  case atStart => exact ⟨0, [], Nat.zero_le _, rfl, Lib.hid rfl, Lib.hid (by rw [List.append_nil]; exact HJ0.out), Lib.hid (KT.refl _ _ _)⟩
  case round =>
    obtain ⟨k, ys, hk, rfl, HYs, HJi, HKi⟩ := hrel
    by_cases hkm : k < m
    · have hkm' : (k : Int) < (m : Int) := by omega
      obtain ⟨x, hx⟩ : ∃ x, L[k]? = some x := ⟨_, List.getElem?_eq_getElem (by rw [HL.out]; exact hkm)⟩
      have hBm := HB.out (by omega)
      obtain ⟨bb, off, rfl, _⟩ := hBm.1.at_ (show 0 < m by omega)
      have c1 := (hBm.keep HKi.out).1.again hkm (show (L.map (Value.int .i64))[k]? = some (.int .i64 x) by rw [List.getElem?_map, hx]; rfl)
      have hbr := HbW.out.trans HKi.out.1
      have HX := Lib.hid hx
      have HBr := Lib.hid hbr
      have hsz : n₀ ≤ wr.heap.size ∧ n₁ ≤ wr.heap.size := ⟨by have := hbr.size; have := HN0.out; omega, Nat.le_trans HN1.out HKi.out.1.size⟩
      have HSz := Lib.hid hsz
      obtain ⟨R, on, oc, bs, hblk, hon, _⟩ := HOd.out.keep (show Below w0.heap.size w0 wr by rw [HN0.out]; exact hbr)
      have co := hblk.cell 0
      simp at co
      have HOn := Lib.hid hon
      have HBo := Lib.hid hblk
      have HAr := Lib.hid (HA.out.keep HKi.out).1
      have hpn : (P.length : Int) + 1 = (on : Int) := by have := HPl.out; omega
      have hpn2 : (((P.length : Int) + 1) == (on : Int)) = true := by simp; omega
      have HCl := Lib.hid (show ∀ (w5 : World) (g5 c5 : Nat), Below wr.heap.size wr w5 → Sl w5 1 (some ⟨g5, 0, none⟩) (P.length + 1) ((P ++ [x]).map (Value.int .i64)) → Calls Tryd.prog 76 #[.slice (some ⟨g5, 0, none⟩) (P.length + 1) c5] w5 (fun e W1 => ∃ C c, e = .returned (.slice C (P.length + 1) c) ∧ KT n₀ n₂ wr W1 ∧ YieldAt Fence.wide 2 Tryd.prog l #[.slice C (P.length + 1) c] W1 fun e W' =>
        (e = .returned (.bool true) ∧ J (pre ++ ys ++ [(C, c, P ++ [x])]) W' ∧ KT n₀ n₂ W1 W') ∨ (e = .returned (.bool false) ∧ Jx (pre ++ ys ++ [(C, c, P ++ [x])]) W')) from fun w5 g5 c5 hb5 hs5 => by
          have hl1 : (P ++ [x]).length = P.length + 1 := by simp
          refine (CloneI_own (P ++ [x]) (some ⟨g5, 0, none⟩) (P.length + 1) c5 w5 hl1 (by omega) hs5).mono ?_
          rintro e W1 ⟨v, rfl, hown, hb⟩
          obtain ⟨C, c, rfl, hs⟩ := Sl.own hown
          have hbb := hb5.andThen hb
          refine ⟨C, c, rfl, KT.of_below hbb HSz.out.1, ?_⟩
          have hg := HG.out (((L.take k).flatMap (tls (od.drop P.length))).length + 0) [x] (flatW_at HX.out (by rw [HT1.out]; rfl))
          rw [HCnt.out k (by omega), Nat.add_zero] at hg
          have h := HY.out 2 (pre ++ ys) (C, c, P ++ [x]) W1 (HJ.out _ _ _ HJi.out (gb_below hbb none)) ⟨?_, by rw [List.length_append, HYs.out]; exact hg⟩ (by have := HN.out; rw [← HCn.out, HCa.out] at this; rw [List.length_append, HYs.out]; omega)
          · simp only [rv, hl1] at h
            exact h
          · simp only [rv, hl1]
            exact own_mono hown (Nat.le_trans HSz.out.2 hb5.size))
      have HC1 := Lib.hid (show ∀ V, Below wr.heap.size wr V → V.cell? ⟨p, 0, none⟩ = some (.slice R on oc) from fun V hV => (hV.cell (p := ⟨p, 0, none⟩) (World.block_lt_of_cell? wr _ co)).trans co)
      clear hx hbr hsz hblk hon hBm
      gi_wp2_with (first
        | ((try refine ⟨trivial, ?_⟩); (try refine ⟨fun h => (by cases h), ?_⟩); gi_at_call 91; refine (callsIn_wide.2 (Clip_any A P.length a _ hPa)).mono ?_; rintro e w2 ⟨rfl, rfl⟩)
        | ((try refine ⟨trivial, ?_⟩); (try refine ⟨fun h => (by cases h), ?_⟩); gi_at_call 76; refine (callsIn_wide.2 (HCl.out w5 g5 c5 HB5.out HS5.out)).mono ?_; clear HCl; rintro e W1 ⟨C, c, rfl, hkt, fn, tmps, assign, body, hy, hR⟩; have HKt := Lib.hid hkt; have HRr := Lib.hid hR; clear hkt hR)
        | (gi_at_builtin; refine wpListIn_fullQ elemInt _ _ rfl rfl (HAr.out.alloc _) HA0.out (Sl.newAt wr _ _ 1 rfl) (by omega) rfl rfl (by simp [Value.oneCell']) (by unfold lim; omega) (by unfold lim; omega) ?_; intro v5 w5 hown5 hb5; obtain ⟨g5, c5, rfl, _⟩ := own_form hown5 (by omega); have hbb5 := (bel_al (Below.refl wr.heap.size wr) (.cells #[.int .i64 x] 3)).andThen hb5; have co5 := HC1.out w5 hbb5; have HB5 := Lib.hid hbb5; have HS5 := Lib.hid (show Sl w5 1 (some ⟨g5, 0, none⟩) (P.length + 1) ((P ++ [x]).map (Value.int .i64)) from by rw [List.map_append]; exact Sl.of_own hown5); clear hown5 hb5 hbb5)
        | ((try refine ⟨fun h => (by cases h), ?_⟩); refine HRr.out.mono ?_; clear HRr; rintro e W2 (⟨rfl, hJ2, hk2⟩ | ⟨rfl, hx2⟩)))
      · have HJ2 := Lib.hid hJ2
        have HK2 := Lib.hid hk2
        clear hJ2 hk2 hy
        go_roundw
        case rel => exact ⟨k + 1, ys ++ [(C, c, P ++ [x])], by omega, by go_num, Lib.hid (by rw [List.length_append, HYs.out]; rfl), Lib.hid (by rw [← List.append_assoc]; exact HJ2.out), Lib.hid ((HKi.out.trans HKt.out).trans HK2.out)⟩
        case measure => simp [intOf]; omega
      · go_ret
        exact ⟨false, rfl, .inr ⟨rfl, ys ++ [(C, c, P ++ [x])], by rw [← List.append_assoc]; exact hx2⟩⟩
    · obtain rfl : k = m := by omega
      have hkm' : ¬ (k : Int) < (k : Int) := by omega
      gi_wp2
      go_ret
      exact ⟨true, rfl, .inl ⟨rfl, ⟨ys, by rw [HYs.out, HCa.out], HJi.out⟩, HKi.out⟩⟩
/-- 'r[a]', of a row known in an earlier world. -/
theorem wpList_lookR0 {ops : Array Oper} {rest : List Oper} {o : Oper} {a : Act} {Q : Exit → Act → World → Prop} (w0 w : World) (hg : o.guard = none) (m x : Operand) (hop : o.op = Op.lookup 101 m x false) (b : Nat) (r : Rw) (hm : a.eval m = .map (some b)) (hown : MRow w0 b r) (hb : Below w0.heap.size w0 w) (y : Int) (hx : a.eval x = .int .i64 y) (h1 : -9223372036854775808 ≤ y) (h2 : y ≤ 9223372036854775807)
    (hK : ∀ (A : Option Addr) (c : Nat) (l : List Int), RowOK w0 (A, c, l) → l = lkR r y → wpList Tryd.prog ops Q rest (a.put o.dst (.slice A l.length c)) w) :
    wpList Tryd.prog ops Q (o :: rest) a w := by
  obtain ⟨me, rfl, hM, hR⟩ := hown
  obtain ⟨A, c, l, h3, h4, h5⟩ := MRow.look hR y
  refine wpList_lookI w hg m x _ hop 22 kInt Tryd.underlying101 (.slice none 0 0) (by kernel_rfl) b _ hm (MapI.keep hM hb) y hx h1 h2 ?_
  rw [h5]
  exact hK A c l h3 h4

set_option maxHeartbeats 16000000 in
theorem walk_step {l n₀ n₁ n₂ p : Nat} {w0 : World} {od : List Rw} {G : List (List Int)} {J Jx : List RowE → World → Prop} (hod : OdM w0 p od) (hn0 : w0.heap.size = n₀) (hn01 : n₀ ≤ n₁) (hn21 : n₂ ≤ n₁) (hlen : od.length ≤ 100) (hOB : OdB 60000 od) (hNu : Nums od) (hJ : ∀ s A B, J s A → A.grownBy B none → J s B) {d : Nat} (ih : WalkOK l n₀ n₁ n₂ p w0 od G J Jx d) : WalkOK l n₀ n₁ n₂ p w0 od G J Jx (d + 1) := by
  intro P L A B a b m pre W hPl hL hm hA hPa hA0 hB hbW hn1 hLx hG hN hJ0
  obtain ⟨rb, ro, on, oc, mb, hon, co0, hoc, co1, hmr⟩ := hod.row (show P.length < od.length by omega)
  have HC0 := Lib.hid (show ∀ V, Below n₀ w0 V → V.cell? ⟨p, 0, none⟩ = some (.slice (some ⟨rb, ro, none⟩) on oc) ∧ V.cell? ⟨rb, ro + P.length, none⟩ = some (.map (some mb)) from fun V hV => by
    have hV' : Below w0.heap.size w0 V := by rw [hn0]; exact hV
    exact ⟨(hV'.cell (p := ⟨p, 0, none⟩) (World.block_lt_of_cell? w0 _ co0)).trans co0, (hV'.cell (p := ⟨rb, ro + P.length, none⟩) (World.block_lt_of_cell? w0 _ co1)).trans co1⟩)
  have HIH := Lib.hid ih
  have HJ := Lib.hid hJ
  have HA := Lib.hid hA
  have HA0 := Lib.hid hA0
  have HB := Lib.hid hB
  have HbW := Lib.hid hbW
  have HG := Lib.hid hG
  have HN := Lib.hid hN
  have HJ0 := Lib.hid hJ0
  have HL := Lib.hid hL
  have HLx := Lib.hid hLx
  have HN0 := Lib.hid hn0
  have HN1 := Lib.hid hn1
  have HN01 := Lib.hid (And.intro hn01 hn21)
  have HMr := Lib.hid hmr
  have HNu := Lib.hid hNu
  have HOB := Lib.hid hOB
  have HTs := Lib.hid (show ∀ x, tls (od.drop P.length) x = ((lkR (od.getD P.length []) x).flatMap (tls (od.drop (P.length + 1)))).map (x :: ·) from fun x => tls_step (by omega) x)
  obtain ⟨cnt, hcnt⟩ : ∃ cnt, cnt = (L.flatMap (tls (od.drop P.length))).length := ⟨_, rfl⟩
  rw [← hcnt]
  have HCn := Lib.hid hcnt
  have HPl := Lib.hid hPl
  have HOn := Lib.hid hon
  have hp8 : P.length ≤ 100 := by omega
  have hne : (((P.length : Int) + 1) == (on : Int)) = false := by simp; omega
  have hlt : (P.length : Int) < (on : Int) := by omega
  have hp0 : (0 : Int) ≤ (P.length : Int) := by omega
  clear hPl hod hJ hA hA0 hB hbW hG hN hJ0 hL hn0 hn1 hn01 hn21 hLx ih co0 co1 hon hoc hmr hcnt hNu hOB hlen
  go_enter Tryd.func61, Tryd.ntmps61
  go_wp2_with fail
  go_loopw [14] (fun iv wr => ∃ (k : Nat) (ys : List RowE), k ≤ m ∧ iv = .int .i64 (k : Int) ∧ Hid (ys.length = ((L.take k).flatMap (tls (od.drop P.length))).length) ∧ Hid (J (pre ++ ys) wr) ∧ Hid (KT n₀ n₂ W wr)) (fun iv _ => m - (intOf iv).toNat)
  case atStart => exact ⟨0, [], Nat.zero_le _, rfl, Lib.hid (by simp), Lib.hid (by rw [List.append_nil]; exact HJ0.out), Lib.hid (KT.refl _ _ _)⟩
  case round =>
    obtain ⟨k, ys, hk, rfl, HYs, HJi, HKi⟩ := hrel
    by_cases hkm : k < m
    · have hkm' : (k : Int) < (m : Int) := by omega
      obtain ⟨x, hx⟩ : ∃ x, L[k]? = some x := ⟨_, List.getElem?_eq_getElem (by rw [HL.out]; exact hkm)⟩
      have hBm := HB.out (by omega)
      obtain ⟨bb, off, rfl, _⟩ := hBm.1.at_ (show 0 < m by omega)
      have c1 := (hBm.keep HKi.out).1.again hkm (show (L.map (Value.int .i64))[k]? = some (.int .i64 x) by rw [List.getElem?_map, hx]; rfl)
      have hbr := HbW.out.trans HKi.out.1
      have HX := Lib.hid hx
      have HXx := Lib.hid (HLx.out x (List.mem_of_getElem? hx))
      have HBr := Lib.hid hbr
      have HSz := Lib.hid (show n₀ ≤ wr.heap.size ∧ n₁ ≤ wr.heap.size from ⟨by have := hbr.size; have := HN0.out; omega, Nat.le_trans HN1.out HKi.out.1.size⟩)
      have HAr := Lib.hid (HA.out.keep HKi.out).1
      have HIk := Lib.hid (show ∀ (w5 : World) (g5 c5 : Nat) (A2 : Option Addr) (c2 : Nat) (l2 : List Int), Below wr.heap.size wr w5 → w5.ownsRow (wr.alloc (.cells #[.int .i64 x] 3)).heap.size 3 1 (.slice (some ⟨g5, 0, none⟩) (P.length + 1) c5) (P.length + 1) (P.map (Value.int .i64) ++ [.int .i64 x]) → RowOK w0 (A2, c2, l2) → l2 = lkR (od.getD P.length []) x →
          Calls Tryd.prog 61 #[.pointer (some ⟨p, 0, none⟩), .slice (some ⟨g5, 0, none⟩) (P.length + 1) c5, .slice A2 l2.length c2, .func (.yield l) #[] #[]] w5 (WalkEnd n₀ n₂ (tls (od.drop P.length) x).length J Jx (pre ++ ys) w5) from fun w5 g5 c5 A2 c2 l2 hb5 hown hrow hl2 => by
        have hl1 : (P ++ [x]).length = P.length + 1 := by simp
        have hpd : P.length < od.length := by have := HPl.out; omega
        have hbw5 : Below n₀ w0 w5 := HBr.out.trans (hb5.mono HSz.out.1)
        have hs5 : SnT n₀ n₂ w5 (some ⟨g5, 0, none⟩) (P.length + 1) ((P ++ [x]).map (Value.int .i64)) := by
          rw [List.map_append]
          exact SnT.of_own hown (by have := HSz.out.2; have := HN01.out.2; simp; omega)
        have hlenx : (tls (od.drop P.length) x).length = (l2.flatMap (tls (od.drop (P ++ [x]).length))).length := by rw [HTs.out, List.length_map, hl1, hl2]
        have h := HIH.out (P ++ [x]) l2 (some ⟨g5, 0, none⟩) A2 c5 c2 l2.length (pre ++ ys) w5 (by rw [hl1]; have := HPl.out; omega) rfl (by rw [hl2]; exact Nat.le_trans (lkR_B (HOB.out _ (getD_memO hpd)) x) (by omega)) (by rw [hl1]; exact hs5) (by rw [hl1]; exact (own_cap hown).1) (fun e => by cases e)
          (fun hpos => ⟨(hrow.1.keep (by rw [HN0.out]; exact hbw5)), fun y hy => by
            obtain ⟨b9, o9, e9, hc9⟩ := hrow.1.at_ (show 0 < l2.length from hpos)
            simp only at e9
            rw [hy] at e9
            cases e9
            obtain ⟨u, _, hu⟩ := hc9 0 (by omega)
            exact .inl (by have := World.block_lt_of_cell? w0 _ hu; rw [HN0.out] at this; exact this)⟩) hbw5 (Nat.le_trans HSz.out.2 hb5.size) (fun z hz => HNu.out.link hpd (by rw [hl2] at hz; exact hz)) (fun i q hq => ?_) ?_ (HJ.out _ _ _ HJi.out (gb_below hb5 none))
        · rw [hl1] at h
          rw [hlenx, hl1]
          exact h
        · have hq2 : (tls (od.drop P.length) x)[i]? = some (x :: q) := by
            rw [HTs.out, List.getElem?_map, ← hl2]
            rw [hl1] at hq
            rw [hq]
            rfl
          have h2 := HG.out _ _ (flatW_at HX.out hq2)
          rw [List.length_append, HYs.out, Nat.add_assoc, h2]
          simp
        · rw [← hlenx, List.length_append, HYs.out]
          have h3 := flatW_take (f := tls (od.drop P.length)) HX.out
          have h4 := flatW_part (f := tls (od.drop P.length)) (L := L) (k + 1)
          have h5 := HN.out
          omega)
      have HC1 := Lib.hid (show ∀ V, Below wr.heap.size wr V → V.cell? ⟨p, 0, none⟩ = some (.slice (some ⟨rb, ro, none⟩) on oc) ∧ V.cell? ⟨rb, ro + P.length, none⟩ = some (.map (some mb)) ∧ Below w0.heap.size w0 V from fun V hV => by
        have h9 := HBr.out.trans (hV.mono HSz.out.1)
        exact ⟨(HC0.out V h9).1, (HC0.out V h9).2, by rw [HN0.out]; exact h9⟩)
      clear hx hbr hBm
      go_wp2_with (first
        | (go_at_call 91; refine (Clip_any A P.length a _ hPa).mono ?_; rintro e w2 ⟨rfl, rfl⟩)
        | (go_at_call 61; refine (HIk.out w5 g5 c5 A2 c2 l2 HB5.out HO5.out HR2.out HE2.out).mono ?_; clear HIk; rintro e w9 ⟨r, rfl, (⟨rfl, ⟨ys2, hy2, hj2⟩, hk2⟩ | ⟨rfl, ys2, hj2⟩)⟩)
        | (at_lookup; refine wpList_lookR0 w0 _ rfl _ _ rfl mb _ (by go_simp) HMr.out HW5.out x (by go_simp) HXx.out.1 HXx.out.2 ?_; intro A2 c2 l2 hr2 he2; have HR2 := Lib.hid hr2; have HE2 := Lib.hid he2; clear hr2 he2)
        | (at_builtin; refine wpList_fullQ elemInt _ _ rfl rfl (HAr.out.alloc _) HA0.out (Sl.newAt wr _ _ 1 rfl) (by omega) rfl rfl (by simp [Value.oneCell']) (by unfold lim; omega) (by unfold lim; omega) ?_; intro v5 w5 hown5 hb5; obtain ⟨g5, c5, rfl, _⟩ := own_form hown5 (by omega); have hbb5 := (bel_al (Below.refl wr.heap.size wr) (.cells #[.int .i64 x] 3)).andThen hb5; obtain ⟨co5, cm5, hw5⟩ := HC1.out w5 hbb5; have HW5 := Lib.hid hw5; have HB5 := Lib.hid hbb5; have HO5 := Lib.hid hown5; clear hown5 hb5 hbb5 hw5))
      · have HY2 := Lib.hid hy2
        have HJ2 := Lib.hid hj2
        have HK2 := Lib.hid hk2
        clear hy2 hj2 hk2
        go_roundw
        case rel => exact ⟨k + 1, ys ++ ys2, by omega, by go_num, Lib.hid (by rw [List.length_append, HYs.out, HY2.out, flatW_take HX.out]), Lib.hid (by rw [← List.append_assoc]; exact HJ2.out), Lib.hid (HKi.out.trans ((KT.of_below HB5.out HSz.out.1).trans HK2.out))⟩
        case measure => simp [intOf]; omega
      · have HJ2 := Lib.hid hj2
        clear hj2
        go_ret
        exact ⟨false, rfl, .inr ⟨rfl, ys ++ ys2, by rw [← List.append_assoc]; exact HJ2.out⟩⟩
    · obtain rfl : k = m := by omega
      have hkm' : ¬ (k : Int) < (k : Int) := by omega
      have HTk := Lib.hid (show L.take k = L from List.take_of_length_le (by rw [HL.out]; exact Nat.le_refl _))
      go_wp2_with fail
      go_ret
      exact ⟨true, rfl, .inl ⟨rfl, ⟨ys, by rw [HYs.out, HTk.out, HCn.out], HJi.out⟩, HKi.out⟩⟩

theorem walk_ok {l n₀ n₁ n₂ p : Nat} {w0 : World} {od : List Rw} {G : List (List Int)} {J Jx : List RowE → World → Prop} (hod : OdM w0 p od) (hn0 : w0.heap.size = n₀) (hn01 : n₀ ≤ n₁) (hn21 : n₂ ≤ n₁) (hlen : od.length ≤ 100) (hOB : OdB 60000 od) (hNu : Nums od) (hJ : ∀ s A B, J s A → A.grownBy B none → J s B) (hY : AsksT l n₀ n₁ n₂ G J Jx) (d : Nat) : WalkOK l n₀ n₁ n₂ p w0 od G J Jx d := by
  induction d with
  | zero => exact walk_leaf hod hn0 hn01 hn21 hlen hJ hY
  | succ d ih => exact walk_step hod hn0 hn01 hn21 hlen hOB hNu hJ ih
end Go.Proofs.YtmonepclhbappaaDoor
/-
  Odags: Paths: all paths come one by one.
-/
namespace Go.Proofs.YtmonepclhbappaaDoor
open Go.RowKit Go.Shelf Go.Maps
set_option maxRecDepth 100000
set_option linter.unusedVariables false

theorem OdPaths_any (o : Option Addr) (w : World) : Calls Tryd.prog 23 #[.pointer o] w fun e w' => e = .returned (.func (.func 60) #[] #[.pointer (some ⟨w.heap.size, 0, none⟩)]) ∧ w' = w.alloc (.cells #[.pointer o] 41) := by
  go_enter Tryd.func23, Tryd.ntmps23
  go_wp2_with fail
  go_ret
  exact ⟨rfl, rfl⟩

set_option maxHeartbeats 8000000 in
theorem Paths1_any {l n₀ n₁ n₂ p B N : Nat} {w0 W : World} {od : List Rw} {J Jx : List RowE → World → Prop} (hod : OdM w0 p od) (hn0 : w0.heap.size = n₀) (hn01 : n₀ ≤ n₁) (hn21 : n₂ ≤ n₁) (hn1 : n₁ ≤ W.heap.size) (hO : OdOK od N) (hJ : ∀ s A B, J s A → A.grownBy B none → J s B) (hY : AsksT l n₀ n₁ n₂ (allP od) J Jx) (hbW : Below n₀ w0 W) (hB : Blk W B 41 #[.pointer (some ⟨p, 0, none⟩)]) (hJ0 : J [] W) :
    Calls Tryd.prog 60 #[.func (.yield l) #[] #[], .pointer (some ⟨B, 0, none⟩)] W fun e W' => (∃ v, e = .returned v) ∧ ((∃ xs : List RowE, xs.length = (allP od).length ∧ J xs W') ∨ ∃ pre : List RowE, Jx pre W') := by
  have c0 := hB.cell 0
  simp at c0
  have HKc := Lib.hid (show ∀ V, Below W.drew.heap.size W.drew V → V.cell? ⟨B, 0, none⟩ = some (.pointer (some ⟨p, 0, none⟩)) from fun V hb => (hb.cell (p := ⟨B, 0, none⟩) (World.block_lt_of_cell? W _ c0)).trans c0)
  have hbd : Below n₀ w0 W.drew := hbW.trans (bel_drewN (Below.refl _ _) 1)
  have hod' : OdM W.drew p od := hod.keep (by rw [hn0]; exact hbd)
  have HRw := Lib.hid (OdRow_any p od 0 W.drew hod' (fun r hr => (hO.B r hr).mono (by omega)) (by rw [hO.len]; have := hO.h8; omega))
  have hk0 : keysAt od 0 = (od.getD 0 []).map (·.1) := by
    have := keysAt_in (od := od) (i := 0) (by rw [hO.len]; have := hO.h1; omega)
    rw [show ((0 : Nat) : Int) = 0 from rfl] at this
    exact this
  have HWk := Lib.hid (show ∀ (V : World) (A2 : Option Addr) (c2 : Nat), Below W.drew.heap.size W.drew V → V.ownsRow W.drew.heap.size 3 1 (.slice A2 (keysAt od 0).length c2) (keysAt od 0).length ((keysAt od 0).map (Value.int .i64)) →
      Calls Tryd.prog 61 #[.pointer (some ⟨p, 0, none⟩), .slice none 0 0, .slice A2 (keysAt od 0).length c2, .func (.yield l) #[] #[]] V (WalkEnd n₀ n₂ (allP od).length J Jx [] V) from fun V A2 c2 hV hown => by
    have hd : (keysAt od 0).flatMap (tls (od.drop 0)) = allP od := by rw [hk0, List.drop_zero]; rfl
    have hdw : W.drew.heap.size = W.heap.size := rfl
    have h := walk_ok hod hn0 hn01 hn21 (by rw [hO.len]; have := hO.h8; omega) hO.B hO.Nu hJ hY (od.length - 1) [] (keysAt od 0) none A2 0 c2 (keysAt od 0).length [] V (by rw [hO.len]; have := hO.h1; simp; omega) rfl (by rw [hk0, List.length_map]; exact Nat.le_trans (hO.B _ (getD_memO (by rw [hO.len]; have := hO.h1; omega))).1 (by omega)) (SnT.nil _ _ _) (Nat.le_refl _) (fun _ => rfl)
      (fun _ => SnT.of_own hown (by rw [hdw]; omega)) (hbd.trans (hV.mono (by rw [hdw]; omega))) (by have := hV.size; rw [hdw] at this; omega) (fun x hx => hO.Nu.key (i := 0) (by rw [hO.len]; have := hO.h1; omega) (by rw [hk0] at hx; exact hx)) (fun i q hq => ?_) ?_ (hJ _ _ _ hJ0 (gb_below ((bel_drewN (Below.refl _ _) 1).andThen hV) none))
    · rw [List.length_nil, hd] at h
      exact h
    · rw [List.length_nil, hd] at hq
      simpa using hq
    · show 0 + ((keysAt od 0).flatMap (tls (od.drop 0))).length ≤ _
      rw [hd]
      omega)
  clear hB hod hn0 hn01 hn21 hn1 hO hJ hY hbW hJ0 hbd hod' hk0
  generalize hks : keysAt od 0 = ks at *
  clear hks
  go_enter Tryd.func60, Tryd.ntmps60
  go_wp2_with fail
  go_region_law (go_simp; first
      | (go_at_call 62; refine HRw.out.mono ?_; clear HRw; rintro e' w3 ⟨v, rfl, hown, hb⟩; obtain ⟨A2, c2, rfl, _⟩ := Sl.own hown; have zz := HKc.out _ hb; have HO := Lib.hid hown; have HB1 := Lib.hid hb; clear hown hb)
      | (go_at_call 61; refine (HWk.out w3 A2 c2 HB1.out HO.out).mono ?_; clear HWk; rintro e' w4 ⟨r, rfl, hres⟩; have HRs := Lib.hid hres; clear hres))
  all_goals (
    go_wp2_with fail
    go_end0
    refine ⟨⟨_, rfl⟩, ?_⟩
    rcases HRs.out with ⟨_, ⟨ys, h1, h2⟩, _⟩ | ⟨_, ys, h2⟩
    · exact .inl ⟨ys, h1, by simpa using h2⟩
    · exact .inr ⟨ys, by simpa using h2⟩)

theorem paths_gives (d n₀ n₂ B p N : Nat) (od : List Rw) (w0 w : World) (hod : OdM w0 p od) (hO : OdOK od N) (hn0 : w0.heap.size = n₀) (hn01 : n₀ ≤ w.heap.size) (hn21 : n₂ ≤ w.heap.size) (hb : Below n₀ w0 w) (hB : Blk w B 41 #[.pointer (some ⟨p, 0, none⟩)]) :
    GivesKnown Fence.wide d Tryd.prog 60 #[.pointer (some ⟨B, 0, none⟩)] (fun x : RowE => #[rv x]) (KnE w.heap.size (allP od)) (fun _ => KT n₀ n₂) (fun xs => xs.length = (allP od).length) (fun _ => True) (allP od).length w := by
  intro l J Jx W hW hJ hJx hY h0
  have hJ' : ∀ s A B, J s A → A.grownBy B none → J s B := fun s A B h hg => hJ s A B none h hg (fun r e => by cases e)
  have hYA : AsksT l n₀ w.heap.size n₂ (allP od) J Jx := fun m pre x W1 h1 h2 h3 => yieldAt_anyE rfl m (hY pre x W1 h1 h2 h3)
  refine (callsIn_wide.2 (Paths1_any hod hn0 hn01 hn21 hW.size hO hJ' hYA (hb.trans (hW.mono hn01)) (hB.keep hW) h0)).mono fun e W' ⟨hv, h⟩ => ⟨hv, ?_⟩
  rcases h with ⟨xs, h1, h2⟩ | ⟨pre, h1⟩
  · exact .inl ⟨xs, h1, h2⟩
  · exact .inr ⟨pre, trivial, h1⟩
end Go.Proofs.YtmonepclhbappaaDoor
