/-
  Part 16 of the proof of PatBack: RowsL, ListS, PicksP, RangeQ, PicksF, PicksG, SetsIter.
-/
import Derived.Test.YtapledphhfiimaaGreatDoorPatBackM2
import Derived.Shelf.Spec.SlicesGrow
import Derived.Test.YtapledphhfiimaaGreatDoorPatBackM1
import Derived.RangeFuncFrom
import Derived.Deep.RegionLaw
import Derived.Deep.Cut
import Derived.RangeFuncNested
import Derived.RangeFuncBound
import Derived.RangeFuncCalls
import Derived.RangeFuncLeaves
import Derived.Shelf.Abstract
import Derived.Shelf.RegionOpen
import Derived.WalkKit
import Derived.OwnWalkIn
import Derived.TacticsInMore
import Derived.LoopNIn
import Derived.LoopIn
set_option linter.unusedVariables false
/-
  Rows of rows of ints: each inner list lies so.
-/
namespace Go.Proofs.YtapledphhfiimaaGreatDoor
open Go.RowKit
set_option maxRecDepth 100000
set_option linter.unusedVariables false

/-- A row's value; its list lies so. -/
def rv (t : Option Addr × Nat × List Int) : Value := .slice t.1 t.2.2.length t.2.1
def RowOK (w : World) (t : Option Addr × Nat × List Int) : Prop := Sl w 1 t.1 t.2.2.length (t.2.2.map (Value.int .i64)) ∧ t.2.2.length ≤ t.2.1 ∧ t.2.1 ≤ 9223372036854775807
theorem RowOK.keep {w w' : World} {t : Option Addr × Nat × List Int} (h : RowOK w t) (hb : Below w.heap.size w w') : RowOK w' t := ⟨h.1.keep hb, h.2⟩
theorem Sl.grownQ {w w' : World} {A : Option Addr} {n : Nat} {xs : List Value} {row : Option Nat} (h : Sl w 1 A n xs) (hg : w.grownBy w' row) (hA : ∀ x : Addr, A = some x → x.block < w.heap.size ∧ some x.block ≠ row) : Sl w' 1 A n xs := by
  refine ⟨h.1, fun hn => ?_⟩
  obtain ⟨b0, off, rfl, h2⟩ := h.2 hn
  refine ⟨b0, off, rfl, fun j v hj => ?_⟩
  exact (World.cell?_of_block (w := w) (a := ⟨b0, off + j, none⟩) (hg.block b0 (hA _ rfl).1 (hA _ rfl).2)).trans (h2 j v hj)
/-- The rows of a row of rows: each lies so, apart from the row itself. -/
def RowsOK (w : World) (nv : Value) (its : List (Option Addr × Nat × List Int)) : Prop := ∀ t ∈ its, RowOK w t ∧ ∀ x : Addr, t.1 = some x → x.block < w.heap.size ∧ some x.block ≠ nv.ownBlock
theorem RowsOK.keep {w w' : World} {nv : Value} {its : List (Option Addr × Nat × List Int)} (h : RowsOK w nv its) (hb : Below w.heap.size w w') : RowsOK w' nv its := fun t ht => ⟨(h t ht).1.keep hb, fun x hx => ⟨Nat.lt_of_lt_of_le ((h t ht).2 x hx).1 hb.size, ((h t ht).2 x hx).2⟩⟩
theorem RowsOK.grow {w w' : World} {nv nv' : Value} {its : List (Option Addr × Nat × List Int)} (h : RowsOK w nv its) (hg : Gr w w' nv nv') : RowsOK w' nv' its := fun t ht => by
  refine ⟨⟨(h t ht).1.1.grownQ hg.g (h t ht).2, (h t ht).1.2⟩, fun x hx => ?_⟩
  have h1 := (h t ht).2 x hx
  refine ⟨Nat.lt_of_lt_of_le h1.1 hg.size, fun e => ?_⟩
  rcases hg.at_ x.block e.symm with h3 | h3
  · exact h1.2 h3.symm
  · omega
theorem RowsOK.snoc {w : World} {nv : Value} {its : List (Option Addr × Nat × List Int)} {t : Option Addr × Nat × List Int} (h : RowsOK w nv its) (ht : RowOK w t ∧ ∀ x : Addr, t.1 = some x → x.block < w.heap.size ∧ some x.block ≠ nv.ownBlock) : RowsOK w nv (its ++ [t]) := fun u hu => by
  rcases List.mem_append.1 hu with hu | hu
  · exact h u hu
  · obtain rfl : u = t := by simpa using hu
    exact ht/-- Rows, each of which lies so. -/
def AllRows (w : World) (its : List (Option Addr × Nat × List Int)) : Prop := ∀ t ∈ its, RowOK w t
theorem AllRows.keep {w w' : World} {its : List (Option Addr × Nat × List Int)} (h : AllRows w its) (hb : Below w.heap.size w w') : AllRows w' its := fun t ht => (h t ht).keep hb
theorem its_row {its : List (Option Addr × Nat × List Int)} {k : Nat} (h : k < its.length) : ∃ D d l, its[k]? = some (D, d, l) ∧ (its.map (·.2.2))[k]? = some l :=
  ⟨its[k].1, its[k].2.1, its[k].2.2, by rw [List.getElem?_eq_getElem h], by rw [List.getElem?_map, List.getElem?_eq_getElem h]; rfl⟩
/-- A row of rows with one row more: a new one. -/
theorem rows_more {wr w5 w6 : World} {B j : Nat} {nv nv' : Value} {jts : List (Option Addr × Nat × List Int)} {g c : Nat} {l : List Int} {et : TypeId} (HO : wr.ownsRow B et 1 nv j (jts.map rv)) (HJ : RowsOK wr nv jts) (hb5 : Below wr.heap.size wr w5)
    (hit : RowOK w5 (some ⟨g, 0, none⟩, c, l)) (hg : wr.heap.size ≤ g) (hg5 : g < w5.heap.size) (hown6 : w6.ownsRow B et 1 nv' (j + 1) (jts.map rv ++ [rv (some ⟨g, 0, none⟩, c, l)])) (hgr : Gr w5 w6 nv nv') :
    w6.ownsRow B et 1 nv' (j + 1) ((jts ++ [((some ⟨g, 0, none⟩ : Option Addr), c, l)]).map rv) ∧ RowsOK w6 nv' (jts ++ [((some ⟨g, 0, none⟩ : Option Addr), c, l)]) := by
  refine ⟨by rw [List.map_append]; exact hown6, RowsOK.grow (RowsOK.snoc (HJ.keep hb5) ⟨hit, fun x hx => ?_⟩) hgr⟩
  cases hx
  refine ⟨hg5, fun (e : some g = nv.ownBlock) => ?_⟩
  have := (HO.lt g (Eq.symm e)).2
  omega
end Go.Proofs.YtapledphhfiimaaGreatDoor
/-
  slices.Clip, Clone, Grow, Concat at ints; append onto a slice that is cut to its length.
-/
namespace Go.Proofs.YtapledphhfiimaaGreatDoor
open Go.RowKit Go.Shelf
set_option maxRecDepth 100000
set_option linter.unusedVariables false

section
variable {P : Program} {ops : Array Oper} {o : Oper} {a : Act} {Q : Exit → Act → World → Prop}
/-- append(s[:n:n], x...): a new row. -/
theorem run_full {t ty e : TypeId} {z : Value} {size bytes : Nat} (E : Elem P t e z size bytes) {W : World}
    {A : Option Addr} {n : Nat} {xs : List Value} (hxs : Sl W size A n xs) (hA : A = none → n = 0)
    {b off m c : Nat} {ys : List Value} (hy : Sl W size (some ⟨b, off, none⟩) m ys) (hm : 0 < m) (h1 : ∀ u ∈ ys, u.oneCell' = true)
    (hlim : (n + m) * bytes ≤ lim) (hlim' : n + m ≤ lim) :
    ∃ v' w', (Builtin.append_ #[t, t] ty #[.slice A n n, .slice (some ⟨b, off, none⟩) m c]).run P W = .ok v' w' ∧ w'.ownsRow W.heap.size e size v' (n + m) (xs ++ ys) ∧ Below W.heap.size W w' := by
  obtain ⟨i, hi, hz, hsize, hby⟩ := info_parts E.hi
  unfold lim at hlim hlim'
  have hadd : ∀ (b off j : Nat), (⟨b, off, none⟩ : Addr).add j = ⟨b, off + j, none⟩ := fun b off j => by unfold Addr.add; split <;> simp_all
  obtain ⟨b1, off1, h2, hc⟩ := hy.2 hm
  injection h2 with h2
  injection h2 with h2 h3 _
  subst h2 h3
  have hc' : ∀ j u, ys[j]? = some u → W.cell? ((⟨b, off, none⟩ : Addr).add j) = some u := fun j u hu => by rw [hadd]; exact hc j u hu
  rcases A with _ | A
  · obtain rfl : n = 0 := hA rfl
    obtain rfl : xs = [] := List.eq_nil_of_length_eq_zero (by simpa using hxs.1)
    obtain ⟨v', w', hr, h2, h3, _⟩ := run_append_own (P := P) W W.heap.size t ty e i z size bytes E.ht hi hz hsize hby E.hzs E.hsz (.slice none 0 0) 0 [] (World.ownsRow_nil W _ e size) ⟨b, off, none⟩ m c ys hy.1 hc' h1 (by unfold maxLen; omega) hlim (Nat.le_refl _)
    exact ⟨v', w', hr, h2, h3.os, h3.tape, h3.output, h3.size, fun k hk => h3.block k hk (fun e => by cases e)⟩
  · obtain ⟨v', w', hr, h2, h3⟩ := run_append_arg_grows (P := P) W t ty e i z size bytes E.ht hi hz hsize hby E.hzs E.hsz A n n xs hxs.1 (fun j u hu => by
      have hn : 0 < n := by
        have := (List.getElem?_eq_some_iff.1 hu).1
        rw [hxs.1] at this
        exact Nat.pos_of_ne_zero fun h => by rw [h, Nat.zero_mul] at this; omega
      obtain ⟨b2, off2, h2, h3⟩ := hxs.2 hn
      cases h2
      rw [hadd]; exact h3 j u hu) ⟨b, off, none⟩ m c ys hy.1 hc' (by omega) (by unfold maxLen; omega) hlim
    exact ⟨v', w', hr, h2, h3.os, h3.tape, h3.output, h3.size, fun k hk => h3.block k hk (fun e => by cases e)⟩
/-- The same as a step of a region that draws its order. -/
theorem step_full {t e : TypeId} {z : Value} {size bytes : Nat} (E : Elem P t e z size bytes) {W : World} {K : Act → World → Prop} {L : Prop} (s x : Operand)
    (hgd : o.guard = none) (ho : o.op = .call { callee := .builtin .append, args := #[s, x], argTypes := #[t, t] })
    {A : Option Addr} {n : Nat} {xs : List Value} (hxs : Sl W size A n xs) (hA : A = none → n = 0)
    {b off m c : Nat} {ys : List Value} (hy : Sl W size (some ⟨b, off, none⟩) m ys) (hm : 0 < m)
    (hs : a.eval s = .slice A n n) (hx : a.eval x = .slice (some ⟨b, off, none⟩) m c) (h1 : ∀ u ∈ ys, u.oneCell' = true)
    (hlim : (n + m) * bytes ≤ lim) (hlim' : n + m ≤ lim)
    (h : ∀ v' w', w'.ownsRow W.heap.size e size v' (n + m) (xs ++ ys) → Below W.heap.size W w' → K (a.put o.dst v') w') :
    if Region.wanted o (yielded ops a.tmps) = true then Oper.wp P o a W K Q else L := by
  have hw : Region.wanted o (yielded ops a.tmps) = true := by simp [Region.wanted, hgd]
  rw [if_pos hw]
  obtain ⟨v', w', hr, h2, h3⟩ := run_full (P := P) (ty := o.type) (c := c) E hxs hA hy hm h1 hlim hlim'
  unfold Oper.wp execOp
  simp only [ho, resolve, invoke, builtin, Sem.run_bind, Sem.run_pure, Result.andThen_ok, List.map_toArray, List.map_cons, List.map_nil, hs, hx, hr]
  exact h v' w' h2 h3
end

set_option maxHeartbeats 2000000 in
theorem CloneI_own (l : List Int) (A : Option Addr) (n c : Nat) (w : World) (hl : l.length = n) (hn : n ≤ 1099511627776) (hs : Sl w 1 A n (l.map (Value.int .i64))) :
    Calls Tryz.prog 78 #[.slice A n c] w fun e w' => ∃ v, e = .returned v ∧ w'.ownsRow w.heap.size 3 1 v n (l.map (Value.int .i64)) ∧ Below w.heap.size w w' := by
  have nn := fun (w : World) (a : Option Addr) (n c : Nat) => Lib.run_eql_slice_nil (P := Tryz.prog) w 23 3 a n c 0 0 Tryz.underlying23
  have HS := Lib.hid hs
  go_enter Tryz.func78, Tryz.ntmps78
  rcases A with _ | A
  · have hn0 : n = 0 := by
      rcases Nat.eq_zero_or_pos n with h | h
      · exact h
      · obtain ⟨_, _, h, _⟩ := hs.2 h; cases h
    subst hn0
    clear hs
    go_wp2_with fail
    go_ret
    obtain rfl := List.eq_nil_of_length_eq_zero hl
    exact ⟨_, rfl, World.ownsRow_nil _ _ _ _, Below.refl _ _⟩
  · have hbA := bel_al (Below.refl w.heap.size w) (.cells #[] 3)
    have HOE := Lib.hid (World.ownsRow_made (e := 3) (size := 1) w #[] 0 (Nat.le_refl _) (Nat.zero_le _) rfl)
    have HBA := Lib.hid hbA
    have SPA := Lib.hid (HS.out.keep hbA)
    clear hs hbA
    go_wp2_with (at_builtin; refine wpList_cat_at elemInt _ _ rfl rfl HOE.out HBA.out.size SPA.out rfl rfl (one_i64 _) (by unfold lim; omega) (by unfold lim; omega) ?_; intro v8 w8 hown8 hg8; have HO8 := Lib.hid hown8; have HB8 := Lib.hid (HBA.out.trans (hg8.belowOwn HBA.out.size HOE.out)); clear hown8 hg8 HOE HBA SPA)
    go_ret
    have hown := HO8.out
    rw [List.nil_append, Nat.zero_add] at hown
    exact ⟨_, rfl, hown, HB8.out⟩
theorem CloneI_any (l : List Int) (A : Option Addr) (n c : Nat) (w : World) (hl : l.length = n) (hn : n ≤ 1099511627776) (hs : Sl w 1 A n (l.map (Value.int .i64))) :
    Calls Tryz.prog 78 #[.slice A n c] w fun e w' => ∃ C k, e = .returned (.slice C n k) ∧ Sl w' 1 C n (l.map (Value.int .i64)) ∧ (n ≤ k ∧ k ≤ 9223372036854775807) ∧ Below w.heap.size w w' :=
  (CloneI_own l A n c w hl hn hs).mono fun e w' ⟨v, he, hown, hb⟩ => by
    obtain ⟨C, k, rfl, hsl⟩ := Sl.own hown
    exact ⟨C, k, he, hsl, own_cap hown, hb⟩

/-- All that some lists hold. -/
def flat (L : List (Option Addr × Nat × List Int)) : List Int := L.flatMap (·.2.2)
theorem flat_snoc {L : List (Option Addr × Nat × List Int)} {k : Nat} {D : Option Addr} {d : Nat} {l : List Int} (h : L[k]? = some (D, d, l)) : flat (L.take (k + 1)) = flat (L.take k) ++ l := by
  obtain ⟨hk, he⟩ := List.getElem?_eq_some_iff.1 h
  unfold flat
  rw [List.take_succ_eq_append_getElem hk, List.flatMap_append, he]; simp
theorem flat_part (L : List (Option Addr × Nat × List Int)) (k : Nat) : (flat (L.take k)).length ≤ (flat L).length := by
  have h : flat L = flat (L.take k) ++ flat (L.drop k) := by unfold flat; rw [← List.flatMap_append, List.take_append_drop]
  rw [h, List.length_append]; omega

end Go.Proofs.YtapledphhfiimaaGreatDoor
/-
  All choices of k of a list, plainly.
-/
namespace Go.Proofs.YtapledphhfiimaaGreatDoor
set_option linter.unusedVariables false

def combos : Nat → List Int → List (List Int)
  | 0, _ => [[]]
  | _ + 1, [] => []
  | k + 1, x :: S => (combos k S).map (x :: ·) ++ combos (k + 1) S
theorem combos_zero (S : List Int) : combos 0 S = [[]] := by cases S <;> rfl
theorem combos_short : ∀ (S : List Int) (k : Nat), S.length < k → combos k S = []
  | [], k + 1, _ => rfl
  | x :: S, k + 1, h => by
    rw [combos, combos_short S (k + 1) (by simp at h; omega), List.append_nil]
    rw [combos_short S k (by simp at h; omega)]; rfl
  | _, 0, h => by omega
theorem combos_at {S : List Int} {i : Nat} {x : Int} (k : Nat) (h : S[i]? = some x) : combos (k + 1) (S.drop i) = (combos k (S.drop (i + 1))).map (x :: ·) ++ combos (k + 1) (S.drop (i + 1)) := by
  obtain ⟨hi, he⟩ := List.getElem?_eq_some_iff.1 h
  rw [List.drop_eq_getElem_cons hi, he, combos]
theorem combos_el : ∀ (k : Nat) (S : List Int), ∀ q ∈ combos k S, q.length = k
  | 0, S, q, h => by rw [combos_zero] at h; obtain rfl : q = [] := by simpa using h
                     rfl
  | k + 1, [], q, h => by simp [combos] at h
  | k + 1, x :: S, q, h => by
    rw [combos] at h
    rcases List.mem_append.1 h with h | h
    · obtain ⟨r, hr, rfl⟩ := List.mem_map.1 h
      rw [List.length_cons, combos_el k S r hr]
    · exact combos_el (k + 1) S q h
/-- The choices of k; none where there are none. -/
def choices (S : List Int) (k : Int) : List (List Int) := if 0 ≤ k ∧ k ≤ S.length then combos k.toNat S else []
end Go.Proofs.YtapledphhfiimaaGreatDoor
/-
  A range over a function whose rounds are handed memory: what a round may know of the value that it is handed (Kn). One law, over the kit's rule for the statement (wpIn_rangeFunc).
-/
namespace Go.Proofs.YtapledphhfiimaaGreatDoor
open Go.RowKit
set_option linter.unusedVariables false
variable {F : Fence} {n : Nat} {P : Program}

/-- An iterator's contract: each round is asked only where Kn holds of the value and the world. -/
def GivesKnown {α : Type} (F : Fence) (n : Nat) (P : Program) (g : Nat) (lb : Array Value) (encs : α → Array Value) (Kn : List α → α → World → Prop) (Kp : α → World → World → Prop) (S Sp : List α → Prop) (N : Nat) (w : World) : Prop :=
  ∀ (l : Nat) (J Jx : List α → World → Prop) (W : World), Below w.heap.size w W → AbidesFrom W.heap.size J → AbidesFrom W.heap.size Jx →
    (∀ pre x W1, J pre W1 → Kn pre x W1 → pre.length < N → YieldAt F (n - 1) P l (encs x) W1 fun e W' =>
      (e = .returned (.bool true) ∧ J (pre ++ [x]) W' ∧ Kp x W1 W') ∨ (e = .returned (.bool false) ∧ Jx (pre ++ [x]) W')) →
    J [] W →
    CallsIn F n P g (#[.func (.yield l) #[] #[]] ++ lb) W fun e W' => (∃ v, e = .returned v) ∧ ((∃ xs, S xs ∧ J xs W') ∨ (∃ pre, Sp pre ∧ Jx pre W'))

/-- The loop's two blocks, the record in this state. -/
def LoopLies (D : Nat) (r : Loop) (W : World) : Prop := W.heap[D + 1]? = some (.loop r) ∧ W.heap[D]? = some (.deferred (some []))
theorem LoopLies.kept {D : Nat} {r : Loop} {A B : World} {row : Option Nat} (h : LoopLies D r A) (hg : A.grownBy B row) (hr : ∀ k, row = some k → ∃ o : Obj, A.heap[k]? = some o ∧ o.isWalk = true) : LoopLies D r B :=
  ⟨(grownBy_keeps hg hr h.1 rfl).trans h.1, (grownBy_keeps hg hr h.2 rfl).trans h.2⟩
theorem LoopLies.turn {D : Nat} {r r' : Loop} {W : World} (h : LoopLies D r W) : LoopLies D r' (W.putObj (D + 1) (.loop r')) :=
  ⟨World.putObj_heap_same (Array.getElem?_eq_some_iff.1 h.1).1, (World.putObj_heap_other (by omega)).trans h.2⟩
theorem LoopLies.others {D : Nat} {r : Loop} {W W' : World} (h : LoopLies D r W) (hk : KeepsOthers W W') : LoopLies D r W' := ⟨hk.same _ _ h.1 rfl, hk.same _ _ h.2 rfl⟩

/-- A round's end: how the record stands, and what the loop's owner holds. -/
theorem round_end {D : Nat} {r : Loop} {W : World} (hs : r.state = .busy) (h : LoopLies D r W) (jump : Option Code) :
    (Instr.endRound (D + 1) jump).run P W = .ok (.bool jump.isNone) (W.putObj (D + 1) (.loop { r with state := if jump.isNone then .ready else .done, pending := jump })) ∧ LoopLies D { r with state := if jump.isNone then .ready else .done, pending := jump } (W.putObj (D + 1) (.loop { r with state := if jump.isNone then .ready else .done, pending := jump })) := by
  obtain ⟨st, pe, fn, tmps, ps, as_, bd, df⟩ := r
  cases hs
  refine ⟨?_, h.turn⟩
  have := run_endRound (P := P) jump h.1
  exact this

/-- 'for x := range f': the rounds know Kn of what they are handed. -/
theorem rangeFunc_known {α : Type} {g : Operand} {ps : Array Tmp} {assign body : Code} {Q : Exit → Act → World → Prop} {a : Act} {w : World} {gf : Nat} {lb : Array Value} {encs : α → Array Value} {Kn : List α → α → World → Prop} {Kp : α → World → World → Prop} {S Sp : List α → Prop} {N : Nat} {w0 : World}
    (hro : F.round = none) (h1 : 1 ≤ n) (hg : a.eval g = .func (.func gf) #[] lb) (hFg : F.fn gf) (eg : ∀ args w, (callFunc gf args).run P w = .ok (.enter gf args) w)
    (hseq : GivesKnown F (n - 1) P gf lb encs Kn Kp S Sp N w0)
    (hKn : ∀ (pre : List α) (x : α) (W : World) (l : Nat) (o o' : Obj), W.heap[l]? = some o → o.isCells = false → Kn pre x W → Kn pre x (W.putObj l o'))
    (hKt : ∀ {x : α} {A B C : World}, Kp x A B → Kp x B C → Kp x A C) (hKb : ∀ (x : α) (W : World) (l : Nat) (o o' : Obj), w.heap.size ≤ l → W.heap[l]? = some o → o.isCells = false → o.isWalk = false → Kp x W (W.putObj l o'))
    (hb0 : Below w0.heap.size w0 w) (hps : ∀ x, (encs x).size = ps.size)
    (I : List α → World → Prop) (Ix : Code → List α → World → Prop) (hI : OwnFrom w.heap.size I) (hIx : ∀ c, OwnFrom w.heap.size (Ix c)) (h0 : I [] w) (a₁ : α → Act)
    (hassign : ∀ (l : Nat) (x : α) (W : World) (K : Act → World → Prop), K (a₁ x) W → assign.wpIn (F.inRound l) (n - 1 - 1) P (Exit.then K (fun _ _ _ => False)) { tmps := (ps.zip (encs x)).foldl (fun t (p, v) => t.setIfInBounds p v) a.tmps, defers := [] } W)
    (hbody : ∀ (l : Nat) (pre : List α) (x : α) (W : World), I pre W → Kn pre x W → pre.length < N → body.wpIn (F.inRound l) (n - 1 - 1) P (ownPostK (Kp x) I Ix (pre ++ [x]) W) (a₁ x) W)
    (hdone : ∀ (D : Nat) (xs : List α) (W : World), w.heap.size ≤ D → S xs → I xs W → W.heap[D]? = some (.deferred (some [])) → Q .normal { a with defers := { target := .collected D, args := #[] } :: a.defers } W)
    (hstop : ∀ (D : Nat) (c : Code) (pre : List α) (W : World), w.heap.size ≤ D → Sp pre → Ix c pre W → W.heap[D]? = some (.deferred (some [])) → c.wpIn F n P Q { a with defers := { target := .collected D, args := #[] } :: a.defers } W) :
    (Code.rangeFunc g ps assign body).wpIn F n P Q a w := by
  refine wpIn_rangeFunc ?_
  intro fn hfn
  rw [hro]
  obtain ⟨r0, hr0⟩ : ∃ r0 : Loop, r0 = { state := .ready, pending := none, fn, tmps := a.tmps, params := ps, assign, body, defers := w.heap.size } := ⟨_, rfl⟩
  obtain ⟨W1, hW1⟩ : ∃ W1, (w.alloc (.deferred (some []))).alloc (.loop r0) = W1 := ⟨_, rfl⟩
  have hL1 : LoopLies w.heap.size r0 W1 := by
    rw [← hW1]
    exact ⟨by simpa using World.alloc_heap_new (w.alloc (.deferred (some []))) (.loop r0), (Below.heap_alloc _ _ _ (by simp)).trans (World.alloc_heap_new w _)⟩
  have hI1 : I [] W1 := by rw [← hW1]; exact hI.alloc _ (hI.alloc _ h0)
  have hb1 : Below w0.heap.size w0 W1 := by rw [← hW1]; exact hb0.trans ((((Below.refl _ w).alloc (Nat.le_refl _) _).alloc (by simp) _).mono hb0.size)
  have hs1 : w.heap.size ≤ W1.heap.size := by rw [← hW1]; simp; omega
  refine ⟨w.heap.size + 1, [{ target := .collected w.heap.size, args := #[] }], W1, { target := .fn (.func gf) lb, args := #[.func (.yield (w.heap.size + 1)) #[] #[]] }, W1, gf, #[.func (.yield (w.heap.size + 1)) #[] #[]] ++ lb, W1, ?enter, ?target, ?leads, ?call, fun _ => h1, ?run⟩
  case enter => rw [← hW1, hr0]; exact run_enterLoop_outer _ _ _ _ _
  case target =>
    simp only [resolve, hg]
    simp [go_sem]
  case leads => intro f' hf'; simp [Target.leads] at hf'; subst hf'; exact hFg
  case call => simp [invoke, go_sem, eg]
  case run =>
  refine (hseq (w.heap.size + 1) (fun pre W => I pre W ∧ LoopLies w.heap.size r0 W) (fun pre W => ∃ c, Ix c pre W ∧ LoopLies w.heap.size { r0 with state := .done, pending := some c } W) W1 hb1 ?ab ?abx ?round ⟨hI1, hL1⟩).mono ?behind
  case ab =>
    intro s A B row hs hg' hr
    exact ⟨hI s A B row hs.1 hg' (fun r e => ⟨Nat.le_trans hs1 (hr r e).1, (hr r e).2.imp fun o h => ⟨h.1, Obj.not_cells_of_walk h.2⟩⟩), hs.2.kept hg' (fun r e => (hr r e).2)⟩
  case abx =>
    rintro s A B row ⟨c, hc, hl⟩ hg' hr
    exact ⟨c, hIx c s A B row hc hg' (fun r e => ⟨Nat.le_trans hs1 (hr r e).1, (hr r e).2.imp fun o h => ⟨h.1, Obj.not_cells_of_walk h.2⟩⟩), hl.kept hg' (fun r e => (hr r e).2)⟩
  case round =>
    rintro pre x W ⟨hi, hl⟩ hkn hlen
    have hy := run_yield (P := P) (args := encs x) hl.1 (by rw [hr0]; exact hps x)
    rw [hr0] at hy
    refine ⟨fn, _, assign, body, hy, roundIn_of_wpIn hfn (hassign _ x W _ ⟨_, run_beginRound hl.1 (by rw [hr0]), ?_⟩)⟩
    have hbusy : LoopLies w.heap.size { r0 with state := .busy } (W.putObj (w.heap.size + 1) (.loop { r0 with state := .busy })) := hl.turn
    have hw2 : Kp x W (W.putObj (w.heap.size + 1) (.loop { r0 with state := .busy })) := hKb _ _ _ _ _ (by omega) hl.1 rfl rfl
    refine wpIn_mono (hbody _ pre x _ (hI.putObj _ hi (by omega) hl.1 rfl) (hKn _ _ _ _ _ _ hl.1 rfl hkn) hlen) ?_
    have leave : ∀ (c : Code) (W3 : World), KeepsOthers (W.putObj (w.heap.size + 1) (.loop { r0 with state := .busy })) W3 → Ix c (pre ++ [x]) W3 →
        (Instr.endRound (w.heap.size + 1) (some c)).run P W3 = .ok (.bool false) (W3.putObj (w.heap.size + 1) (.loop { r0 with state := .done, pending := some c })) ∧ ∃ c', Ix c' (pre ++ [x]) (W3.putObj (w.heap.size + 1) (.loop { r0 with state := .done, pending := some c })) ∧ LoopLies w.heap.size { r0 with state := .done, pending := some c' } (W3.putObj (w.heap.size + 1) (.loop { r0 with state := .done, pending := some c })) := fun c W3 hk3 hi3 => by
      have hl3 := hbusy.others hk3
      have he := round_end (P := P) rfl hl3 (some c)
      exact ⟨he.1, c, (hIx c).putObj _ hi3 (by omega) hl3.1 rfl, he.2⟩
    intro e a3 W3 hp
    cases e with
    | normal =>
      obtain ⟨hk3, hkp3, hi3⟩ := hp
      have hl3 := hbusy.others hk3
      have he := round_end (P := P) rfl hl3 none
      have hr1 : { r0 with state := .ready, pending := none } = r0 := by rw [hr0]
      refine ⟨_, _, he.1, .inl ⟨rfl, ⟨hI.putObj _ hi3 (by omega) hl3.1 rfl, ?_⟩, hKt (hKt hw2 hkp3) (hKb _ _ _ _ _ (by omega) hl3.1 rfl rfl)⟩⟩
      have h2 := he.2
      simp only [Option.isNone_none, if_true] at h2 ⊢
      rw [hr1] at h2 ⊢
      exact h2
    | ret => obtain ⟨hr, hx⟩ := leave .ret W3 hp.1 hp.2; exact ⟨_, _, hr, .inr ⟨rfl, hx⟩⟩
    | exit id => obtain ⟨hr, hx⟩ := leave (.exit id) W3 hp.1 hp.2; exact ⟨_, _, hr, .inr ⟨rfl, hx⟩⟩
    | goto t => obtain ⟨hr, hx⟩ := leave (.goto t) W3 hp.1 hp.2; exact ⟨_, _, hr, .inr ⟨rfl, hx⟩⟩
    | panic ch => exact hp.elim
    | outgrown => exact hp.elim
  case behind =>
    rintro e W2 ⟨⟨v, rfl⟩, h⟩
    rcases h with ⟨xs, hS, hi, hl⟩ | ⟨pre, hSp, c, hi, hl⟩
    · have he := run_endLoop (P := P) hl.1 (by rw [hr0]; simp)
      rw [hr0] at he
      exact ⟨none, _, he, hdone _ xs _ (Nat.le_refl _) hS (hI.putObj _ hi (by omega) hl.1 rfl) ((World.putObj_heap_other (by omega)).trans hl.2)⟩
    · have he := run_endLoop (P := P) hl.1 (by simp)
      exact ⟨some c, _, he, hstop _ c pre _ (Nat.le_refl _) hSp ((hIx c).putObj _ hi (by omega) hl.1 rfl) ((World.putObj_heap_other (by omega)).trans hl.2)⟩

/-- The same with one loop variable: what the assignment makes of the act is said by asg. -/
theorem rangeFunc_one {α : Type} {g : Operand} {p : Tmp} {assign body : Code} {Q : Exit → Act → World → Prop} {a : Act} {w : World} {gf : Nat} {lb : Array Value} {enc : α → Value} {Kn : List α → α → World → Prop} {Kp : α → World → World → Prop} {S Sp : List α → Prop} {N : Nat} {w0 : World}
    (asg : α → Act → Act) (hro : F.round = none) (h1 : 1 ≤ n) (hg : a.eval g = .func (.func gf) #[] lb) (hFg : F.fn gf) (eg : ∀ args w, (callFunc gf args).run P w = .ok (.enter gf args) w)
    (hseq : GivesKnown F (n - 1) P gf lb (fun x => #[enc x]) Kn Kp S Sp N w0)
    (hKn : ∀ (pre : List α) (x : α) (W : World) (l : Nat) (o o' : Obj), W.heap[l]? = some o → o.isCells = false → Kn pre x W → Kn pre x (W.putObj l o'))
    (hKt : ∀ {x : α} {A B C : World}, Kp x A B → Kp x B C → Kp x A C) (hKb : ∀ (x : α) (W : World) (l : Nat) (o o' : Obj), w.heap.size ≤ l → W.heap[l]? = some o → o.isCells = false → o.isWalk = false → Kp x W (W.putObj l o'))
    (hb0 : Below w0.heap.size w0 w)
    (I : List α → World → Prop) (Ix : Code → List α → World → Prop) (hI : OwnFrom w.heap.size I) (hIx : ∀ c, OwnFrom w.heap.size (Ix c)) (h0 : I [] w)
    (hassign : ∀ (l : Nat) (x : α) (W : World) (K : Act → World → Prop), K (asg x { tmps := a.tmps.setIfInBounds p (enc x), defers := [] }) W → assign.wpIn (F.inRound l) (n - 1 - 1) P (Exit.then K (fun _ _ _ => False)) { tmps := a.tmps.setIfInBounds p (enc x), defers := [] } W)
    (hbody : ∀ (l : Nat) (pre : List α) (x : α) (W : World), I pre W → Kn pre x W → pre.length < N → body.wpIn (F.inRound l) (n - 1 - 1) P (ownPostK (Kp x) I Ix (pre ++ [x]) W) (asg x { tmps := a.tmps.setIfInBounds p (enc x), defers := [] }) W)
    (hdone : ∀ (D : Nat) (xs : List α) (W : World), w.heap.size ≤ D → S xs → I xs W → W.heap[D]? = some (.deferred (some [])) → Q .normal { a with defers := { target := .collected D, args := #[] } :: a.defers } W)
    (hstop : ∀ (D : Nat) (c : Code) (pre : List α) (W : World), w.heap.size ≤ D → Sp pre → Ix c pre W → W.heap[D]? = some (.deferred (some [])) → c.wpIn F n P Q { a with defers := { target := .collected D, args := #[] } :: a.defers } W) :
    (Code.rangeFunc g #[p] assign body).wpIn F n P Q a w :=
  rangeFunc_known hro h1 hg hFg eg hseq hKn hKt hKb hb0 (fun _ => rfl) I Ix hI hIx h0 (fun x => asg x { tmps := a.tmps.setIfInBounds p (enc x), defers := [] }) (fun l x W K hK => by
    rw [show (Array.zip #[p] #[enc x]).foldl (fun t (p, v) => t.setIfInBounds p v) a.tmps = a.tmps.setIfInBounds p (enc x) from by simp]
    exact hassign l x W K hK) hbody hdone hstop
end Go.Proofs.YtapledphhfiimaaGreatDoor
/-
  sets.picks where one is still to be picked: by what it does where one less is.
-/
namespace Go.Proofs.YtapledphhfiimaaGreatDoor
open Go.RowKit
set_option maxRecDepth 100000
set_option linter.unusedVariables false

abbrev Row := Option Addr × Nat × List Int
/-- A round keeps the cells of the blocks that Q names, but for those of the row that it was handed. -/
def Kq (Q : Nat → Prop) (x : Row) (W W' : World) : Prop := W.heap.size ≤ W'.heap.size ∧ ∀ k o, Q k → (∀ a : Addr, x.1 = some a → a.block ≠ k) → W.heap[k]? = some o → o.isCells = true → W'.heap[k]? = some o
def Kept (Q : Nat → Prop) (W W' : World) : Prop := W.heap.size ≤ W'.heap.size ∧ ∀ k o, Q k → W.heap[k]? = some o → o.isCells = true → W'.heap[k]? = some o
theorem Kept.refl (Q : Nat → Prop) (W : World) : Kept Q W W := ⟨Nat.le_refl _, fun _ _ _ h _ => h⟩
theorem Kept.trans {Q : Nat → Prop} {A B C : World} (h : Kept Q A B) (k : Kept Q B C) : Kept Q A C := ⟨Nat.le_trans h.1 k.1, fun j o hj ho hc => k.2 j o hj (h.2 j o hj ho hc) hc⟩
theorem Kept.of_below {Q : Nat → Prop} {W W' : World} (h : Below W.heap.size W W') : Kept Q W W' := ⟨h.size, fun k o _ ho _ => (h.block k (Array.getElem?_eq_some_iff.1 ho).1).trans ho⟩
theorem Kept.then_round {Q : Nat → Prop} {x : Row} {A B C : World} (h : Below A.heap.size A B) (hx : ∀ a : Addr, x.1 = some a → A.heap.size ≤ a.block) (k : Kq Q x B C) : Kept Q A C :=
  ⟨Nat.le_trans h.size k.1, fun j o hj ho hc => k.2 j o hj (fun a ha e => by
    have h1 := hx a ha
    have h2 := (Array.getElem?_eq_some_iff.1 ho).1
    omega) ((h.block j (Array.getElem?_eq_some_iff.1 ho).1).trans ho) hc⟩
theorem Kq.trans {Q : Nat → Prop} {x : Row} {A B C : World} (h : Kq Q x A B) (k : Kq Q x B C) : Kq Q x A C := ⟨Nat.le_trans h.1 k.1, fun j o hj hx ho hc => k.2 j o hj hx (h.2 j o hj hx ho hc) hc⟩
theorem Kq.of_kept {Q : Nat → Prop} {x : Row} {W W' : World} (h : Kept Q W W') : Kq Q x W W' := ⟨h.1, fun k o hk _ ho hc => h.2 k o hk ho hc⟩
theorem Kept.putObj {Q : Nat → Prop} {W : World} {l : Nat} {o : Obj} (o' : Obj) (hl : W.heap[l]? = some o) (ho : o.isCells = false) : Kept Q W (W.putObj l o') :=
  ⟨(grownBy_putObj' W l o').size, fun k u _ hk hc => by
    by_cases e : k = l
    · subst e
      rw [hl] at hk
      cases hk
      rw [ho] at hc
      cases hc
    · exact (World.putObj_heap_other e).trans hk⟩
theorem Kept.cell {Q : Nat → Prop} {W W' : World} (h : Kept Q W W') {a : Addr} {u : Value} (hb : Q a.block) (hc : W.cell? a = some u) : W'.cell? a = some u := by
  have hc' := hc
  unfold World.cell? at hc'
  cases ho : W.heap[a.block]? with
  | none => simp [ho] at hc'
  | some o =>
    have hcell : o.isCells = true := by cases o <;> simp_all [Obj.isCells]
    exact (World.cell?_of_block ((h.2 _ _ hb ho hcell).trans ho.symm)).trans hc
theorem Kept.set {Q : Nat → Prop} {B : Nat} (W : World) (i : Nat) (v : Value) (h : ¬ Q B) : Kept Q W (W.setCell ⟨B, i, none⟩ v) :=
  ⟨(KeepsWalks.setCell W _ v).size, fun k o hk ho _ => (Below.heap_setCell _ _ _ _ (fun e => h (by have e' : k = B := e; rw [← e']; exact hk))).trans ho⟩
theorem Sl.newAt1 (w : World) (o : Obj) (cs : List Value) (e : TypeId) (n : Nat) (hn : cs.length = n) : Sl ((w.alloc o).alloc (.cells cs.toArray e)) 1 (some ⟨w.heap.size + 1, 0, none⟩) n cs := by
  have h := Sl.newAt (w.alloc o) cs e n hn
  rw [World.size_alloc] at h
  exact h
/-- A slice in a block that Q names. -/
def Sq (Q : Nat → Prop) (W : World) (A : Option Addr) (n : Nat) (xs : List Value) : Prop := Sl W 1 A n xs ∧ ∀ x : Addr, A = some x → Q x.block
theorem Sq.keep {Q : Nat → Prop} {W W' : World} {A : Option Addr} {n : Nat} {xs : List Value} (h : Sq Q W A n xs) (hk : Kept Q W W') : Sq Q W' A n xs :=
  ⟨⟨h.1.1, fun hn => by
    obtain ⟨b, off, rfl, h2⟩ := h.1.2 hn
    exact ⟨b, off, rfl, fun j v hj => hk.cell (a := ⟨b, off + j, none⟩) (show Q (⟨b, off, none⟩ : Addr).block from h.2 _ rfl) (h2 j v hj)⟩⟩, h.2⟩

/-- How picks ends: all have come, or a round has said 'no more'. -/
def PickRes (Q : Nat → Prop) (cnt : Nat) (J Jx : List Row → World → Prop) (pre : List Row) (W : World) (r : Bool) (W' : World) : Prop :=
  (r = true ∧ (∃ ys : List Row, ys.length = cnt ∧ J (pre ++ ys) W') ∧ Kept Q W W') ∨ (r = false ∧ ∃ ys : List Row, 0 < ys.length ∧ ys.length ≤ cnt ∧ Jx (pre ++ ys) W')
def PickEnd (Q : Nat → Prop) (cnt : Nat) (J Jx : List Row → World → Prop) (pre : List Row) (W : World) (e : Ending) (W' : World) : Prop := ∃ r, e = .returned (.bool r) ∧ PickRes Q cnt J Jx pre W r W'
end Go.Proofs.YtapledphhfiimaaGreatDoor
/-
  sets.Picks: the iterator's contract: its choices come one by one as the plain list says.
-/
namespace Go.Proofs.YtapledphhfiimaaGreatDoor
open Go.RowKit Go.Shelf
attribute [local go_sem] Oper.semAt_some
set_option maxRecDepth 100000
set_option linter.unusedVariables false

theorem room_none {F : Fence} (hd : F.depth = none) (k : Nat) : F.room k := fun d h => by rw [hd] at h; cases h
theorem roundIn_any {F : Fence} (hd : F.depth = none) {m m' : Nat} {P : Program} {l : Nat} {f : FuncId} {tmps : Array Value} {assign body : Code} {w : World} {R : Ending → World → Prop}
    (h : RoundIn F m P l f tmps assign body w R) : RoundIn F m' P l f tmps assign body w R := ⟨h.1, fun c cs _ => h.2 c cs (room_none hd _)⟩
theorem yieldAt_any {F : Fence} (hd : F.depth = none) {m : Nat} (m' : Nat) {P : Program} {l : Nat} {args : Array Value} {W : World} {R : Ending → World → Prop} (h : YieldAt F m P l args W R) : YieldAt F m' P l args W R := by
  obtain ⟨fn, tmps, assign, body, hy, hR⟩ := h
  exact ⟨fn, tmps, assign, body, hy, roundIn_any hd hR⟩

/-- What a round knows of the row that it is handed: a new one, the next of the list. -/
def Kn (n₁ : Nat) (G : List (List Int)) (pre : List Row) (x : Row) (W : World) : Prop :=
  W.ownsRow n₁ 3 1 (rv x) x.2.2.length (x.2.2.map (Value.int .i64)) ∧ G[pre.length]? = some x.2.2
/-- What a round is asked: where it may be called, and what it leaves. -/
def Asks (l : Nat) (Q : Nat → Prop) (n₁ N : Nat) (G : List (List Int)) (J Jx : List Row → World → Prop) : Prop :=
  ∀ (m : Nat) (pre : List Row) (x : Row) (W1 : World), J pre W1 → Kn n₁ G pre x W1 → pre.length < N → YieldAt Fence.wide m Tryz.prog l #[rv x] W1 fun e W' =>
    (e = .returned (.bool true) ∧ J (pre ++ [x]) W' ∧ Kq Q x W1 W') ∨ (e = .returned (.bool false) ∧ Jx (pre ++ [x]) W')

theorem choices_nat {S : List Int} {k : Nat} (h : k ≤ S.length) : choices S (k : Int) = combos k S := by
  unfold choices
  rw [if_pos (by omega)]
  rfl
theorem choices_none {S : List Int} {k : Int} (h : k < 0 ∨ (S.length : Int) < k) : choices S k = [] := by
  unfold choices
  rw [if_neg (by omega)]

/-! ### words for the laws' walks -/
theorem boxed_keep {W W' : World} {B : Nat} {t : TypeId} {v : Value} (h : Boxed W B t v) (hb : Below W.heap.size W W') : Boxed W' B t v := (hb.block B h.lt).trans h
theorem kn_put {n₁ : Nat} {G : List (List Int)} (pre : List Row) (x : Row) (W : World) (l : Nat) (o o' : Obj) (hl : W.heap[l]? = some o) (ho : o.isCells = false) (h : Kn n₁ G pre x W) : Kn n₁ G pre x (W.putObj l o') := ⟨ownsRow_putObj h.1 o' hl ho, h.2⟩
theorem ko_below {W W' : World} (hb : Below W.heap.size W W') : KeepsOthers W W' := ⟨hb.size, fun k o hk _ => (hb.block k (Array.getElem?_eq_some_iff.1 hk).1).trans hk⟩
theorem marks_end {F : Fence} {n : Nat} {P : Program} {fn : Func} {R : Ending → World → Prop} {a : Act} {w : World} {v : Value}
    (hd : a.defers = []) (hr : (results fn a.tmps).run P w = .ok v w) (hR : R (.returned v) w) : bodyPostM F n P fn R .ret a w := by
  show LeavesInM F n P fn a.tmps R a.defers .returning w
  rw [hd]
  exact ⟨v, hr, hR⟩
theorem marks_end1 {F : Fence} {n : Nat} {P : Program} {fn : Func} {R : Ending → World → Prop} {a : Act} {w : World} {v : Value} {D : Nat}
    (hd : a.defers = [{ target := .collected D, args := #[] }]) (hK : w.heap[D]? = some (.deferred (some []))) (hr : (results fn a.tmps).run P (w.putObj D (.deferred none)) = .ok v (w.putObj D (.deferred none))) (hR : R (.returned v) (w.putObj D (.deferred none))) : bodyPostM F n P fn R .ret a w := by
  show LeavesInM F n P fn a.tmps R a.defers .returning w
  rw [hd]
  refine ⟨by simp, .inl ⟨_, _, rfl, run_takeDeferred hK, ?_⟩⟩
  exact ⟨v, hr, hR⟩
end Go.Proofs.YtapledphhfiimaaGreatDoor
/-
  slices.Values, slices.AppendSeq, slices.Collect at ints: a list's numbers come one by one, and lie in a new row.
-/
namespace Go.Proofs.YtapledphhfiimaaGreatDoor
open Go.RowKit Go.Shelf
attribute [local go_sem] Oper.semAt_some
set_option maxRecDepth 100000
set_option linter.unusedVariables false

set_option maxHeartbeats 4000000 in
theorem values_gives (d n₀ : Nat) (hd : 1 ≤ d) (l : List Int) (A : Option Addr) (n c : Nat) (Bs : Nat) (w : World) (hsB : w.cell? ⟨Bs, 0, none⟩ = some (.slice A n c)) (hBs : Bs < w.heap.size)
    (hl : l.length = n) (hn : n ≤ 9223372036854775806) (hA : Sl w 1 A n (l.map (Value.int .i64))) (hAQ : 0 < n → ∀ x : Addr, A = some x → x.block < n₀) :
    GivesKnown Fence.wide d Tryz.prog 137 #[.pointer (some ⟨Bs, 0, none⟩)] (fun x : Int => #[.int .i64 x]) (fun pre x W => l[pre.length]? = some x) (fun _ => Kept (· < n₀)) (fun xs => xs = l) (fun _ => True) n w := by
  intro lp J Jx W hW hJ hJx hY h0
  have cs : W.cell? ⟨Bs, 0, none⟩ = some (.slice A n c) := (hW.cell (p := ⟨Bs, 0, none⟩) hBs).trans hsB
  have hsl := hA.keep hW
  clear hW hsB hJ hJx hA
  have HY := Lib.hid hY
  have HS := Lib.hid hsl
  have HQ := Lib.hid hAQ
  have H0 := Lib.hid h0
  have HL := Lib.hid hl
  clear hY hsl hAQ h0 hl
  refine callsIn_of_wp Tryz.func137 rfl trivial ?_ rfl
  simp only [Tryz.ntmps137, List.size_toArray, List.length_cons, List.length_nil, Nat.reduceAdd, Nat.reduceSub, Array.replicate_succ, Array.replicate_zero, List.push_toArray, List.append_toArray, List.nil_append, List.cons_append]
  gi_wp2
  gi_loopw [7] (fun i wr => ∃ k : Nat, k ≤ n ∧ i = .int .i64 k ∧ J (l.take k) wr ∧ Kept (· < n₀) W wr) (fun i _ => n - (intOf i).toNat)
  case atStart => exact ⟨0, Nat.zero_le _, rfl, H0.out, Kept.refl _ _⟩
  case round =>
    obtain ⟨k, hk, rfl, hJs, hkp⟩ := hrel
    have HJs := Lib.hid hJs
    have HK := Lib.hid hkp
    clear hJs hkp
    by_cases hlt : k < n
    · have hlt' : (k : Int) < (n : Int) := by omega
      have hlen : (l.take k).length = k := by rw [List.length_take, HL.out]; omega
      obtain ⟨x, hx⟩ : ∃ x, l[k]? = some x := ⟨_, List.getElem?_eq_getElem (by rw [HL.out]; exact hlt)⟩
      have hT : l.take (k + 1) = l.take k ++ [x] := by
        obtain ⟨h1, h2⟩ := List.getElem?_eq_some_iff.1 hx
        rw [List.take_succ_eq_append_getElem h1, h2]
      obtain ⟨bb, off, rfl, _⟩ := HS.out.at_ (show 0 < n by omega)
      have hsq : Sq (· < n₀) W (some ⟨bb, off, none⟩) n (l.map (Value.int .i64)) := ⟨HS.out, fun y hy => HQ.out (by omega) y hy⟩
      have c1 := (hsq.keep HK.out).1.again hlt (show (l.map (Value.int .i64))[k]? = some (.int .i64 x) by rw [List.getElem?_map, hx]; rfl)
      obtain ⟨fn, tmps, assign, body, hy, hR⟩ := HY.out (l.take k) x wr HJs.out (by rw [hlen]; exact hx) (by rw [hlen]; exact hlt)
      rw [← hT] at hR
      have HR := Lib.hid hR
      have HT := Lib.hid hT
      clear hR hT hx hlen hsq
      gi_wp2_with (refine HR.out.mono ?_; clear HR; rintro e W3 (⟨rfl, hJ3, hk3⟩ | ⟨rfl, hJx3⟩))
      · go_roundw
        case rel => exact ⟨k + 1, by omega, by go_num, hJ3, HK.out.trans hk3⟩
        case measure => simp [intOf]; omega
      · refine bodyPost_ret (results_none rfl _ _ _) rfl ?_
        exact ⟨⟨_, rfl⟩, .inr ⟨_, trivial, hJx3⟩⟩
    · obtain rfl : k = n := by omega
      have hlt' : ¬ (k : Int) < (k : Int) := by omega
      have HE := Lib.hid (show l.take k = l from List.take_of_length_le (by rw [HL.out]; exact Nat.le_refl _))
      gi_wp2
      go_end0
      exact ⟨⟨_, rfl⟩, .inl (by have h := HJs.out; rw [HE.out] at h; first | exact h | exact ⟨_, rfl, h⟩)⟩

theorem Values_any (A : Option Addr) (n c : Nat) (w : World) : Calls Tryz.prog 101 #[.slice A n c] w fun e w' => e = .returned (.func (.func 137) #[] #[.pointer (some ⟨w.heap.size, 0, none⟩)]) ∧ w' = w.alloc (.cells #[.slice A n c] 23) := by
  go_enter Tryz.func101, Tryz.ntmps101
  go_wp2_with fail
  go_ret
  exact ⟨rfl, rfl⟩

set_option maxHeartbeats 4000000 in
theorem AppendSeq_any (l : List Int) (A : Option Addr) (n c : Nat) (Bs : Nat) (w : World) (hsB : w.cell? ⟨Bs, 0, none⟩ = some (.slice A n c)) (hBs : Bs < w.heap.size)
    (hl : l.length = n) (hn : n ≤ 1048576) (hA : Sl w 1 A n (l.map (Value.int .i64))) (hAQ : 0 < n → ∀ x : Addr, A = some x → x.block < w.heap.size) :
    Calls Tryz.prog 161 #[.slice none 0 0, .func (.func 137) #[] #[.pointer (some ⟨Bs, 0, none⟩)]] w fun e w' => ∃ v, e = .returned v ∧ w'.ownsRow w.heap.size 3 1 v n (l.map (Value.int .i64)) ∧ Below w.heap.size w w' := by
  refine (callsIn_wide (n := 5)).1 ?_
  refine callsIn_of_wp_marks Tryz.func161 rfl trivial ?_ rfl
  simp only [Tryz.ntmps161, List.size_toArray, List.length_cons, List.length_nil, Nat.reduceAdd, Nat.reduceSub, Array.replicate_succ, Array.replicate_zero, List.push_toArray, List.append_toArray, List.nil_append, List.cons_append]
  gi_wp2
  have hw1 : (w.alloc (.cells #[.slice none 0 0] 23)).heap.size = w.heap.size + 1 := by simp
  have hb1 := bel_al (Below.refl w.heap.size w) (.cells #[.slice none 0 0] 23)
  have hgv := values_gives (5 - 1) w.heap.size (by omega) l A n c Bs _ ((hb1.cell (p := ⟨Bs, 0, none⟩) hBs).trans hsB) (by rw [hw1]; omega) hl (by omega) (hA.keep hb1) hAQ
  obtain ⟨i0, hi, hz0, hz1, hz2⟩ := info_parts elemInt.hi
  refine rangeFunc_one (fun x b => { b with tmps := b.tmps.setIfInBounds 5 (.int .i64 x) }) rfl (by omega) (gf := 137) (lb := #[.pointer (some ⟨Bs, 0, none⟩)]) rfl trivial (enters_of Tryz.func137 (by kernel_rfl) rfl)
    hgv (fun pre x W l o o' hl ho h => h) Kept.trans (fun _ W l o o' _ hl ho _ => Kept.putObj o' hl ho) (Below.refl _ _)
    (fun pre W => (∃ v, Boxed W w.heap.size 23 v ∧ W.ownsRow w.heap.size 3 1 v pre.length (pre.map (Value.int .i64)) ∧ True) ∧ Below w.heap.size w W) (fun _ _ _ => False)
    (OwnFrom.and (Own.from (holdsRow_own w.heap.size w.heap.size 23 3 1 (fun pre : List Int => pre.length) (fun pre => pre.map (Value.int .i64)) (fun _ _ => True)) _) (ownFrom_below (Nat.le_refl _) (by rw [hw1]; omega)))
    (fun c s A B row hs _ _ => hs.elim) ⟨⟨_, Boxed.new _ _ _, World.ownsRow_nil _ _ _ _, trivial⟩, hb1⟩ ?assign ?body ?done ?stop
  case assign =>
    intro l x W K hK
    gi_wp2
    exact hK
  case body =>
    rintro lp pre x W ⟨⟨v, hv, hrow, _⟩, hB⟩ hx hlt
    have hc := hv.cell
    have HV := Lib.hid hv
    have HR := Lib.hid hrow
    have HB := Lib.hid hB
    clear hv hrow hB hgv
    gi_wp2_with (gi_at_builtin; refine wpListIn_append_own _ rfl _ _ 23 rfl w.heap.size 3 i0 (.int .i64 0) 1 8 Tryz.underlying23 hi hz0 hz1 hz2 rfl (by decide) _ _ _ rfl (HR.out.alloc _) ⟨W.heap.size, 0, none⟩ 1 1 [.int .i64 x] rfl rfl (cell_one_new _ _ _) (by simp [Value.oneCell']) (by unfold maxLen; omega) (by omega) (by have := HB.out.size; simp; omega) ?_; intro v' w1 hown' hgrow _; obtain ⟨g', cap', rfl⟩ := ownsRow_succ hown'; obtain ⟨hv1, hv2, hr2, hk2, hb2⟩ := HV.out.appended (by decide) HR.out HB.out.size (Nat.le_refl _) hown' hgrow; have hc1 := hv1.cell; have hf1 := hv1.frozen)
    refine ⟨hk2, ⟨hb2.size, fun k o hk ho _ => (hb2.block k hk).trans ho⟩, ⟨_, hv2, ?_, trivial⟩, HB.out.trans hb2⟩
    rw [List.length_append, List.map_append]
    exact hr2
  case done =>
    rintro D xs W hD rfl ⟨⟨v, hv, hrow, _⟩, hB⟩ hK
    have hc := hv.cell
    rw [hw1] at hD
    gi_wp2
    refine ⟨by simp, .inl ⟨_, _, rfl, run_takeDeferred hK, ?_⟩⟩
    refine ⟨_, results_tmp rfl _ _ _, _, rfl, ?_, hB.trans (belowK_b (w := w) (Nat.le_refl _) W D _ _ (by omega) hK rfl rfl)⟩
    rw [hl] at hrow
    exact ownsRow_putObj hrow _ hK rfl
  case stop =>
    rintro D c pre W _ _ h _
    exact h.elim

theorem Collect_any (l : List Int) (A : Option Addr) (n c : Nat) (Bs : Nat) (w : World) (hsB : w.cell? ⟨Bs, 0, none⟩ = some (.slice A n c)) (hBs : Bs < w.heap.size)
    (hl : l.length = n) (hn : n ≤ 1048576) (hA : Sl w 1 A n (l.map (Value.int .i64))) (hAQ : 0 < n → ∀ x : Addr, A = some x → x.block < w.heap.size) :
    Calls Tryz.prog 135 #[.func (.func 137) #[] #[.pointer (some ⟨Bs, 0, none⟩)]] w fun e w' => ∃ v, e = .returned v ∧ w'.ownsRow w.heap.size 3 1 v n (l.map (Value.int .i64)) ∧ Below w.heap.size w w' := by
  have HC := Lib.hid (AppendSeq_any l A n c Bs w hsB hBs hl hn hA hAQ)
  clear hsB hBs hl hn hA hAQ
  go_enter Tryz.func135, Tryz.ntmps135
  go_wp2_with fail
  refine HC.out.mono ?_
  rintro e w' ⟨v, rfl, hown, hb⟩
  have HO := Lib.hid hown
  have HB := Lib.hid hb
  clear hown hb
  go_wp2_with fail
  go_ret
  exact ⟨v, rfl, HO.out, HB.out⟩
end Go.Proofs.YtapledphhfiimaaGreatDoor
