/-
  Part 19 of the proof of ConfLines: CfI, ListS, PatI.
-/
import Derived.BigQuiet
import Derived.Test.YtddedghnnkcnhaaGreatDoorConfLinesM15
import Derived.Test.YtddedghnnkcnhaaGreatDoorConfLinesM9
import Derived.Test.YtddedghnnkcnhaaGreatDoorConfLinesM18
import Derived.Test.YtddedghnnkcnhaaGreatDoorConfLinesM6
import Derived.Shelf.Spec.SlicesGrow
import Derived.Shelf.Spec.SlicesInsert
import Derived.Lib.AppendZerosOnto
import Derived.Lib.AppendZeros
import Derived.Lib.Overlaps
import Derived.Laws.CopyRow
import Derived.Deep.RegionLaw
import Derived.Test.YtddedghnnkcnhaaGreatDoorConfLinesM4
/-
  Chapter 22's statements: same, of two that are the same.
-/
namespace Go.Proofs.YtddedghnnkcnhaaGreatDoor
open Go.RowKit Go.Proofs.YtddedghnnkcnhaaGreatDoor.Pg
attribute [local go_sem ↓] Go.wp_at_zero Go.wp_at_succ
set_option maxRecDepth 100000
set_option linter.unusedVariables false

set_option maxHeartbeats 2000000 in
theorem Same22_any (c : Cf.CF) (A B : Option Addr) (n d e : Nat) (w : World) (hn : n ≤ 1000) (hs : Sl w 2 A n (Rk.cells c.keep)) (ht : Sl w 2 B n (Rk.cells c.keep)) (hr : rightG c.keep) (hT : TabW w) :
    Calls Tryz.prog 52 #[confV c A n d, confV c B n e] w fun e w' => e = .returned (.bool true) ∧ Below w.heap.size w w' := by
  obtain ⟨kd, sz, sp, wk, cp, kp⟩ := c
  simp only at hs ht hr ⊢
  obtain ⟨w0, hw0⟩ : ∃ W, W = (w.alloc (.cells #[.int .i64 kd, .int .i64 sz, .int .i64 sp, .int .i64 wk, .int .i64 cp, .slice A n d] 80)).alloc (.cells #[.int .i64 kd, .int .i64 sz, .int .i64 sp, .int .i64 wk, .int .i64 cp, .slice B n e] 80) := ⟨_, rfl⟩
  have HB0 := Lib.hid (show Below w.heap.size w w0 from by rw [hw0]; exact bel_al (bel_al (Below.refl _ _) _) _)
  have HK1 := Lib.hid (show Blk w0 w.heap.size 80 #[.int .i64 kd, .int .i64 sz, .int .i64 sp, .int .i64 wk, .int .i64 cp, .slice A n d] from by rw [hw0]; exact (Blk.new w _ _).alloc _)
  have HK2 := Lib.hid (show Blk w0 (w.heap.size + 1) 80 #[.int .i64 kd, .int .i64 sz, .int .i64 sp, .int .i64 wk, .int .i64 cp, .slice B n e] from by
    rw [hw0]
    have := Blk.new (w.alloc (.cells #[.int .i64 kd, .int .i64 sz, .int .i64 sp, .int .i64 wk, .int .i64 cp, .slice A n d] 80)) 80 #[.int .i64 kd, .int .i64 sz, .int .i64 sp, .int .i64 wk, .int .i64 cp, .slice B n e]
    rw [World.size_alloc] at this
    exact this)
  obtain ⟨T, hTx⟩ : ∃ T, T = bz (textG kp) := ⟨_, rfl⟩
  have hgi : ∀ o ∈ kp, (1 ≤ o.1 ∧ o.1 ≤ 8) ∧ i64P o.2 := fun o ho => ⟨(hr.2 o ho).1, by have := (hr.2 o ho).2.1; unfold i64P; omega⟩
  have HT1 := Lib.hid (show ∀ W, Below w0.heap.size w0 W → Calls Tryz.prog 57 #[.slice A n d] W fun e w' => e = .returned (.string T) ∧ Below w0.heap.size w0 w' from fun W hW => by
    have hb := HB0.out.andThen hW
    rw [hTx]
    exact (PgText_any kp A n d W hn (hs.keep hb) hgi (hT.keep hb)).mono fun e w' h => ⟨h.1, hW.andThen h.2⟩)
  have HT2 := Lib.hid (show ∀ W, Below w0.heap.size w0 W → Calls Tryz.prog 57 #[.slice B n e] W fun e w' => e = .returned (.string T) ∧ Below w0.heap.size w0 w' from fun W hW => by
    have hb := HB0.out.andThen hW
    rw [hTx]
    exact (PgText_any kp B n e W hn (ht.keep hb) hgi (hT.keep hb)).mono fun e w' h => ⟨h.1, hW.andThen h.2⟩)
  have HAll := Lib.hid (show ∀ W, Below w0.heap.size w0 W → W.cell? ⟨w.heap.size, 0, none⟩ = some (.int .i64 kd) ∧ W.cell? ⟨w.heap.size, 1, none⟩ = some (.int .i64 sz) ∧ W.cell? ⟨w.heap.size, 2, none⟩ = some (.int .i64 sp) ∧ W.cell? ⟨w.heap.size, 3, none⟩ = some (.int .i64 wk) ∧ W.cell? ⟨w.heap.size, 4, none⟩ = some (.int .i64 cp) ∧ W.cell? ⟨w.heap.size, 5, none⟩ = some (.slice A n d) ∧
      W.cell? ⟨w.heap.size + 1, 0, none⟩ = some (.int .i64 kd) ∧ W.cell? ⟨w.heap.size + 1, 1, none⟩ = some (.int .i64 sz) ∧ W.cell? ⟨w.heap.size + 1, 2, none⟩ = some (.int .i64 sp) ∧ W.cell? ⟨w.heap.size + 1, 3, none⟩ = some (.int .i64 wk) ∧ W.cell? ⟨w.heap.size + 1, 4, none⟩ = some (.int .i64 cp) ∧ W.cell? ⟨w.heap.size + 1, 5, none⟩ = some (.slice B n e) from fun W hW => by
    have k1 := HK1.out.keep hW
    have k2 := HK2.out.keep hW
    exact ⟨k1.cell 0, k1.cell 1, k1.cell 2, k1.cell 3, k1.cell 4, k1.cell 5, k2.cell 0, k2.cell 1, k2.cell 2, k2.cell 3, k2.cell 4, k2.cell 5⟩)
  clear hs ht hr hT hTx hgi HK1 HK2
  go_enter Tryz.func52, Tryz.ntmps52
  go_upto_region 1 with (fail)
  rw [← hw0]
  clear hw0
  refine wp_region_qq (fun W => Below w0.heap.size w0 W) (by kernel_rfl) (by kernel_rfl) (bel_drewN (Below.refl _ _) 1) ?_
  repeat (
    first
      | (apply qq_want
         · rfl
         · intro W hW
           have zz := HAll.out W hW
           go_simp
           first
             | done
             | exact rfl
             | with_reducible exact HT1.out W hW
             | with_reducible exact HT2.out W hW)
      | (refine qq_pass ?_ ?_
         · rfl)
    try simp only [Act.put, List.setIfInBounds_toArray, List.set_cons_zero, List.set_cons_succ])
  refine qq_nil ?_
  intro wq hbq
  have HBq := Lib.hid (HB0.out.andThen hbq)
  clear hbq
  go_wp2_with fail
  go_ret
  exact ⟨rfl, HBq.out⟩
end Go.Proofs.YtddedghnnkcnhaaGreatDoor
/-
  slices.Clip, Clone, Grow, Concat at ints; append onto a slice that is cut to its length.
-/
namespace Go.Proofs.YtddedghnnkcnhaaGreatDoor
open Go.RowKit Go.Shelf
set_option maxRecDepth 100000
set_option linter.unusedVariables false

section
variable {P : Program} {ops : Array Oper} {o : Oper} {a : Act} {Q : Exit → Act → World → Prop}
/-- append(s[:n:n], x...): a new row. -/
theorem run_full {t ty e : TypeId} {z : Value} {size bytes : Nat} (E : Elem P t e z size bytes) {W : World}
    {A : Option Addr} {n : Nat} {xs : List Value} (hxs : Sl W size A n xs) (hA : A = none → n = 0)
    {b off m c : Nat} {ys : List Value} (hy : Sl W size (some ⟨b, off, none⟩) m ys) (hm : 0 < m) (h1 : ∀ u ∈ ys, u.oneCell' = true)
    (hlim : (n + m) * bytes ≤ lim) (hlim' : n + m ≤ lim) :
    ∃ v' w', (Builtin.append_ #[t, t] ty #[.slice A n n, .slice (some ⟨b, off, none⟩) m c]).run P W = .ok v' w' ∧ w'.ownsRow W.heap.size e size v' (n + m) (xs ++ ys) ∧ Below W.heap.size W w' := by
  obtain ⟨i, hi, hz, hsize, hby⟩ := info_parts E.hi
  unfold lim at hlim hlim'
  have hadd : ∀ (b off j : Nat), (⟨b, off, none⟩ : Addr).add j = ⟨b, off + j, none⟩ := fun b off j => by unfold Addr.add; split <;> simp_all
  obtain ⟨b1, off1, h2, hc⟩ := hy.2 hm
  injection h2 with h2
  injection h2 with h2 h3 _
  subst h2 h3
  have hc' : ∀ j u, ys[j]? = some u → W.cell? ((⟨b, off, none⟩ : Addr).add j) = some u := fun j u hu => by rw [hadd]; exact hc j u hu
  rcases A with _ | A
  · obtain rfl : n = 0 := hA rfl
    obtain rfl : xs = [] := List.eq_nil_of_length_eq_zero (by simpa using hxs.1)
    obtain ⟨v', w', hr, h2, h3, _⟩ := run_append_own (P := P) W W.heap.size t ty e i z size bytes E.ht hi hz hsize hby E.hzs E.hsz (.slice none 0 0) 0 [] (World.ownsRow_nil W _ e size) ⟨b, off, none⟩ m c ys hy.1 hc' h1 (by unfold maxLen; omega) hlim (Nat.le_refl _)
    exact ⟨v', w', hr, h2, h3.os, h3.tape, h3.output, h3.size, fun k hk => h3.block k hk (fun e => by cases e)⟩
  · obtain ⟨v', w', hr, h2, h3⟩ := run_append_arg_grows (P := P) W t ty e i z size bytes E.ht hi hz hsize hby E.hzs E.hsz A n n xs hxs.1 (fun j u hu => by
      have hn : 0 < n := by
        have := (List.getElem?_eq_some_iff.1 hu).1
        rw [hxs.1] at this
        exact Nat.pos_of_ne_zero fun h => by rw [h, Nat.zero_mul] at this; omega
      obtain ⟨b2, off2, h2, h3⟩ := hxs.2 hn
      cases h2
      rw [hadd]; exact h3 j u hu) ⟨b, off, none⟩ m c ys hy.1 hc' (by omega) (by unfold maxLen; omega) hlim
    exact ⟨v', w', hr, h2, h3.os, h3.tape, h3.output, h3.size, fun k hk => h3.block k hk (fun e => by cases e)⟩
/-- The same as a step of a region that draws its order. -/
theorem step_full {t e : TypeId} {z : Value} {size bytes : Nat} (E : Elem P t e z size bytes) {W : World} {K : Act → World → Prop} {L : Prop} (s x : Operand)
    (hgd : o.guard = none) (ho : o.op = .call { callee := .builtin .append, args := #[s, x], argTypes := #[t, t] })
    {A : Option Addr} {n : Nat} {xs : List Value} (hxs : Sl W size A n xs) (hA : A = none → n = 0)
    {b off m c : Nat} {ys : List Value} (hy : Sl W size (some ⟨b, off, none⟩) m ys) (hm : 0 < m)
    (hs : a.eval s = .slice A n n) (hx : a.eval x = .slice (some ⟨b, off, none⟩) m c) (h1 : ∀ u ∈ ys, u.oneCell' = true)
    (hlim : (n + m) * bytes ≤ lim) (hlim' : n + m ≤ lim)
    (h : ∀ v' w', w'.ownsRow W.heap.size e size v' (n + m) (xs ++ ys) → Below W.heap.size W w' → K (a.put o.dst v') w') :
    if Region.wanted o (yielded ops a.tmps) = true then Oper.wp P o a W K Q else L := by
  have hw : Region.wanted o (yielded ops a.tmps) = true := by simp [Region.wanted, hgd]
  rw [if_pos hw]
  obtain ⟨v', w', hr, h2, h3⟩ := run_full (P := P) (ty := o.type) (c := c) E hxs hA hy hm h1 hlim hlim'
  unfold Oper.wp execOp
  simp only [ho, resolve, invoke, builtin, Sem.run_bind, Sem.run_pure, Result.andThen_ok, List.map_toArray, List.map_cons, List.map_nil, hs, hx, hr]
  exact h v' w' h2 h3
end

set_option maxHeartbeats 2000000 in
theorem CloneI_own (l : List Int) (A : Option Addr) (n c : Nat) (w : World) (hl : l.length = n) (hn : n ≤ 1099511627776) (hs : Sl w 1 A n (l.map (Value.int .i64))) :
    Calls Tryz.prog 151 #[.slice A n c] w fun e w' => ∃ v, e = .returned v ∧ w'.ownsRow w.heap.size 3 1 v n (l.map (Value.int .i64)) ∧ Below w.heap.size w w' := by
  have nn := fun (w : World) (a : Option Addr) (n c : Nat) => Lib.run_eql_slice_nil (P := Tryz.prog) w 22 3 a n c 0 0 Tryz.underlying22
  have HS := Lib.hid hs
  go_enter Tryz.func151, Tryz.ntmps151
  rcases A with _ | A
  · have hn0 : n = 0 := by
      rcases Nat.eq_zero_or_pos n with h | h
      · exact h
      · obtain ⟨_, _, h, _⟩ := hs.2 h; cases h
    subst hn0
    clear hs
    go_wp2_with fail
    go_ret
    obtain rfl := List.eq_nil_of_length_eq_zero hl
    exact ⟨_, rfl, World.ownsRow_nil _ _ _ _, Below.refl _ _⟩
  · have hbA := bel_al (Below.refl w.heap.size w) (.cells #[] 3)
    have HOE := Lib.hid (World.ownsRow_made (e := 3) (size := 1) w #[] 0 (Nat.le_refl _) (Nat.zero_le _) rfl)
    have HBA := Lib.hid hbA
    have SPA := Lib.hid (HS.out.keep hbA)
    clear hs hbA
    go_wp2_with (at_builtin; refine wpList_cat_at elemInt _ _ rfl rfl HOE.out HBA.out.size SPA.out rfl rfl (one_i64 _) (by unfold lim; omega) (by unfold lim; omega) ?_; intro v8 w8 hown8 hg8; have HO8 := Lib.hid hown8; have HB8 := Lib.hid (HBA.out.trans (hg8.belowOwn HBA.out.size HOE.out)); clear hown8 hg8 HOE HBA SPA)
    go_ret
    have hown := HO8.out
    rw [List.nil_append, Nat.zero_add] at hown
    exact ⟨_, rfl, hown, HB8.out⟩
theorem CloneI_any (l : List Int) (A : Option Addr) (n c : Nat) (w : World) (hl : l.length = n) (hn : n ≤ 1099511627776) (hs : Sl w 1 A n (l.map (Value.int .i64))) :
    Calls Tryz.prog 151 #[.slice A n c] w fun e w' => ∃ C k, e = .returned (.slice C n k) ∧ Sl w' 1 C n (l.map (Value.int .i64)) ∧ (n ≤ k ∧ k ≤ 9223372036854775807) ∧ Below w.heap.size w w' :=
  (CloneI_own l A n c w hl hn hs).mono fun e w' ⟨v, he, hown, hb⟩ => by
    obtain ⟨C, k, rfl, hsl⟩ := Sl.own hown
    exact ⟨C, k, he, hsl, own_cap hown, hb⟩

/-- All that some lists hold. -/
def flat (L : List (Option Addr × Nat × List Int)) : List Int := L.flatMap (·.2.2)
theorem flat_snoc {L : List (Option Addr × Nat × List Int)} {k : Nat} {D : Option Addr} {d : Nat} {l : List Int} (h : L[k]? = some (D, d, l)) : flat (L.take (k + 1)) = flat (L.take k) ++ l := by
  obtain ⟨hk, he⟩ := List.getElem?_eq_some_iff.1 h
  unfold flat
  rw [List.take_succ_eq_append_getElem hk, List.flatMap_append, he]; simp
theorem flat_part (L : List (Option Addr × Nat × List Int)) (k : Nat) : (flat (L.take k)).length ≤ (flat L).length := by
  have h : flat L = flat (L.take k) ++ flat (L.drop k) := by unfold flat; rw [← List.flatMap_append, List.take_append_drop]
  rw [h, List.length_append]; omega

end Go.Proofs.YtddedghnnkcnhaaGreatDoor
/-
  slices.Insert of one edge into a row that the call owns.
-/
namespace Go.Proofs.YtddedghnnkcnhaaGreatDoor
open Go.RowKit Go.Proofs
attribute [local go_sem ↓] Go.wp_at_zero Go.wp_at_succ
set_option maxRecDepth 100000
set_option linter.unusedVariables false

/-- copy of elements of s cells each. -/
theorem run_copy_rowS {P : Program} (s : Nat) (w : World) (dT sT ty elem : TypeId) (g o dLen dCap : Nat) (a : Addr) (sLen sCap : Nat) (cur : Array Value) (t : TypeId) (cs : List Value)
    (hu : P.underlying dT = some (.slice elem)) (hs : (P.info? elem).map (·.size) = some s)
    (hg : w.heap[g]? = some (.cells cur t (0, 0))) (hn : cs.length = Nat.min sLen dLen * s)
    (hsrc : ∀ j v, cs[j]? = some v → w.cell? (a.add j) = some v) (hfit : o + cs.length ≤ cur.size) (h1 : ∀ v ∈ cs, v.oneCell' = true) :
    (Builtin.copy_ #[dT, sT] ty #[.slice (some ⟨g, o, none⟩) dLen dCap, .slice (some a) sLen sCap]).run P w =
      .ok (goInt (Nat.min sLen dLen)) (w.setRow g (cur.toList.take o ++ cs ++ cur.toList.drop (o + cs.length)).toArray) := by
  have hl := run_loadCells_list (P := P) w a cs hsrc
  have hst := run_storeCells_at P g o t cs 0 cur w hg (by simpa using hfit) h1
  cases hq : P.info? elem with
  | none => simp [hq] at hs
  | some i =>
    have hi : i.size = s := by simpa [hq] using hs
    simp [Builtin.copy_, run_underlying hu, Builtin.lenOf, Builtin.firstCells, sizeOf, typeInfo, hq, hi, ← hn, hl, hst]

theorem splice_shift {α : Type} (X E Y Z : List α) (hZ : E.length ≤ Z.length) :
    ∃ T, (((X ++ Y ++ Z).take (X.length + E.length) ++ Y ++ (X ++ Y ++ Z).drop (X.length + E.length + Y.length)).take X.length ++ E ++ ((X ++ Y ++ Z).take (X.length + E.length) ++ Y ++ (X ++ Y ++ Z).drop (X.length + E.length + Y.length)).drop (X.length + E.length)) = X ++ E ++ Y ++ T := by
  obtain ⟨D, hD⟩ : ∃ D, D = (X ++ Y ++ Z).drop (X.length + E.length + Y.length) := ⟨_, rfl⟩
  rw [← hD]
  have h1 : ((X ++ Y ++ Z).take (X.length + E.length)).length = X.length + E.length := by
    rw [List.length_take, List.length_append, List.length_append]; omega
  have h2 : ((X ++ Y ++ Z).take (X.length + E.length)).take X.length = X := by
    rw [List.take_take, Nat.min_eq_left (by omega), List.append_assoc, List.take_left']
    rfl
  obtain ⟨Q, hQ⟩ : ∃ Q, Q = (X ++ Y ++ Z).take (X.length + E.length) := ⟨_, rfl⟩
  rw [← hQ] at h1 h2 ⊢
  have f1 : (Q ++ Y ++ D).take X.length = X := by rw [List.append_assoc, List.take_append_of_le_length (by omega), h2]
  have f2 : (Q ++ Y ++ D).drop (X.length + E.length) = Y ++ D := by rw [List.append_assoc]; exact List.drop_left' h1
  refine ⟨D, ?_⟩
  rw [f1, f2]
  simp
theorem splice_fresh {α : Type} (X E Y R : List α) (hR : E.length + Y.length ≤ R.length) :
    ∃ T, (((X ++ R).take X.length ++ E ++ (X ++ R).drop (X.length + E.length)).take (X.length + E.length) ++ Y ++ ((X ++ R).take X.length ++ E ++ (X ++ R).drop (X.length + E.length)).drop (X.length + E.length + Y.length)) = X ++ E ++ Y ++ T := by
  have h1 : (X ++ R).take X.length = X := List.take_left' rfl
  rw [h1]
  refine ⟨(X ++ E ++ (X ++ R).drop (X.length + E.length)).drop (X.length + E.length + Y.length), ?_⟩
  have h2 : (X ++ E ++ (X ++ R).drop (X.length + E.length)).take (X.length + E.length) = X ++ E := List.take_left' (by simp)
  rw [h2]
theorem cells_take (R : List (Int × Int)) (i : Nat) : (Rk.cells R).take (i * 2) = Rk.cells (R.take i) := by
  induction R generalizing i with
  | nil => simp [Rk.cells]
  | cons a R ih =>
    cases i with
    | zero => simp [Rk.cells]
    | succ i =>
      rw [show (i + 1) * 2 = i * 2 + 1 + 1 by omega]
      have := ih i
      simp only [Rk.cells, List.take_succ_cons, List.flatMap_cons] at this ⊢
      simp only [List.cons_append, List.nil_append, List.take_succ_cons, this]
theorem cells_append (R S : List (Int × Int)) : Rk.cells (R ++ S) = Rk.cells R ++ Rk.cells S := by simp [Rk.cells]
theorem cells_one (R : List (Int × Int)) : ∀ v ∈ Rk.cells R, v.oneCell' = true := by
  intro v hv
  unfold Rk.cells at hv
  obtain ⟨e, _, h⟩ := List.mem_flatMap.1 hv
  simp at h
  rcases h with rfl | rfl <;> rfl

theorem cells_drop (R : List (Int × Int)) (i : Nat) : Rk.cells R = (Rk.cells R).take (i * 2) ++ Rk.cells (R.drop i) := by
  conv => lhs; rw [← List.take_append_drop i R, cells_append]
  rw [cells_take]
/-- A row with an edge put in. -/
def insE (R : List (Int × Int)) (i : Nat) (e : Int × Int) : List (Int × Int) := R.take i ++ e :: R.drop i
theorem cells_ins (R : List (Int × Int)) (i : Nat) (e : Int × Int) : Rk.cells (insE R i e) = Rk.cells (R.take i) ++ [.int .i64 e.1, .int .i64 e.2] ++ Rk.cells (R.drop i) := by
  unfold insE
  rw [cells_append]
  simp [Rk.cells]
theorem ins_len (R : List (Int × Int)) (i : Nat) (e : Int × Int) : (insE R i e).length = R.length + 1 := by
  unfold insE
  rw [List.length_append, List.length_cons, List.length_take, List.length_drop]
  omega
theorem grownBy_setRow (w : World) (g : Nat) (cs : Array Value) : w.grownBy (w.setRow g cs) (some g) :=
  ⟨rfl, rfl, rfl, by simp [World.setRow], fun k _ hk => setRow_other w g k cs (fun e => hk (by rw [e]))⟩

theorem Gr.like {w w' : World} {v u v' : Value} (h : Gr w w' v v') (hu : u.ownBlock = v.ownBlock) : Gr w w' u v' := ⟨by rw [hu]; exact h.g, by rw [hu]; exact h.at_⟩
set_option maxHeartbeats 8000000 in
theorem Insert_any (R : List (Int × Int)) (e : Int × Int) (B n i vb : Nat) (v : Value) (W : World) (hn : R.length = n) (hn9 : n ≤ 1000) (hi : i ≤ n) (hown : W.ownsRow B 121 2 v n (Rk.cells R)) (hBW : B ≤ W.heap.size)
    (hvb : Blk W vb 121 #[.int .i64 e.1, .int .i64 e.2]) (hne : v.ownBlock ≠ some vb) :
    Calls Tryz.prog 153 #[v, .int .i64 (i : Int), .slice (some ⟨vb, 0, none⟩) 1 1] W fun e' w' => ∃ v', e' = .returned v' ∧ w'.ownsRow B 121 2 v' (n + 1) (Rk.cells (insE R i e)) ∧ Gr W w' v v' := by
  obtain ⟨e1, e2⟩ := e
  by_cases hin : i = n
  · subst hin
    have HO := Lib.hid hown
    have HV := Lib.hid hvb
    have HE := Lib.hid (show Rk.cells (insE R i (e1, e2)) = Rk.cells R ++ [.int .i64 e1, .int .i64 e2] by
      rw [cells_ins, List.take_of_length_le (by omega), List.drop_of_length_le (by omega)]
      simp [Rk.cells])
    have HSv := Lib.hid (show Sl W 2 (some ⟨vb, 0, none⟩) 1 [.int .i64 e1, .int .i64 e2] from ⟨rfl, fun _ => ⟨vb, 0, rfl, fun j u hj => by
      rw [Nat.zero_add, hvb.cell]
      match j, hj with
      | 0, hj => exact hj
      | 1, hj => exact hj⟩⟩)
    rcases hown.2 with ⟨rfl, h0⟩ | ⟨g, cap, cur, rfl, hBg, hg, hnc, hcm, hcs, htk⟩
    · subst h0
      clear hown hvb
      go_enter Tryz.func153, Tryz.ntmps153
      go_wp2_with (at_builtin; refine wpList_cat_at elemEdge _ _ rfl rfl HO.out hBW HSv.out rfl rfl (by simp [Value.oneCell']) (by unfold lim; omega) (by unfold lim; omega) ?_; intro v' w' hown' hgr)
      go_ret
      exact ⟨_, rfl, by rw [HE.out]; exact hown', hgr⟩
    · have hci : (i : Int) ≤ (cap : Int) := by omega
      clear hown hvb hg hcs htk
      go_enter Tryz.func153, Tryz.ntmps153
      go_wp2_with (at_builtin; refine wpList_cat_at elemEdge _ _ rfl rfl HO.out hBW HSv.out rfl rfl (by simp [Value.oneCell']) (by unfold lim; omega) (by unfold lim; omega) ?_; intro v' w' hown' hgr)
      all_goals (
        go_ret
        exact ⟨_, rfl, by rw [HE.out]; exact hown', hgr.like rfl⟩)
  · have hin' : i < n := by omega
    have hn1 : ¬ ((i : Int) = (n : Int)) := by omega
    have hown2 := hown
    rcases hown.2 with ⟨rfl, h0⟩ | ⟨g, cap, cur, rfl, hBg, hg, hnc, hcm, hcs, htk⟩
    · omega
    have hgv : vb ≠ g := fun e => hne (by rw [e]; rfl)
    have hX : (Rk.cells (R.take i)).length = i * 2 := by rw [Rk.cells_length, List.length_take]; omega
    have hY : (Rk.cells (R.drop i)).length = (n - i) * 2 := by rw [Rk.cells_length, List.length_drop]; omega
    have hcl : cur.toList = Rk.cells (R.take i) ++ Rk.cells (R.drop i) ++ cur.toList.drop (n * 2) := by
      rw [← cells_append, List.take_append_drop, ← htk, List.take_append_drop]
    have hsl := Sl.of_own hown
    have hsY : ∀ j u, (Rk.cells (R.drop i))[j]? = some u → W.cell? ⟨g, i * 2 + j, none⟩ = some u := fun j u hj => by
      obtain ⟨b, off, hb, hc⟩ := hsl.2 (by omega)
      cases hb
      have := hc (i * 2 + j) u (by rw [cells_drop R i, List.getElem?_append_right (by rw [cells_take, hX]; omega), cells_take, hX, Nat.add_sub_cancel_left]; exact hj)
      rw [Nat.zero_add] at this
      exact this
    have hsz : (Tryz.prog.info? 121).map (·.size) = some 2 := by kernel_rfl
    have hg63 : cap ≤ 9223372036854775807 := by unfold maxLen at hcm; exact hcm
    by_cases hroom : n + 1 ≤ cap
    · have hroom' : ¬ (cap : Int) < (n : Int) + 1 := by omega
      have hov : ∀ lb cb, (callFunc 200 #[.slice (some ⟨vb, 0, none⟩) 1 1, .slice (some ⟨g, (i + 1) * 2, none⟩) lb cb]).run Tryz.prog W = .ok (.value (.bool false)) W := fun lb cb => by
        rw [run_callFunc_extern Tryz.func200 (by kernel_rfl) (by kernel_rfl) (by kernel_rfl) (e := Extern.SlicesOverlaps.overlaps #[29, 29] #[4]) (by kernel_rfl),
          Lib.run_overlaps_apart W 29 4 121 Tryz.underlying29 2 Tryz.sizeOf121 ⟨vb, 0, none⟩ ⟨g, (i + 1) * 2, none⟩ 1 1 lb cb hgv 121 121 2 cur.size (by simp [World.shape?, show W.heap[vb]? = _ from hvb]) (by simp [World.shape?, hg]) (by omega) (hvb.frozen 0) (hvb.frozen 2)]
        rfl
      have hw1 : IntKind.i64.wrap ((i : Int) + 1) = (i : Int) + 1 := by rw [IntKind.wrap_i64]; omega
      have hw2 : IntKind.i64.wrap ((n : Int) + 1) = (n : Int) + 1 := by rw [IntKind.wrap_i64]; omega
      have htn : ((i : Int) + 1).toNat = i + 1 := by omega
      have hb1 : (0 : Int) ≤ (i : Int) + 1 := by omega
      have hb2 : ¬ (cap = i + 1) := by omega
      have hb3 : (i : Int) ≤ (n : Int) + 1 := by omega
      have hb4 : ¬ (cap = i) := by omega
      have hb5 : (n : Int) + 1 ≤ (cap : Int) := by omega
      have hb6 : (i : Int) + 1 ≤ (n : Int) + 1 := by omega
      obtain ⟨Y, hYe⟩ : ∃ Y, Y = Rk.cells (R.drop i) := ⟨_, rfl⟩
      obtain ⟨X, hXe⟩ : ∃ X, X = Rk.cells (R.take i) := ⟨_, rfl⟩
      obtain ⟨Z, hZe⟩ : ∃ Z, Z = cur.toList.drop (n * 2) := ⟨_, rfl⟩
      have hZl : 2 ≤ Z.length := by rw [hZe, List.length_drop, Array.length_toList, hcs]; omega
      have hY1 : ∀ u ∈ Y, u.oneCell' = true := by rw [hYe]; exact cells_one _
      rw [← hYe] at hsY hY hcl
      rw [← hXe] at hX hcl
      rw [← hZe] at hcl
      have hcurl : cur.size = X.length + Y.length + Z.length := by rw [← Array.length_toList, hcl, List.length_append, List.length_append]
      obtain ⟨cur1, hc1⟩ : ∃ cur1 : Array Value, cur1 = (cur.toList.take ((i + 1) * 2) ++ Y ++ cur.toList.drop ((i + 1) * 2 + Y.length)).toArray := ⟨_, rfl⟩
      obtain ⟨W1, hW1⟩ : ∃ W1, W1 = W.drew.setRow g cur1 := ⟨_, rfl⟩
      have hgW1 : W1.heap[g]? = some (.cells cur1 121 (0, 0)) := by rw [hW1]; exact setRow_heap W.drew g cur cur1 _ _ hg
      have hgb1 : W.grownBy W1 (some g) := by rw [hW1]; exact ⟨rfl, rfl, rfl, (grownBy_setRow W.drew g cur1).size, (grownBy_setRow W.drew g cur1).block⟩
      have hcp1 : ∀ ty dc sc, (Builtin.copy_ #[29, 29] ty #[.slice (some ⟨g, (i + 1) * 2, none⟩) (n - i) dc, .slice (some ⟨g, i * 2, none⟩) (n + 1 - i) sc]).run Tryz.prog W.drew = .ok (goInt (Nat.min (n + 1 - i) (n - i))) W1 := fun ty dc sc => by
        rw [hW1, hc1]
        exact run_copy_rowS 2 W.drew _ _ ty 121 g ((i + 1) * 2) _ dc ⟨g, i * 2, none⟩ _ sc cur _ Y Tryz.underlying29 hsz hg (by rw [hY]; congr 1; simp only [Nat.min_def]; split <;> omega) (fun j u hj => by rw [Addr.add_lit]; exact hsY j u hj) (by rw [hcurl, hX]; omega) hY1
      obtain ⟨cur2, hc2⟩ : ∃ cur2 : Array Value, cur2 = (cur1.toList.take (i * 2) ++ [Value.int .i64 e1, Value.int .i64 e2] ++ cur1.toList.drop (i * 2 + 2)).toArray := ⟨_, rfl⟩
      obtain ⟨W2, hW2⟩ : ∃ W2, W2 = W1.setRow g cur2 := ⟨_, rfl⟩
      have hgW2 : W2.heap[g]? = some (.cells cur2 121 (0, 0)) := by rw [hW2]; exact setRow_heap W1 g cur1 cur2 _ _ hgW1
      have hgb2 : W1.grownBy W2 (some g) := by rw [hW2]; exact grownBy_setRow W1 g cur2
      obtain ⟨Tl, hTl⟩ := splice_shift X [Value.int .i64 e1, Value.int .i64 e2] Y Z hZl
      have hi2 : (i + 1) * 2 = X.length + 2 := by omega
      have hf2 : cur2.toList = X ++ [.int .i64 e1, .int .i64 e2] ++ Y ++ Tl := by
        rw [hc2, hc1, List.toList_toArray, List.toList_toArray, hcl, hi2, ← hX]
        exact hTl
      have hs2 : cur2.size = cap * 2 := by
        rw [hc2, List.size_toArray, hc1, List.toList_toArray]
        simp only [List.length_append, List.length_take, List.length_drop, List.length_cons, List.length_nil, Array.length_toList]
        omega
      have hvW1 : ∀ j u, [Value.int .i64 e1, .int .i64 e2][j]? = some u → W1.cell? ⟨vb, j, none⟩ = some u := fun j u hj => by
        rw [(hvb.grown hgb1 (fun e => hgv (Option.some.inj e))).cell]
        match j, hj with
        | 0, hj => exact hj
        | 1, hj => exact hj
      have hcp2 : ∀ ty dc, (Builtin.copy_ #[29, 29] ty #[.slice (some ⟨g, i * 2, none⟩) (n + 1 - i) dc, .slice (some ⟨vb, 0, none⟩) 1 1]).run Tryz.prog W1 = .ok (goInt (Nat.min 1 (n + 1 - i))) W2 := fun ty dc => by
        rw [hW2, hc2]
        refine run_copy_rowS 2 W1 _ _ ty 121 g (i * 2) _ dc ⟨vb, 0, none⟩ _ 1 cur1 _ [.int .i64 e1, .int .i64 e2] Tryz.underlying29 hsz hgW1 (by rw [show Nat.min 1 (n + 1 - i) = 1 from Nat.min_eq_left (by omega)]; rfl) (fun j u hj => by rw [Addr.add_lit, Nat.zero_add]; exact hvW1 j u hj) ?_ (by simp [Value.oneCell'])
        rw [hc1]
        simp only [List.size_toArray, List.length_append, List.length_take, List.length_drop, List.length_cons, List.length_nil, Array.length_toList]
        omega
      have HFin := Lib.hid (show W2.ownsRow B 121 2 (.slice (some ⟨g, 0, none⟩) (n + 1) cap) (n + 1) (Rk.cells (insE R i (e1, e2))) ∧ Gr W W2 (.slice (some ⟨g, 0, none⟩) n cap) (.slice (some ⟨g, 0, none⟩) (n + 1) cap) from by
        refine ⟨⟨by rw [Rk.cells_length, ins_len, hn], .inr ⟨g, cap, cur2, rfl, hBg, hgW2, hroom, hcm, hs2, ?_⟩⟩, ?_, fun k hk => .inl hk⟩
        · rw [hf2, cells_ins, ← hXe, ← hYe]
          exact List.take_left' (by simp only [List.length_append, List.length_cons, List.length_nil, hX, hY]; omega)
        · exact ⟨hgb2.os.trans hgb1.os, hgb2.tape.trans hgb1.tape, hgb2.output.trans hgb1.output, Nat.le_trans hgb1.size hgb2.size, fun k hk hne => (hgb2.block k (Nat.lt_of_lt_of_le hk hgb1.size) hne).trans (hgb1.block k hk hne)⟩)
      clear hown hvb hg hcs htk hown2 hsl hsY hcl hX hY hYe hXe hZe hZl hY1 hcurl hc1 hW1 hgW1 hgb1 hc2 hW2 hgW2 hgb2 hTl hf2 hs2 hvW1 hi2
      go_enter Tryz.func153, Tryz.ntmps153
      go_wp2_with (simp only [hov])
      go_region_law (refine step_copy_runI rfl (.tmp 73) (.tmp 76) 29 29 rfl _ _ (by simp [Act.eval, Act.put]) (by simp [Act.eval, Act.put]) (hcp1 _ _ _) ?_)
      all_goals go_wp2_with (at_builtin; refine wpList_copy_runI _ rfl (.tmp 80) (.tmp 81) 29 29 rfl _ _ rfl rfl (hcp2 _ _) ?_)
      all_goals go_ret
      all_goals exact ⟨_, rfl, HFin.out.1, HFin.out.2.like rfl⟩
    · have hcn : cap = n := by omega
      subst hcn
      have hroom' : (cap : Int) < (cap : Int) + 1 := by omega
      obtain ⟨Y, hYe⟩ : ∃ Y, Y = Rk.cells (R.drop i) := ⟨_, rfl⟩
      obtain ⟨X, hXe⟩ : ∃ X, X = Rk.cells (R.take i) := ⟨_, rfl⟩
      have hY1 : ∀ u ∈ Y, u.oneCell' = true := by rw [hYe]; exact cells_one _
      have hXs : ∀ j u, X[j]? = some u → W.cell? ⟨g, j, none⟩ = some u := fun j u hj => by
        obtain ⟨b, off, hb, hc⟩ := hsl.2 (by omega)
        cases hb
        have := hc j u (by rw [cells_drop R i, cells_take, List.getElem?_append_left (by rw [← hXe]; exact (List.getElem?_eq_some_iff.1 hj).1), ← hXe]; exact hj)
        rw [Nat.zero_add] at this
        exact this
      rw [← hYe] at hsY hY
      rw [← hXe] at hX
      obtain ⟨i0, hi0, hz0, hzs, hzb⟩ := info_parts elemEdge.hi
      have hgw : g < W.heap.size := (Array.getElem?_eq_some_iff.1 hg).1
      obtain ⟨k, hk⟩ : ∃ k, k = cap + 1 - i := ⟨_, rfl⟩
      have hik : i + k = cap + 1 := by omega
      obtain ⟨G, hG⟩ : ∃ G, G = grownCap W (cap + 1) cap 121 := ⟨_, rfl⟩
      have hGn : cap + 1 ≤ G := by rw [hG]; exact grownCap_ge W _ _ _
      have hGm : G ≤ maxLen := by rw [hG]; exact grownCap_le_maxLen W _ _ _ (by unfold maxLen; omega)
      have hG63 : G ≤ 9223372036854775807 := by unfold maxLen at hGm; exact hGm
      obtain ⟨ROW, hROW⟩ : ∃ ROW : Array Value, ROW = X.toArray ++ Builtin.zeroCells (Value.agg #[.int .i64 0, .int .i64 0]).cells k ++ Builtin.zeroCells (Value.agg #[.int .i64 0, .int .i64 0]).cells (G - (cap + 1)) := ⟨_, rfl⟩
      obtain ⟨Wa, hWa⟩ : ∃ Wa, Wa = W.drew.alloc (.cells ROW 121) := ⟨_, rfl⟩
      have hold : (Builtin.firstCells i0.size i (.slice (some ⟨g, 0, none⟩) i cap)).run Tryz.prog W.drew = .ok X.toArray W.drew := by
        rw [hzs]
        exact run_firstCells_some (P := Tryz.prog) W.drew 2 i ⟨g, 0, none⟩ i cap X hX (fun j u hj => by rw [Addr.add_lit, Nat.zero_add]; exact hXs j u hj)
      have hrz : ∀ ty, (Builtin.append_ #[29, 3] ty #[.slice (some ⟨g, 0, none⟩) i cap, .int .i64 ((cap : Int) + 1 - (i : Int))]).run Tryz.prog W = .ok (.slice (some ⟨W.heap.size, 0, none⟩) (cap + 1) G) Wa := fun ty => by
        have h := Lib.run_append_grow_zeros (P := Tryz.prog) W 29 3 ty 121 i0 _ .i64 .i64 Tryz.underlying29 Tryz.underlying3 hi0 hz0 (some ⟨g, 0, none⟩) i cap X hold k (by omega) (by omega) (by omega) (by omega) (by rw [hzb]; omega) (by rw [hzb, hik]; exact growslice_fits (by omega) (by omega))
        rw [hik, ← hG, ← hROW, ← hWa] at h
        rw [show (cap : Int) + 1 - (i : Int) = (k : Int) by omega]
        exact h
      have hRs : ROW.size = G * 2 := by
        rw [hROW]
        simp [Builtin.zeroCells, Value.cells, hX]
        omega
      obtain ⟨RR, hRR⟩ : ∃ RR, ROW.toList = X ++ RR := ⟨_, by rw [hROW, Array.toList_append, Array.toList_append, List.append_assoc]⟩
      have hRRl : RR.length = G * 2 - i * 2 := by
        have h := congrArg List.length hRR
        rw [Array.length_toList, hRs, List.length_append, hX] at h
        omega
      have hgWa : Wa.heap[W.heap.size]? = some (.cells ROW 121 (0, 0)) := by rw [hWa]; exact heap_alloc_new W.drew _
      have hbWa : Below W.heap.size W Wa := by rw [hWa]; exact bel_al (bel_drewN (Below.refl _ _) 1) _
      have hvWa : ∀ j u, [Value.int .i64 e1, Value.int .i64 e2][j]? = some u → Wa.cell? ⟨vb, j, none⟩ = some u := fun j u hj => by
        rw [(hvb.keep hbWa).cell]
        match j, hj with
        | 0, hj => exact hj
        | 1, hj => exact hj
      obtain ⟨curA, hcA⟩ : ∃ curA : Array Value, curA = (ROW.toList.take (i * 2) ++ [Value.int .i64 e1, Value.int .i64 e2] ++ ROW.toList.drop (i * 2 + 2)).toArray := ⟨_, rfl⟩
      obtain ⟨W1, hW1⟩ : ∃ W1, W1 = Wa.setRow W.heap.size curA := ⟨_, rfl⟩
      have hgW1 : W1.heap[W.heap.size]? = some (.cells curA 121 (0, 0)) := by rw [hW1]; exact setRow_heap Wa _ ROW curA _ _ hgWa
      have hbW1 : Below W.heap.size W W1 := by rw [hW1]; exact hbWa.trans ⟨rfl, rfl, rfl, (grownBy_setRow Wa W.heap.size curA).size, fun q hq => setRow_other Wa W.heap.size q curA (by omega)⟩
      have hcpA : ∀ ty dc, (Builtin.copy_ #[29, 29] ty #[.slice (some ⟨W.heap.size, i * 2, none⟩) (cap + 1 - i) dc, .slice (some ⟨vb, 0, none⟩) 1 1]).run Tryz.prog Wa = .ok (goInt (Nat.min 1 (cap + 1 - i))) W1 := fun ty dc => by
        rw [hW1, hcA]
        exact run_copy_rowS 2 Wa _ _ ty 121 W.heap.size (i * 2) _ dc ⟨vb, 0, none⟩ _ 1 ROW _ [Value.int .i64 e1, Value.int .i64 e2] Tryz.underlying29 hsz hgWa (by rw [show Nat.min 1 (cap + 1 - i) = 1 from Nat.min_eq_left (by omega)]; rfl) (fun j u hj => by rw [Addr.add_lit, Nat.zero_add]; exact hvWa j u hj) (by rw [hRs]; simp only [List.length_cons, List.length_nil]; omega) (by simp [Value.oneCell'])
      have hsA : curA.size = G * 2 := by
        rw [hcA, List.size_toArray]
        simp only [List.length_append, List.length_take, List.length_drop, List.length_cons, List.length_nil, Array.length_toList, hRs]
        omega
      obtain ⟨curB, hcB⟩ : ∃ curB : Array Value, curB = (curA.toList.take ((i + 1) * 2) ++ Y ++ curA.toList.drop ((i + 1) * 2 + Y.length)).toArray := ⟨_, rfl⟩
      obtain ⟨W2, hW2⟩ : ∃ W2, W2 = W1.drew.setRow W.heap.size curB := ⟨_, rfl⟩
      have hgW2 : W2.heap[W.heap.size]? = some (.cells curB 121 (0, 0)) := by rw [hW2]; exact setRow_heap W1.drew _ curA curB _ _ hgW1
      have hbW2 : Below W.heap.size W W2 := by rw [hW2]; exact hbW1.trans ⟨rfl, rfl, rfl, (grownBy_setRow W1.drew W.heap.size curB).size, fun q hq => setRow_other W1.drew W.heap.size q curB (by omega)⟩
      have hcpB : ∀ ty dc sc, (Builtin.copy_ #[29, 29] ty #[.slice (some ⟨W.heap.size, (i + 1) * 2, none⟩) (cap - i) dc, .slice (some ⟨g, i * 2, none⟩) (cap - i) sc]).run Tryz.prog W1.drew = .ok (goInt (Nat.min (cap - i) (cap - i))) W2 := fun ty dc sc => by
        rw [hW2, hcB]
        exact run_copy_rowS 2 W1.drew _ _ ty 121 W.heap.size ((i + 1) * 2) _ dc ⟨g, i * 2, none⟩ _ sc curA _ Y Tryz.underlying29 hsz hgW1 (by rw [hY, show Nat.min (cap - i) (cap - i) = cap - i from Nat.min_self _]) (fun j u hj => by rw [Addr.add_lit]; exact (hbW1.cell (p := ⟨g, i * 2 + j, none⟩) hgw).trans (hsY j u hj)) (by rw [hsA, hY]; omega) hY1
      have hsB : curB.size = G * 2 := by
        rw [hcB, List.size_toArray]
        simp only [List.length_append, List.length_take, List.length_drop, Array.length_toList, hsA, hY]
        omega
      obtain ⟨Tl, hTl⟩ := splice_fresh X [Value.int .i64 e1, Value.int .i64 e2] Y RR (by simp only [List.length_cons, List.length_nil, hY, hRRl]; omega)
      have hi2 : (i + 1) * 2 = X.length + 2 := by omega
      have hfB : curB.toList = X ++ [Value.int .i64 e1, Value.int .i64 e2] ++ Y ++ Tl := by
        rw [hcB, hcA, List.toList_toArray, List.toList_toArray, hRR, hi2, ← hX]
        exact hTl
      have HFin := Lib.hid (show W2.ownsRow B 121 2 (.slice (some ⟨W.heap.size, 0, none⟩) (cap + 1) G) (cap + 1) (Rk.cells (insE R i (e1, e2))) ∧ Gr W W2 (.slice (some ⟨g, 0, none⟩) cap cap) (.slice (some ⟨W.heap.size, 0, none⟩) (cap + 1) G) from by
        refine ⟨⟨by rw [Rk.cells_length, ins_len, hn], .inr ⟨W.heap.size, G, curB, rfl, hBW, hgW2, hGn, hGm, hsB, ?_⟩⟩, Gr.of_new hbW2 _ (fun q hq => Nat.le_of_eq (show W.heap.size = q by simpa [Value.ownBlock] using hq))⟩
        rw [hfB, cells_ins, ← hXe, ← hYe]
        exact List.take_left' (by simp only [List.length_append, List.length_cons, List.length_nil, hX, hY]; omega))
      have hw1 : IntKind.i64.wrap ((i : Int) + 1) = (i : Int) + 1 := by rw [IntKind.wrap_i64]; omega
      have hw2 : IntKind.i64.wrap ((cap : Int) + 1) = (cap : Int) + 1 := by rw [IntKind.wrap_i64]; omega
      have hw3 : IntKind.i64.wrap ((cap : Int) + 1 - (i : Int)) = (cap : Int) + 1 - (i : Int) := by rw [IntKind.wrap_i64]; omega
      have htn : ((i : Int) + 1).toNat = i + 1 := by omega
      have hb1 : (0 : Int) ≤ (i : Int) + 1 := by omega
      have hb2 : ¬ (G = i + 1) := by omega
      have hb3 : (i : Int) ≤ (cap : Int) + 1 := by omega
      have hb4 : ¬ (G = i) := by omega
      have hb5 : ¬ (cap = i) := by omega
      have hb6 : (i : Int) + 1 ≤ (cap : Int) + 1 := by omega
      have hb7 : (i : Int) ≤ (cap : Int) := by omega
      have hb8 : ¬ (i = cap) := by omega
      have hb9 : (cap : Int) + 1 ≤ (G : Int) := by omega
      clear hown hvb hg hcs htk hown2 hsl hsY hcl hX hY hYe hXe hY1 hXs hi0 hz0 hzs hzb hik hk hG hROW hWa hold hRs hRR hRRl hgWa hbWa hvWa hcA hW1 hgW1 hbW1 hsA hcB hW2 hgW2 hbW2 hsB hTl hi2 hfB
      go_enter Tryz.func153, Tryz.ntmps153
      go_wp2_with (first
        | (at_builtin; refine Lib.wpList_append_run _ rfl _ _ _ _ rfl _ _ rfl rfl _ _ (hrz _) ?_)
        | (at_builtin; refine wpList_copy_runI _ rfl _ _ 29 29 rfl _ _ rfl rfl (hcpA _ _) ?_))
      go_region_law (refine step_copy_runI rfl (.tmp 50) (.tmp 53) 29 29 rfl _ _ (by simp [Act.eval, Act.put]) (by simp [Act.eval, Act.put]) (hcpB _ _ _) ?_)
      all_goals go_wp2_with fail
      all_goals go_ret
      all_goals exact ⟨_, rfl, HFin.out.1, HFin.out.2.like rfl⟩
end Go.Proofs.YtddedghnnkcnhaaGreatDoor
