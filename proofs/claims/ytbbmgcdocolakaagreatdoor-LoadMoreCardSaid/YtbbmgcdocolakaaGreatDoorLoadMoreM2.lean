/-
  Part 2 of the proof of LoadMore: Upto, Same, Words2, Words3, CmpS, PatP.
-/
import Derived.Test.YtbbmgcdocolakaaGreatDoorLoadMoreM1
import Derived.Test.YtbbmgcdocolakaaGreatDoorProg
import Derived.WalkKit
import Derived.LaidEql
import Derived.RowKitTokens
import Derived.Deep.Draws
import Derived.Lib.Hide
import Derived.Deep.DeepCutAuto
import Derived.BigQuiet
import Derived.Deep.QuietTactic
import Derived.Laws.MakeOwn
import Derived.Laws.OwnMore
import Derived.Maps.AppendAt
import Derived.ArgAppend
import Derived.Laws.IdiomStrings
import Derived.RowKit
set_option linter.unusedVariables false
/-
  The second form: what came in is of bulk at most so much, so each string and each slice in it is.
-/
namespace Go.Proofs.YtbbmgcdocolakaaGreatDoor
open Go.ChangeShapes Go.WideShapes Go.ChangeAt Go.RowKit

theorem bulk_pos {H : Type} : ∀ d : DataW H, 1 ≤ Rows.uptoBulk d
  | .lit (.string _) => by simp only [Rows.uptoBulk]; omega
  | .lit (.int _ _) | .lit (.bool _) | .lit (.float _ _) | .lit .nil => by simp only [Rows.uptoBulk]; omega
  | .nil => by simp only [Rows.uptoBulk]; omega
  | .ptr _ => by simp only [Rows.uptoBulk]; omega
  | .slice _ _ => by simp only [Rows.uptoBulk]; omega
  | .agg _ => by simp only [Rows.uptoBulk]; omega
  | .iface _ _ => by simp only [Rows.uptoBulk]; omega
  | .map _ => by simp only [Rows.uptoBulk]; omega
  | .held _ => by simp only [Rows.uptoBulk]; omega
theorem bulkAll_mem {H : Type} {d : DataW H} : ∀ {l : List (DataW H)}, d ∈ l → Rows.uptoBulk d ≤ Rows.uptoBulkAll l
  | x :: r, h => by
    simp only [Rows.uptoBulkAll]
    rcases List.mem_cons.1 h with rfl | h
    · omega
    · have := bulkAll_mem h; omega
theorem bulkAll_len {H : Type} : ∀ l : List (DataW H), l.length ≤ Rows.uptoBulkAll l
  | [] => Nat.zero_le _
  | x :: r => by
    simp only [Rows.uptoBulkAll, List.length_cons]
    have := bulk_pos x
    have := bulkAll_len r
    omega

theorem up_string {H : Type} {s : ByteArray} {B : Nat} (_ : s.size ≤ maxLen) (h : Rows.uptoBulk (H := H) (.lit (.string s.data.toList)) ≤ B) : s.size ≤ B := by
  simp only [Rows.uptoBulk, Array.length_toList] at h
  have : s.data.size = s.size := rfl
  omega

section
variable {H : Type} {enc : TypeId × Value → H} {P : Program} {w : World} {base : Nat} {spare : Nat → Bool} {held : Bool}
/-- As open_sl, with the bulk. -/
theorem open_sl_upto {t e : TypeId} {s fuel n c B : Nat} {A : Option Addr} {x : DataW H × List MemPlace} (hs : P.cellsOf e = s) (hs0 : 0 < s) (ht : P.underlying t = some (.slice e))
    (h : DataW.trod enc P w base spare held fuel t [.slice A n c] = some x) (hB : Rows.uptoBulk x.1 ≤ B) :
    n ≤ B ∧ ∃ css : List (List Value), css.length = n ∧ Sl w s A n css.flatten ∧ ∀ cs ∈ css, cs.length = s ∧ ∃ fuel' y, DataW.trod enc P w base spare held fuel' e cs = some y ∧ Rows.uptoBulk y.1 ≤ B := by
  rcases Deep.open_slice ht h with ⟨h0, _⟩ | ⟨a, len, cap, m, f', D, Pl, hv, _, hl, hm, hmm, hxx, hx⟩
  · injection h0 with h0 _
    injection h0 with h1 h2 h3
    subst h1 h2
    exact ⟨Nat.zero_le _, [], rfl, Sl.nil _ _ _, fun cs hc => by cases hc⟩
  · injection hv with hv _
    injection hv with h1 h2 h3
    subst h1 h2 h3
    have hle : n ≤ m := by rw [hmm]; split <;> omega
    have hB1 : Rows.uptoBulkAll ((List.range n).map D) ≤ B := by
      rw [hxx] at hB
      simp only [Rows.uptoBulk] at hB
      omega
    have hB2 : n ≤ B := by
      have := bulkAll_len ((List.range n).map D)
      simp at this
      omega
    rw [hs] at hx
    obtain ⟨F, hF⟩ := Deep.choose_lt (α := List Value) (p := fun i cs' => w.cells? base (a.add (i * s)) s = some cs' ∧ DataW.trod enc P w base spare held f' e cs' = some (D i, Pl i)) (fun i hi => hx i hi)
    have hlen : ∀ i, i < n → (F i).length = s := fun i hi => (World.cells?_some (hF i (by omega)).1).2.1
    obtain ⟨f1, f2⟩ := flat_at F n hlen
    refine ⟨hB2, (List.range n).map F, by simp, ?_, ?_⟩
    · rw [← List.flatMap_def]
      refine ⟨f1, fun hn => ?_⟩
      have hsp : a.spot = none := by
        obtain ⟨_, h2, h3⟩ := World.cells?_some (hF 0 (by omega)).1
        have h4 := h3 0 hs0
        rw [List.getElem?_eq_getElem (by omega)] at h4
        simpa [Addr.add] using World.cell?_spot h4
      obtain ⟨b, off, spot⟩ := a
      simp only at hsp
      subst hsp
      refine ⟨b, off, rfl, fun j u hu => ?_⟩
      have hj : j < n * s := by
        rcases Nat.lt_or_ge j (n * s) with h | h
        · exact h
        · rw [List.getElem?_eq_none (by rw [f1]; exact h)] at hu; cases hu
      have hi : j / s < n := Nat.div_lt_of_lt_mul (by rw [Nat.mul_comm]; exact hj)
      have hr : j % s < s := Nat.mod_lt _ hs0
      have hd : j / s * s + j % s = j := by rw [Nat.mul_comm]; exact Nat.div_add_mod j s
      have h5 := f2 (j / s) (j % s) hi hr
      rw [hd, hu] at h5
      obtain ⟨_, _, h3⟩ := World.cells?_some (hF (j / s) (by omega)).1
      have h6 := h3 (j % s) hr
      rw [← h5] at h6
      have hadd : ((⟨b, off, none⟩ : Addr).add (j / s * s)).add (j % s) = ⟨b, off + j, none⟩ := by
        have : ∀ k, (⟨b, off, none⟩ : Addr).add k = ⟨b, off + k, none⟩ := by intro k; unfold Addr.add; split <;> simp_all
        rw [this]
        unfold Addr.add
        split
        · simp only [Addr.mk.injEq, true_and, and_true]; omega
        · simp only [Addr.mk.injEq, true_and, and_true]; omega
      rw [hadd] at h6
      exact h6
    · intro cs hcs
      obtain ⟨i, hi, rfl⟩ := List.mem_map.1 hcs
      have hi' := List.mem_range.1 hi
      refine ⟨hlen i hi', f', _, (hF i (by omega)).2, Nat.le_trans (bulkAll_mem (List.mem_map.2 ⟨i, hi, rfl⟩)) hB1⟩

/-- A slice of strings that came in, with the bulk. -/
theorem open_sl_strs_upto {t e : TypeId} {fuel n c B : Nat} {A : Option Addr} {x : DataW H × List MemPlace} (ht : P.underlying t = some (.slice e)) (he : P.underlying e = some .string) (hs : P.cellsOf e = 1)
    (h : DataW.trod enc P w base spare held fuel t [.slice A n c] = some x) (hB : Rows.uptoBulk x.1 ≤ B) :
    n ≤ B ∧ ∃ zs : List ByteArray, zs.length = n ∧ Sl w 1 A n (zs.map Value.string) ∧ ∀ z ∈ zs, z.size ≤ B := by
  obtain ⟨hm, css, hl, hsl, hc⟩ := open_sl_upto hs (by omega) ht h hB
  obtain ⟨zs, rfl⟩ := exists_map (fun z : { z : ByteArray // z.size ≤ B } => [Value.string z.1]) css (fun cs hcs => by
    obtain ⟨_, f', y, hy, hyB⟩ := hc cs hcs
    obtain ⟨z, rfl, hy2, hz⟩ := DataW.trod_string he hy
    refine ⟨⟨z, ?_⟩, rfl⟩
    rw [hy2] at hyB
    simp only [Rows.uptoBulk, Array.length_toList] at hyB
    have : z.data.size = z.size := rfl
    omega)
  refine ⟨hm, zs.map (·.1), by simpa using hl, ?_, ?_⟩
  · rw [flat_one (fun z => Value.string z.1) zs] at hsl
    rw [List.map_map]; exact hsl
  · intro z hz
    obtain ⟨z', _, rfl⟩ := List.mem_map.1 hz
    exact z'.2
end
end Go.Proofs.YtbbmgcdocolakaaGreatDoor
/-
  The document's SameInts; the element facts of a slice of ints.
-/
namespace Go.Proofs.YtbbmgcdocolakaaGreatDoor
open Go.RowKit
set_option maxRecDepth 100000

theorem elemInt : Elem Tryz.prog 22 3 (.int .i64 0) 1 8 := ⟨Tryz.underlying22, by kernel_rfl, rfl, by decide⟩

end Go.Proofs.YtbbmgcdocolakaaGreatDoor
/-
  More words for memory: make, stores into an own row, what stays while another row changes.
-/
namespace Go.Proofs.YtbbmgcdocolakaaGreatDoor
open Go.RowKit

theorem make_elem {P : Program} {t e : TypeId} {z : Value} {bytes : Nat} (E : Elem P t e z 1 bytes) (hz1 : z.cells = #[z]) (n : Nat) (hb : bytes * n ≤ 281474976710656) (hn : n ≤ 9223372036854775807) (W : World) :
    (Instr.makeSlice t (.int .i64 n) (.int .i64 n)).run P W = .ok (.slice (some ⟨W.heap.size, 0, none⟩) n n) (W.alloc (.cells (Array.replicate n z) e)) := by
  obtain ⟨i, hi, hz, hsize, hby⟩ := info_parts E.hi
  have hb' : (i.bytes : Int) * (n : Int) ≤ 281474976710656 := by
    rw [hby]
    have h : ((bytes * n : Nat) : Int) ≤ 281474976710656 := by omega
    rwa [Int.natCast_mul] at h
  have hr := run_make (P := P) W t e i z E.ht hi hz .i64 .i64 n n (by omega) (Int.le_refl _) hb' (by omega)
  simp only [Int.toNat_natCast] at hr
  rw [hr, hsize, hz1, Nat.mul_one]
  congr 4
  apply Array.ext'
  rw [toList_madeCells_one]
  simp

theorem own_replicate {B : Nat} {e : TypeId} (W : World) (n : Nat) (z : Value) (hB : B ≤ W.heap.size) (hn : n ≤ 9223372036854775807) :
    (W.alloc (.cells (Array.replicate n z) e)).ownsRow B e 1 (.slice (some ⟨W.heap.size, 0, none⟩) n n) n (List.replicate n z) := by
  have := World.ownsRow_lit (base := B) (size := 1) (e := e) W (Array.replicate n z) n hB (by unfold maxLen; omega) (by simp)
  simpa using this

theorem ownsRow_setCells_below {base : Nat} {e : TypeId} {size : Nat} {v : Value} {n : Nat} {xs : List Value} {b : Nat} (hb : b < base) : ∀ (vs : List Value) (o : Nat) {w : World}, w.ownsRow base e size v n xs → (w.setCells b o vs).ownsRow base e size v n xs
  | [], _, _, h => h
  | u :: r, o, _, h => ownsRow_setCells_below hb r (o + 1) (ownsRow_setCell_below h (a := ⟨b, o, none⟩) hb u)
theorem bel_setCells {B b : Nat} {w : World} (hb : B ≤ b) : ∀ (vs : List Value) (o : Nat) {w' : World}, Below B w w' → Below B w (w'.setCells b o vs)
  | [], _, _, h => h
  | u :: r, o, _, h => bel_setCells hb r (o + 1) (h.setCell (p := ⟨b, o, none⟩) hb u)

theorem Sl.again {w : World} {b off n k : Nat} {xs : List Value} {u : Value} (h : Sl w 1 (some ⟨b, off, none⟩) n xs) (hk : k < n) (hu : xs[k]? = some u) : w.cell? ⟨b, off + k, none⟩ = some u := by
  obtain ⟨b', off', u', hA, h1, h2⟩ := h.one hk
  cases hA
  rw [hu] at h1
  cases h1
  exact h2

theorem Sl.take {w : World} {A : Option Addr} {n k : Nat} {xs : List Value} (h : Sl w 1 A n xs) (hk : k ≤ n) : Sl w 1 A k (xs.take k) := by
  have hl := h.1
  refine ⟨by rw [List.length_take]; omega, fun h0 => ?_⟩
  obtain ⟨b, off, hA, hc⟩ := h.2 (by omega)
  refine ⟨b, off, hA, fun j u hu => hc j u ?_⟩
  rw [List.getElem?_take] at hu
  split at hu
  · exact hu
  · cases hu
theorem Sl.drop {w : World} {b off n k : Nat} {xs : List Value} (h : Sl w 1 (some ⟨b, off, none⟩) n xs) (hk : k ≤ n) : Sl w 1 (some ⟨b, off + k, none⟩) (n - k) (xs.drop k) := by
  have hl := h.1
  refine ⟨by rw [List.length_drop]; omega, fun h0 => ?_⟩
  obtain ⟨b', off', hA, hc⟩ := h.2 (by omega)
  cases hA
  refine ⟨b, off + k, rfl, fun j u hu => ?_⟩
  rw [List.getElem?_drop] at hu
  have := hc (k + j) u hu
  rw [show off + k + j = off + (k + j) by omega]
  exact this

theorem own_cap {w : World} {B size n c : Nat} {e : TypeId} {A : Option Addr} {xs : List Value} (h : w.ownsRow B e size (.slice A n c) n xs) : n ≤ c ∧ c ≤ 9223372036854775807 := by
  rcases h.2 with ⟨h', h0⟩ | ⟨g, cap, cur, hv, _, _, h1, h2, _⟩
  · injection h' with _ _ h3
    omega
  · injection hv with _ _ h3
    subst h3
    exact ⟨h1, h2⟩
end Go.Proofs.YtbbmgcdocolakaaGreatDoor
/-
  More words for memory: a row that grows (Gr): nothing old has changed but the row; the law of append in that form.
-/
namespace Go.Proofs.YtbbmgcdocolakaaGreatDoor
open Go.RowKit

/-- From w to w': of the old blocks at most v's row has changed; v' lies in v's row or in a new one. -/
structure Gr (w w' : World) (v v' : Value) : Prop where
  g : w.grownBy w' v.ownBlock
  at_ : ∀ k, v'.ownBlock = some k → v.ownBlock = some k ∨ w.heap.size ≤ k

section
variable {w w1 w' : World} {v v1 v' : Value}
theorem gb_refl (w : World) (r : Option Nat) : w.grownBy w r := ⟨rfl, rfl, rfl, Nat.le_refl _, fun _ _ _ => rfl⟩
theorem gb_alloc (w : World) (o : Obj) (r : Option Nat) : w.grownBy (w.alloc o) r := ⟨rfl, rfl, rfl, by simp, fun k hk _ => Below.heap_alloc _ _ _ hk⟩
theorem gb_below (h : Below w.heap.size w w') (r : Option Nat) : w.grownBy w' r := ⟨h.os, h.tape, h.output, h.size, fun k hk _ => h.block k hk⟩
theorem Gr.refl (w : World) (v : Value) : Gr w w v v := ⟨gb_refl w _, fun _ h => .inl h⟩
theorem Gr.trans (h : Gr w w1 v v1) (k : Gr w1 w' v1 v') : Gr w w' v v' := by
  refine ⟨⟨k.g.os.trans h.g.os, k.g.tape.trans h.g.tape, k.g.output.trans h.g.output, Nat.le_trans h.g.size k.g.size, fun i hi hne => ?_⟩, fun i hi => ?_⟩
  · refine (k.g.block i (Nat.lt_of_lt_of_le hi h.g.size) (fun e => ?_)).trans (h.g.block i hi hne)
    rcases h.at_ i e.symm with h1 | h1
    · exact hne h1.symm
    · omega
  · rcases k.at_ i hi with h1 | h1
    · exact h.at_ i h1
    · exact .inr (Nat.le_trans h.g.size h1)
theorem Gr.of_below (h : Below w.heap.size w w') (v : Value) : Gr w w' v v := ⟨gb_below h _, fun _ h => .inl h⟩
theorem Gr.of_new (h : Below w.heap.size w w') (v : Value) (hv : ∀ k, v'.ownBlock = some k → w.heap.size ≤ k) : Gr w w' v v' := ⟨gb_below h _, fun k hk => .inr (hv k hk)⟩
theorem Gr.after_alloc {o : Obj} (h : Gr (w.alloc o) w' v v') : Gr w w' v v' := (Gr.of_below (bel_al (Below.refl _ _) o) v).trans h
theorem Gr.then_below (h : Gr w w1 v v') (k : Below w1.heap.size w1 w') : Gr w w' v v' := h.trans (Gr.of_below k v')
theorem Gr.below (h : Gr w w' v v') {B : Nat} (hB : B ≤ w.heap.size) (hv : ∀ k, v.ownBlock = some k → B ≤ k) : Below B w w' :=
  (Below.refl B w).grown h.g hB hv
theorem Gr.belowOwn (h : Gr w w' v v') {B size n : Nat} {e : TypeId} {xs : List Value} (hB : B ≤ w.heap.size) (hv : w.ownsRow B e size v n xs) : Below B w w' := h.below hB fun k hk => (hv.lt k hk).1
theorem Gr.blk (h : Gr w w' v v') {g : Nat} {t : TypeId} {cs : Array Value} (hb : Blk w g t cs) (hne : v.ownBlock ≠ some g) : Blk w' g t cs := (h.g.block g hb.lt (fun e => hne e.symm)).trans hb
theorem Gr.size (h : Gr w w' v v') : w.heap.size ≤ w'.heap.size := h.g.size
/-- A block of other cells than the row's stays. -/
theorem Gr.blkOwn (h : Gr w w' v v') {g B size n : Nat} {t e : TypeId} {cs : Array Value} {xs : List Value} (hb : Blk w g t cs) (hown : w.ownsRow B e size v n xs) (hne : t ≠ e) : Blk w' g t cs := hb.others hown h.g hne
end

/-- The row lies in no other place than this block, or is nil. -/
theorem own_notBlk {w : World} {g B size n : Nat} {t e : TypeId} {cs : Array Value} {v : Value} {xs : List Value} (hown : w.ownsRow B e size v n xs) (h : Blk w g t cs) (hne : t ≠ e) : v.ownBlock ≠ some g := by
  intro hc
  rcases hown.2 with ⟨rfl, _⟩ | ⟨g', cap, cur, rfl, _, hgg, _⟩
  · simp [Value.ownBlock] at hc
  · obtain rfl : g' = g := by simpa [Value.ownBlock] using hc
    unfold Blk at h
    rw [h] at hgg
    injection hgg with hgg
    injection hgg with _ ht
    exact hne ht

section
variable {P : Program} {ops : Array Oper} {rest : List Oper} {o : Oper} {a : Act} {Q : Exit → Act → World → Prop}
theorem run_cat_at {t ty e : TypeId} {z : Value} {size bytes : Nat} (E : Elem P t e z size bytes) {B : Nat} {W : World}
    {v : Value} {n : Nat} {xs : List Value} (hown : W.ownsRow B e size v n xs) (hB : B ≤ W.heap.size)
    {A : Option Addr} {m c : Nat} {ys : List Value} (hy : Sl W size A m ys) (h1 : ∀ u ∈ ys, u.oneCell' = true)
    (hlim : (n + m) * bytes ≤ lim) (hlim' : n + m ≤ lim) :
    ∃ v' w', (Builtin.append_ #[t, t] ty #[v, .slice A m c]).run P W = .ok v' w' ∧ w'.ownsRow B e size v' (n + m) (xs ++ ys) ∧ Gr W w' v v' := by
  obtain ⟨i, hi, hz, hsize, hby⟩ := info_parts E.hi
  unfold lim at hlim hlim'
  rcases Nat.eq_zero_or_pos m with hm | hm
  · subst hm
    have hys : ys = [] := List.eq_nil_of_length_eq_zero (by simpa using hy.1)
    subst hys
    refine ⟨v, W, ?_, by rw [List.append_nil]; exact hown, Gr.refl _ _⟩
    have ht := E.ht
    rcases hown.2 with ⟨rfl, rfl⟩ | ⟨g, cap, cur, rfl, _, _, hnc, _⟩
    · cases A <;> simp [Builtin.append_, run_underlying ht, sizeOf, typeInfo, hi, Builtin.lenOf, Builtin.firstCells, loadCells, loadCellsFrom]
    · cases A <;> simp [Builtin.append_, run_underlying ht, sizeOf, typeInfo, hi, Builtin.lenOf, Builtin.firstCells, loadCells, loadCellsFrom, hnc, storeCells]
  · obtain ⟨b, off, rfl, hc⟩ := hy.2 hm
    obtain ⟨v', w', hr, h2, h3, _, h5⟩ := run_append_own_at (P := P) W B t ty e i z size bytes E.ht hi hz hsize hby E.hzs E.hsz v n xs hown ⟨b, off, none⟩ m c ys hy.1 (fun j u hu => by
      have hadd : (⟨b, off, none⟩ : Addr).add j = ⟨b, off + j, none⟩ := by unfold Addr.add; split <;> simp_all
      rw [hadd]; exact hc j u hu) h1 (by unfold maxLen; omega) hlim hB
    refine ⟨v', w', hr, h2, h3, fun k hk => ?_⟩
    rcases h5 with h5 | h5
    · exact .inl (h5 ▸ hk)
    · exact .inr (by have := h5.symm.trans hk; injection this with this; omega)
/-- append(s, x...): onto a slice that the call owns, what a slice holds that reads. -/
theorem wpList_cat_at {t e : TypeId} {z : Value} {size bytes : Nat} (E : Elem P t e z size bytes) {B : Nat} {W : World} (s x : Operand)
    (hgd : o.guard = none) (ho : o.op = .call { callee := .builtin .append, args := #[s, x], argTypes := #[t, t] })
    {v : Value} {n : Nat} {xs : List Value} (hown : W.ownsRow B e size v n xs) (hB : B ≤ W.heap.size)
    {A : Option Addr} {m c : Nat} {ys : List Value} (hy : Sl W size A m ys)
    (hs : a.eval s = v) (hx : a.eval x = .slice A m c) (h1 : ∀ u ∈ ys, u.oneCell' = true)
    (hlim : (n + m) * bytes ≤ lim) (hlim' : n + m ≤ lim)
    (h : ∀ v' w', w'.ownsRow B e size v' (n + m) (xs ++ ys) → Gr W w' v v' → wpList P ops Q rest (a.put o.dst v') w') : wpList P ops Q (o :: rest) a W := by
  obtain ⟨v', w', hr, h2, h3⟩ := run_cat_at (P := P) (ty := o.type) (c := c) E hown hB hy h1 hlim hlim'
  refine wpList_plain hgd fun K hK => ?_
  unfold Oper.wp execOp
  simp only [ho, resolve, invoke, builtin, Sem.run_bind, Sem.run_pure, Result.andThen_ok, List.map_toArray, List.map_cons, List.map_nil, hs, hx, hr]
  exact hK _ _ (h v' w' h2 h3)
/-- The same, the new value written out. -/
theorem wpList_cat_lies {t e : TypeId} {z : Value} {size bytes : Nat} (E : Elem P t e z size bytes) {B : Nat} {W : World} (s x : Operand)
    (hgd : o.guard = none) (ho : o.op = .call { callee := .builtin .append, args := #[s, x], argTypes := #[t, t] })
    {v : Value} {n : Nat} {xs : List Value} (hown : W.ownsRow B e size v n xs) (hB : B ≤ W.heap.size)
    {A : Option Addr} {m c : Nat} {ys : List Value} (hy : Sl W size A m ys) (h0 : 0 < n + m)
    (hs : a.eval s = v) (hx : a.eval x = .slice A m c) (h1 : ∀ u ∈ ys, u.oneCell' = true)
    (hlim : (n + m) * bytes ≤ lim) (hlim' : n + m ≤ lim)
    (h : ∀ g cap w', w'.ownsRow B e size (.slice (some ⟨g, 0, none⟩) (n + m) cap) (n + m) (xs ++ ys) → Gr W w' v (.slice (some ⟨g, 0, none⟩) (n + m) cap) → wpList P ops Q rest (a.put o.dst (.slice (some ⟨g, 0, none⟩) (n + m) cap)) w') : wpList P ops Q (o :: rest) a W :=
  wpList_cat_at E s x hgd ho hown hB hy hs hx h1 hlim hlim' fun v' w' h2 h3 => by
    rcases h2.2 with ⟨_, h4⟩ | ⟨g, cap, cur, rfl, _⟩
    · omega
    · exact h g cap w' h2 h3
/-- The same as a step of a region that draws its order. -/
theorem step_cat_at {t e : TypeId} {z : Value} {size bytes : Nat} (E : Elem P t e z size bytes) {B : Nat} {W : World} {K : Act → World → Prop} {L : Prop} (s x : Operand)
    (hgd : o.guard = none) (ho : o.op = .call { callee := .builtin .append, args := #[s, x], argTypes := #[t, t] })
    {v : Value} {n : Nat} {xs : List Value} (hown : W.ownsRow B e size v n xs) (hB : B ≤ W.heap.size)
    {A : Option Addr} {m c : Nat} {ys : List Value} (hy : Sl W size A m ys)
    (hs : a.eval s = v) (hx : a.eval x = .slice A m c) (h1 : ∀ u ∈ ys, u.oneCell' = true)
    (hlim : (n + m) * bytes ≤ lim) (hlim' : n + m ≤ lim)
    (h : ∀ v' w', w'.ownsRow B e size v' (n + m) (xs ++ ys) → Gr W w' v v' → K (a.put o.dst v') w') :
    if Region.wanted o (yielded ops a.tmps) = true then Oper.wp P o a W K Q else L := by
  have hw : Region.wanted o (yielded ops a.tmps) = true := by simp [Region.wanted, hgd]
  rw [if_pos hw]
  obtain ⟨v', w', hr, h2, h3⟩ := run_cat_at (P := P) (ty := o.type) (c := c) E hown hB hy h1 hlim hlim'
  unfold Oper.wp execOp
  simp only [ho, resolve, invoke, builtin, Sem.run_bind, Sem.run_pure, Result.andThen_ok, List.map_toArray, List.map_cons, List.map_nil, hs, hx, hr]
  exact h v' w' h2 h3
end
section
variable {P : Program} {ops : Array Oper} {rest : List Oper} {o : Oper} {a : Act} {Q : Exit → Act → World → Prop}
/-- append onto a slice that is full, whoever it belongs to: a new row. -/
theorem wpList_full {t e : TypeId} {z : Value} {size bytes : Nat} (E : Elem P t e z size bytes) {W : World} (s x : Operand)
    (hgd : o.guard = none) (ho : o.op = .call { callee := .builtin .append, args := #[s, x], argTypes := #[t, t] })
    {B : Option Addr} {n : Nat} {xs : List Value} (hxs : Sl W size B n xs) (hn : 0 < n)
    {A : Option Addr} {m c : Nat} {ys : List Value} (hy : Sl W size A m ys) (hm : 0 < m)
    (hs : a.eval s = .slice B n n) (hx : a.eval x = .slice A m c) (h1 : ∀ u ∈ ys, u.oneCell' = true)
    (hlim : (n + m) * bytes ≤ lim) (hlim' : n + m ≤ lim)
    (h : ∀ v' w', w'.ownsRow W.heap.size e size v' (n + m) (xs ++ ys) → Below W.heap.size W w' → wpList P ops Q rest (a.put o.dst v') w') : wpList P ops Q (o :: rest) a W := by
  obtain ⟨i, hi, hz, hsize, hby⟩ := info_parts E.hi
  unfold lim at hlim hlim'
  obtain ⟨b, off, rfl, hc⟩ := hy.2 hm
  obtain ⟨b', off', rfl, hc'⟩ := hxs.2 hn
  have hadd : ∀ (b off j : Nat), (⟨b, off, none⟩ : Addr).add j = ⟨b, off + j, none⟩ := fun b off j => by unfold Addr.add; split <;> simp_all
  refine wpList_append_grows W hgd s x t ho e i z size bytes E.ht hi hz hsize hby E.hzs E.hsz (some ⟨b', off', none⟩) n n xs hs (fun h => by cases h) hxs.1 (fun b'' hb j u hu => ?_) ⟨b, off, none⟩ m c ys hx hy.1 (fun j u hu => ?_) h1 (by omega) (by unfold maxLen; omega) hlim ?_
  · injection hb with hb
    rw [← hb, hadd]; exact hc' j u hu
  · rw [hadd]; exact hc j u hu
  · intro v' w' h2 h3
    exact h v' w' h2 ⟨h3.os, h3.tape, h3.output, h3.size, fun k hk => h3.block k hk (fun e => by cases e)⟩
end
theorem Sl.newMark (w : World) (cs : List Value) (e : TypeId) (fr : Nat × Nat) (n : Nat) (hn : cs.length = n) : Sl (w.alloc (.cells cs.toArray e fr)) 1 (some ⟨w.heap.size, 0, none⟩) n cs :=
  ⟨by rw [hn, Nat.mul_one], fun _ => ⟨_, _, rfl, fun j u hu => by rw [Nat.zero_add, World.cell?_alloc_mark]; simpa using hu⟩⟩
theorem own_block {w w' : World} {B size n : Nat} {e : TypeId} {v : Value} {xs : List Value} (h : w.ownsRow B e size v n xs) (hb : ∀ g, v.ownBlock = some g → w'.heap[g]? = w.heap[g]?) : w'.ownsRow B e size v n xs := by
  refine ⟨h.1, ?_⟩
  rcases h.2 with h' | ⟨g, cap, cur, rfl, h1, h2, h3⟩
  · exact .inl h'
  · exact .inr ⟨g, cap, cur, rfl, h1, (hb g rfl).trans h2, h3⟩
theorem own_ne {w : World} {B B' size size' n n' : Nat} {e e' : TypeId} {v v' : Value} {xs xs' : List Value} (h : w.ownsRow B e size v n xs) (h' : w.ownsRow B' e' size' v' n' xs') (hne : e ≠ e') {g g' : Nat} (hg : v.ownBlock = some g) (hg' : v'.ownBlock = some g') : g ≠ g' := by
  rintro rfl
  rcases h.2 with ⟨rfl, _⟩ | ⟨b, cap, cur, rfl, _, h2, _⟩
  · simp [Value.ownBlock] at hg
  · rcases h'.2 with ⟨rfl, _⟩ | ⟨b', cap', cur', rfl, _, h2', _⟩
    · simp [Value.ownBlock] at hg'
    · obtain rfl : b = g := by simpa [Value.ownBlock] using hg
      obtain rfl : b' = b := by simpa [Value.ownBlock] using hg'
      rw [h2] at h2'
      injection h2' with h2'
      injection h2' with _ h3
      exact hne h3
theorem own_grown {w w' : World} {B B' size size' n n' : Nat} {e e' : TypeId} {v v' : Value} {xs xs' : List Value} (h : w.ownsRow B e size v n xs) (h' : w.ownsRow B' e' size' v' n' xs') (hne : e ≠ e') (hg : w.grownBy w' v'.ownBlock) : w'.ownsRow B e size v n xs :=
  own_block h fun g hb => hg.block g (h.lt g hb).2 (fun e => own_ne h h' hne hb e.symm rfl)
theorem own_set {w : World} {B B' size size' n n' c' : Nat} {e e' : TypeId} {v : Value} {b : Nat} {xs xs' : List Value} (h : w.ownsRow B e size v n xs) (h' : w.ownsRow B' e' size' (.slice (some ⟨b, 0, none⟩) n' c') n' xs') (hne : e ≠ e') (j : Nat) (u : Value) : (w.setCell ⟨b, j, none⟩ u).ownsRow B e size v n xs :=
  own_block h fun g hb => heap_setCell_other w ⟨b, j, none⟩ g u (own_ne h h' hne hb rfl)
theorem own_below {w w' : World} {B Bc size n : Nat} {e : TypeId} {v : Value} {xs : List Value} (h : w.ownsRow B e size v n xs) (hB : ∀ g, v.ownBlock = some g → g < Bc) (hb : Below Bc w w') : w'.ownsRow B e size v n xs :=
  own_block h fun g hg => hb.block g (hB g hg)

theorem own_form {w : World} {B size n : Nat} {e : TypeId} {v : Value} {xs : List Value} (h : w.ownsRow B e size v n xs) (hn : 0 < n) : ∃ g cap, v = .slice (some ⟨g, 0, none⟩) n cap ∧ B ≤ g := by
  rcases h.2 with ⟨_, h0⟩ | ⟨g, cap, cur, hv, hg, _⟩
  · omega
  · exact ⟨g, cap, hv, hg⟩

theorem own_mono {w : World} {B B' size n : Nat} {e : TypeId} {v : Value} {xs : List Value} (h : w.ownsRow B e size v n xs) (hB : B' ≤ B) : w.ownsRow B' e size v n xs := by
  refine ⟨h.1, ?_⟩
  rcases h.2 with h' | ⟨g, cap, cur, hv, h1, h2⟩
  · exact .inl h'
  · exact .inr ⟨g, cap, cur, hv, Nat.le_trans hB h1, h2⟩
theorem own_cell {w : World} {B g n c m : Nat} {e : TypeId} {k : IntKind} {l : List Int} {x : Int} (h : w.ownsRow B e 1 (.slice (some ⟨g, 0, none⟩) n c) n (l.map (Value.int k))) (hx : l[m]? = some x) : w.cell? ⟨g, m, none⟩ = some (.int k x) := by
  have hl := h.1
  have hm := (List.getElem?_eq_some_iff.1 hx).1
  rw [List.length_map] at hl
  rw [h.cellAt m (by omega), List.getElem?_map, hx]; rfl
theorem drew_bel {w w' : World} (h : ∃ m, w' = w.drewN m) : Below w.heap.size w w' := by
  obtain ⟨m, rfl⟩ := h
  exact bel_drewN (Below.refl _ _) m
/-- A slice's length. -/
def lenV : Value → Nat
  | .slice _ k _ => k
  | _ => 0
theorem lenV_own {w : World} {B size n : Nat} {e : TypeId} {v : Value} {xs : List Value} (h : w.ownsRow B e size v n xs) : lenV v = n := by
  rcases h.2 with ⟨rfl, h0⟩ | ⟨g, cap, cur, rfl, _⟩
  · exact h0.symm
  · rfl

theorem one_u8 (l : List Int) : ∀ u ∈ l.map (Value.int .u8), u.oneCell' = true := by
  intro u hu
  obtain ⟨x, _, rfl⟩ := List.mem_map.1 hu
  rfl
theorem one_i64 (l : List Int) : ∀ u ∈ l.map (Value.int .i64), u.oneCell' = true := by
  intro u hu
  obtain ⟨x, _, rfl⟩ := List.mem_map.1 hu
  rfl
/-- A new block's cells, as a slice that reads. -/
theorem Sl.newAt (w : World) (cs : List Value) (e : TypeId) (n : Nat) (hn : cs.length = n) : Sl (w.alloc (.cells cs.toArray e)) 1 (some ⟨w.heap.size, 0, none⟩) n cs := by
  have := Sl.new w cs.toArray e
  simpa [hn] using this
end Go.Proofs.YtbbmgcdocolakaaGreatDoor
/-
  cmp.Compare and slices.Compare at ints.
-/
namespace Go.Proofs.YtbbmgcdocolakaaGreatDoor
open Go.RowKit
set_option maxRecDepth 100000
set_option linter.unusedVariables false

def cmpI (x y : Int) : Int := if x < y then -1 else if y < x then 1 else 0
def cmpL : List Int → List Int → Int
  | [], [] => 0
  | [], _ :: _ => -1
  | _ :: _, [] => 1
  | x :: a, y :: b => if x < y then -1 else if y < x then 1 else cmpL a b
theorem cmpL_range : ∀ a b : List Int, cmpL a b = -1 ∨ cmpL a b = 0 ∨ cmpL a b = 1
  | [], [] => .inr (.inl rfl)
  | [], _ :: _ => .inl rfl
  | _ :: _, [] => .inr (.inr rfl)
  | x :: a, y :: b => by
    rw [cmpL]
    split
    · exact .inl rfl
    · split
      · exact .inr (.inr rfl)
      · exact cmpL_range a b
theorem cmpL_neg : ∀ a b : List Int, cmpL b a = - cmpL a b
  | [], [] => rfl
  | [], _ :: _ => rfl
  | _ :: _, [] => rfl
  | x :: a, y :: b => by
    rw [cmpL, cmpL]
    by_cases h : x < y
    · rw [if_neg (by omega), if_pos h, if_pos h]; rfl
    · by_cases h2 : y < x
      · rw [if_pos h2, if_neg h, if_pos h2]
      · rw [if_neg h2, if_neg h, if_neg h, if_neg h2]
        exact cmpL_neg a b
theorem cmpL_zero : ∀ {a b : List Int}, cmpL a b = 0 ↔ a = b
  | [], [] => by simp [cmpL]
  | [], _ :: _ => by simp [cmpL]
  | _ :: _, [] => by simp [cmpL]
  | x :: a, y :: b => by
    rw [cmpL]
    split
    · rename_i h
      simp
      omega
    · split
      · rename_i h1 h
        simp
        omega
      · rename_i h1 h2
        rw [cmpL_zero]
        simp
        omega
theorem cmpL_drop {a b : List Int} {i : Nat} {x y : Int} (ha : a[i]? = some x) (hb : b[i]? = some y) : cmpL (a.drop i) (b.drop i) = if x < y then -1 else if y < x then 1 else cmpL (a.drop (i + 1)) (b.drop (i + 1)) := by
  obtain ⟨h1, h2⟩ := List.getElem?_eq_some_iff.1 ha
  obtain ⟨h3, h4⟩ := List.getElem?_eq_some_iff.1 hb
  rw [List.drop_eq_getElem_cons h1, List.drop_eq_getElem_cons h3, h2, h4, cmpL]

theorem CmpI_any (x y : Int) (w : World) : Calls Tryz.prog 85 #[.int .i64 x, .int .i64 y] w fun e w' => e = .returned (.int .i64 (cmpI x y)) ∧ w = w' := by
  have HN := Lib.hid (show ∀ (z : Int) W, Calls Tryz.prog 110 #[.int .i64 z] W fun e w' => e = .returned (.bool false) ∧ W = w' from fun z W => by
    go_enter Tryz.func110, Tryz.ntmps110
    have hb : (z != z) = false := by simp
    go_wp2_with fail
    go_ret
    exact ⟨rfl, rfl⟩)
  by_cases h : x < y
  · have hE := Lib.hid (show cmpI x y = -1 from if_pos h)
    go_enter Tryz.func85, Tryz.ntmps85
    go_wp2_with (go_at_call 110; refine (HN.out _ _).mono ?_; rintro e w' ⟨rfl, rfl⟩)
    go_ret
    exact ⟨ret_int hE.out.symm, rfl⟩
  · by_cases h2 : y < x
    · have hE := Lib.hid (show cmpI x y = 1 by unfold cmpI; rw [if_neg h, if_pos h2])
      go_enter Tryz.func85, Tryz.ntmps85
      go_wp2_with (go_at_call 110; refine (HN.out _ _).mono ?_; rintro e w' ⟨rfl, rfl⟩)
      go_ret
      exact ⟨ret_int hE.out.symm, rfl⟩
    · have hE := Lib.hid (show cmpI x y = 0 by unfold cmpI; rw [if_neg h, if_neg h2])
      go_enter Tryz.func85, Tryz.ntmps85
      go_wp2_with (go_at_call 110; refine (HN.out _ _).mono ?_; rintro e w' ⟨rfl, rfl⟩)
      go_ret
      exact ⟨ret_int hE.out.symm, rfl⟩

end Go.Proofs.YtbbmgcdocolakaaGreatDoor
/-
  Patterns plainly: how two are held against each other, degrees.
-/
set_option linter.unusedVariables false
namespace Go.Proofs.YtbbmgcdocolakaaGreatDoor.Pt

def cmpI (a b : Int) : Int := if a < b then -1 else if b < a then 1 else 0
/-- A comparison: turned round it is the other way; it goes on; only the same are alike. -/
structure Cp {α : Type} (f : α → α → Int) : Prop where
  anti : ∀ x y, f x y = - f y x
  trans : ∀ x y z, f x y ≤ 0 → f y z ≤ 0 → f x z ≤ 0
theorem Cp.self {α : Type} {f : α → α → Int} (h : Cp f) (x : α) : f x x = 0 := by have := h.anti x x; omega
theorem Cp.lt {α : Type} {f : α → α → Int} (h : Cp f) {x y z : α} (h1 : f x y < 0) (h2 : f y z ≤ 0) : f x z < 0 := by
  by_cases h3 : f x z < 0
  · exact h3
  · have h4 := h.anti z x
    have h5 := h.trans y z x h2 (by omega)
    have h6 := h.anti x y
    omega
theorem Cp.lt' {α : Type} {f : α → α → Int} (h : Cp f) {x y z : α} (h1 : f x y ≤ 0) (h2 : f y z < 0) : f x z < 0 := by
  by_cases h3 : f x z < 0
  · exact h3
  · have h4 := h.anti z x
    have h5 := h.trans z x y (by omega) h1
    have h6 := h.anti y z
    omega
theorem Cp.zero {α : Type} {f : α → α → Int} (h : Cp f) {x y z : α} (h1 : f x y = 0) (h2 : f y z = 0) : f x z = 0 := by
  have h3 := h.trans x y z (by omega) (by omega)
  have h4 := h.anti z y
  have h5 := h.anti y x
  have h6 := h.trans z y x (by have := h.anti y z; omega) (by omega)
  have h7 := h.anti x z
  omega
/-- The first that parts them. -/
def or2 (a b : Int) : Int := if a = 0 then b else a
theorem Cp.or {α : Type} {f g : α → α → Int} (hf : Cp f) (hg : Cp g) : Cp (fun x y => or2 (f x y) (g x y)) where
  anti x y := by
    have h1 := hf.anti x y
    have h2 := hg.anti x y
    unfold or2
    by_cases h : f x y = 0
    · rw [if_pos h, if_pos (by omega)]
      exact h2
    · rw [if_neg h, if_neg (by omega)]
      exact h1
  trans x y z h1 h2 := by
    unfold or2 at h1 h2 ⊢
    by_cases h3 : f x y = 0
    · rw [if_pos h3] at h1
      by_cases h4 : f y z = 0
      · rw [if_pos h4] at h2
        rw [if_pos (hf.zero h3 h4)]
        exact hg.trans x y z h1 h2
      · rw [if_neg h4] at h2
        have := hf.lt' (x := x) (by omega) (show f y z < 0 by omega)
        rw [if_neg (by omega)]
        omega
    · rw [if_neg h3] at h1
      have h6 : f y z ≤ 0 := by
        by_cases h4 : f y z = 0
        · omega
        · rw [if_neg h4] at h2
          exact h2
      have := hf.lt (show f x y < 0 by omega) h6
      rw [if_neg (by omega)]
      omega
theorem Cp.on {α β : Type} {f : α → α → Int} (h : Cp f) (k : β → α) : Cp (fun x y => f (k x) (k y)) := ⟨fun x y => h.anti _ _, fun x y z => h.trans _ _ _⟩
theorem cp_int : Cp cmpI where
  anti x y := by unfold cmpI; split <;> split <;> (try split) <;> omega
  trans x y z := by unfold cmpI; intro h1 h2; split at h1 <;> split at h2 <;> (try split at h1) <;> (try split at h2) <;> (try split) <;> (try split) <;> omega
theorem cmpI_zero {a b : Int} : cmpI a b = 0 ↔ a = b := by unfold cmpI; split <;> (try split) <;> constructor <;> intro h <;> omega
theorem or2_zero {a b : Int} : or2 a b = 0 ↔ a = 0 ∧ b = 0 := by unfold or2; split <;> constructor <;> intro h <;> simp_all

/-- One list by another. -/
def cmpBy {α : Type} (f : α → α → Int) : List α → List α → Int
  | [], [] => 0
  | [], _ :: _ => -1
  | _ :: _, [] => 1
  | a :: l, b :: m => if f a b = 0 then cmpBy f l m else f a b
theorem cmpBy_anti {α : Type} {f : α → α → Int} (h : Cp f) : ∀ l m, cmpBy f l m = - cmpBy f m l
  | [], [] => rfl
  | [], _ :: _ => rfl
  | _ :: _, [] => rfl
  | a :: l, b :: m => by
    have h1 := h.anti a b
    have h2 := cmpBy_anti h l m
    unfold cmpBy
    by_cases h3 : f a b = 0
    · rw [if_pos h3, if_pos (by omega)]
      exact h2
    · rw [if_neg h3, if_neg (by omega)]
      exact h1
theorem cmpBy_trans {α : Type} {f : α → α → Int} (h : Cp f) : ∀ l m n, cmpBy f l m ≤ 0 → cmpBy f m n ≤ 0 → cmpBy f l n ≤ 0
  | [], m, [], _, _ => Int.le_refl 0
  | [], m, c :: n, _, _ => by show (-1 : Int) ≤ 0; omega
  | a :: l, [], n, h1, _ => by have h' : (1 : Int) ≤ 0 := h1; omega
  | a :: l, b :: m, [], _, h2 => by have h' : (1 : Int) ≤ 0 := h2; omega
  | a :: l, b :: m, c :: n, h1, h2 => by
    have ih := cmpBy_trans h l m n
    rw [cmpBy] at h1 h2 ⊢
    by_cases h3 : f a b = 0
    · rw [if_pos h3] at h1
      by_cases h4 : f b c = 0
      · rw [if_pos h4] at h2
        rw [if_pos (h.zero h3 h4)]
        exact ih h1 h2
      · rw [if_neg h4] at h2
        have := h.lt' (x := a) (by omega) (show f b c < 0 by omega)
        rw [if_neg (by omega)]
        omega
    · rw [if_neg h3] at h1
      have h6 : f b c ≤ 0 := by
        by_cases h4 : f b c = 0
        · omega
        · rw [if_neg h4] at h2
          exact h2
      have := h.lt (show f a b < 0 by omega) h6
      rw [if_neg (by omega)]
      omega
theorem Cp.list {α : Type} {f : α → α → Int} (h : Cp f) : Cp (cmpBy f) := ⟨cmpBy_anti h, cmpBy_trans h⟩
theorem cmpBy_zero {α : Type} {f : α → α → Int} (h : Cp f) (h0 : ∀ x y, f x y = 0 → x = y) : ∀ l m, cmpBy f l m = 0 ↔ l = m
  | [], [] => by simp [cmpBy]
  | [], b :: m => by simp [cmpBy]
  | a :: l, [] => by simp [cmpBy]
  | a :: l, b :: m => by
    rw [cmpBy]
    by_cases h3 : f a b = 0
    · obtain rfl := h0 a b h3
      rw [if_pos h3, cmpBy_zero h h0 l m]
      simp
    · rw [if_neg h3]
      constructor
      · intro h4; exact absurd h4 h3
      · intro h4
        cases h4
        exact absurd (h.self a) h3

def ordE (a b : Int × Int) : Int := or2 (cmpI a.1 b.1) (cmpI a.2 b.2)
theorem cp_edge : Cp ordE := (cp_int.on Prod.fst).or (cp_int.on Prod.snd)
theorem ordE_zero {a b : Int × Int} (h : ordE a b = 0) : a = b := by
  have h' := or2_zero.1 h
  exact Prod.ext (cmpI_zero.1 h'.1) (cmpI_zero.1 h'.2)
/-- Two patterns: how many labels, the labels, how many edges, the edges. -/
def cmpP (L : List Int) (E : List (Int × Int)) (L' : List Int) (E' : List (Int × Int)) : Int :=
  or2 (cmpI L.length L'.length) (or2 (cmpBy cmpI L L') (or2 (cmpI E.length E'.length) (cmpBy ordE E E')))
theorem cp_pat : Cp (fun (p q : List Int × List (Int × Int)) => cmpP p.1 p.2 q.1 q.2) :=
  (cp_int.on (fun p : List Int × List (Int × Int) => (p.1.length : Int))).or ((cp_int.list.on Prod.fst).or ((cp_int.on (fun p : List Int × List (Int × Int) => (p.2.length : Int))).or (cp_edge.list.on Prod.snd)))
theorem cmpP_zero {L : List Int} {E : List (Int × Int)} {L' : List Int} {E' : List (Int × Int)} : cmpP L E L' E' = 0 ↔ L = L' ∧ E = E' := by
  unfold cmpP
  rw [or2_zero, or2_zero, or2_zero, cmpBy_zero cp_int (fun _ _ => cmpI_zero.1), cmpBy_zero cp_edge (fun _ _ => ordE_zero)]
  constructor
  · rintro ⟨_, h1, _, h2⟩
    exact ⟨h1, h2⟩
  · rintro ⟨rfl, rfl⟩
    exact ⟨cmpI_zero.2 rfl, rfl, cmpI_zero.2 rfl, rfl⟩
theorem cmpP_fewer {L : List Int} {E : List (Int × Int)} {L' : List Int} {E' : List (Int × Int)} (h : L.length < L'.length) : cmpP L E L' E' < 0 := by
  have h1 : cmpI (L.length : Int) (L'.length : Int) = -1 := if_pos (by omega)
  unfold cmpP or2
  rw [h1, if_neg (by omega)]
  omega

/-- An edge that may be: its ends among n vertices, the lesser first. -/
def EdgeOK (n : Nat) (e : Int × Int) : Prop := 0 ≤ e.1 ∧ e.1 < e.2 ∧ e.2 < (n : Int)
def deg (E : List (Int × Int)) (v : Int) : Nat := (E.filter fun e => decide (e.1 = v) || decide (e.2 = v)).length
def degs (E : List (Int × Int)) : Nat → Nat
  | 0 => 0
  | n + 1 => degs E n + deg E n
theorem degs_nil : ∀ n, degs [] n = 0
  | 0 => rfl
  | n + 1 => by rw [degs, degs_nil n]; rfl
theorem degs_cons (e : Int × Int) (E : List (Int × Int)) (h0 : 0 ≤ e.1) (h1 : e.1 < e.2) : ∀ n : Nat, degs (e :: E) n = degs E n + (if e.1 < n then 1 else 0) + (if e.2 < n then 1 else 0)
  | 0 => by rw [degs, degs, if_neg (by simp; omega), if_neg (by simp; omega)]
  | n + 1 => by
    rw [degs, degs, degs_cons e E h0 h1 n]
    have hd : deg (e :: E) n = deg E n + (if e.1 = n then 1 else 0) + (if e.2 = n then 1 else 0) := by
      unfold deg
      rw [List.filter_cons]
      by_cases ha : e.1 = (n : Int)
      · have hb : ¬ e.2 = (n : Int) := by omega
        simp [ha, hb]
      · by_cases hb : e.2 = (n : Int)
        · simp [ha, hb]
        · simp [ha, hb]
    rw [hd]
    have e1 : (if e.1 < ((n + 1 : Nat) : Int) then 1 else 0) = (if e.1 < (n : Int) then 1 else 0) + (if e.1 = (n : Int) then 1 else 0) := by
      split <;> split <;> (try split) <;> omega
    have e2 : (if e.2 < ((n + 1 : Nat) : Int) then 1 else 0) = (if e.2 < (n : Int) then 1 else 0) + (if e.2 = (n : Int) then 1 else 0) := by
      split <;> split <;> (try split) <;> omega
    rw [e1, e2]
    omega
theorem degs_all {n : Nat} : ∀ (E : List (Int × Int)), (∀ e ∈ E, EdgeOK n e) → degs E n = 2 * E.length
  | [], _ => by rw [degs_nil]; rfl
  | e :: E, h => by
    have h1 := h e (List.mem_cons_self ..)
    rw [degs_cons e E h1.1 h1.2.1, degs_all E (fun e he => h e (List.mem_cons_of_mem _ he)), if_pos (by have := h1.2; omega), if_pos h1.2.2, List.length_cons]
    omega
end Go.Proofs.YtbbmgcdocolakaaGreatDoor.Pt
