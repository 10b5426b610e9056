/-
  Words for memory that name no function of the program: a slice that reads as cells (Sl), the law of append in one step (wpList_push, wpList_cat), blocks known whole (Blk).
-/
import Derived.WalkKit
import Derived.Lib.Hide
import Derived.Deep.Draws
import Derived.WalkSmall
namespace Go.Proofs.YtmonepclhbappaaDoor
open Go.RowKit

theorem bel_alloc {B : Nat} {w w1 : World} (h : Below B w w1) (hB : B ≤ w.heap.size) (o : Obj) : Below B w (w1.alloc o) := h.alloc (Nat.le_trans hB h.size) o
theorem bel_al {w w1 : World} (h : Below w.heap.size w w1) (o : Obj) : Below w.heap.size w (w1.alloc o) := h.alloc h.size o
theorem bel_set {B : Nat} {w w1 : World} (h : Below B w w1) {p : Addr} (hp : B ≤ p.block) (u : Value) : Below B w (w1.setCell p u) := h.setCell hp u
theorem bel_drewN {B : Nat} {w w1 : World} (h : Below B w w1) (n : Nat) : Below B w (w1.drewN n) := below_drewN h n

theorem _root_.Go.RowKit.Below.andThen {w w1 w2 : World} (h : Below w.heap.size w w1) (k : Below w1.heap.size w1 w2) : Below w.heap.size w w2 := h.trans (k.mono h.size)

/-- Block g is just the cells cs of element type t, none frozen. -/
def Blk (w : World) (g : Nat) (t : TypeId) (cs : Array Value) : Prop := w.heap[g]? = some (.cells cs t (0, 0))

section
variable {w w' : World} {g : Nat} {t : TypeId} {cs : Array Value}
theorem Blk.lt (h : Blk w g t cs) : g < w.heap.size := by
  rcases Nat.lt_or_ge g w.heap.size with hlt | hge
  · exact hlt
  · unfold Blk at h; rw [Array.getElem?_eq_none hge] at h; cases h
theorem Blk.cell (h : Blk w g t cs) (i : Nat) : w.cell? ⟨g, i, none⟩ = cs[i]? := cell_of_row w g i cs t (0, 0) h
theorem Blk.frozen (h : Blk w g t cs) (i : Nat) : w.frozen? ⟨g, i, none⟩ = false := by
  unfold Blk at h
  simp [World.frozen?, h]
theorem Blk.new (w : World) (t : TypeId) (cs : Array Value) : Blk (w.alloc (.cells cs t)) w.heap.size t cs := heap_alloc_new w _
theorem Blk.drew (h : Blk w g t cs) : Blk w.drew g t cs := h
theorem Blk.drewN (h : Blk w g t cs) (n : Nat) : Blk (w.drewN n) g t cs := h
theorem Blk.alloc (h : Blk w g t cs) (o : Obj) : Blk (w.alloc o) g t cs := (Below.heap_alloc w o g h.lt).trans h
theorem Blk.set_ (h : Blk w g t cs) (i : Nat) (u : Value) : Blk (w.setCell ⟨g, i, none⟩ u) g t (cs.setIfInBounds i u) := by
  unfold Blk at h ⊢
  simp [World.setCell, Array.getElem?_modify, h]
theorem Blk.far (h : Blk w g t cs) {p : Addr} (hp : g ≠ p.block) (u : Value) : Blk (w.setCell p u) g t cs := (Below.heap_setCell w p u g hp).trans h
theorem Blk.below {B : Nat} (h : Blk w g t cs) (hb : Below B w w') (hg : g < B) : Blk w' g t cs := (hb.block g hg).trans h
theorem Blk.grown {row : Option Nat} (h : Blk w g t cs) (hb : w.grownBy w' row) (hg : some g ≠ row) : Blk w' g t cs := (hb.block g h.lt hg).trans h
theorem Blk.keep (h : Blk w g t cs) (hb : Below w.heap.size w w') : Blk w' g t cs := h.below hb h.lt
end

/-- The slice that begins at A and has n elements of s cells each reads as the cells xs. -/
def Sl (w : World) (s : Nat) (A : Option Addr) (n : Nat) (xs : List Value) : Prop :=
  xs.length = n * s ∧ (0 < n → ∃ b off, A = some ⟨b, off, none⟩ ∧ ∀ j u, xs[j]? = some u → w.cell? ⟨b, off + j, none⟩ = some u)

section
variable {w w' : World} {s n : Nat} {A : Option Addr} {xs : List Value}
theorem Sl.nil (w : World) (s : Nat) (A : Option Addr) : Sl w s A 0 [] := ⟨by simp, fun h => absurd h (by omega)⟩
theorem Sl.keep (h : Sl w s A n xs) (hb : Below w.heap.size w w') : Sl w' s A n xs :=
  ⟨h.1, fun hn => by
    obtain ⟨b, off, hA, hc⟩ := h.2 hn
    exact ⟨b, off, hA, fun j u hu => (hb.cell (World.block_lt_of_cell? w _ (hc j u hu))).trans (hc j u hu)⟩⟩
theorem Sl.alloc (h : Sl w s A n xs) (o : Obj) : Sl (w.alloc o) s A n xs := h.keep ((Below.refl _ _).alloc (Nat.le_refl _) o)
theorem Sl.drew (h : Sl w s A n xs) : Sl w.drew s A n xs := h
theorem Sl.drewN (h : Sl w s A n xs) (k : Nat) : Sl (w.drewN k) s A n xs := h
theorem Sl.at_ {k : Nat} (h : Sl w s A n xs) (hk : k < n) : ∃ b off, A = some ⟨b, off, none⟩ ∧ ∀ j, j < s → ∃ u, xs[k * s + j]? = some u ∧ w.cell? ⟨b, off + (k * s + j), none⟩ = some u := by
  obtain ⟨b, off, hA, hc⟩ := h.2 (by omega)
  refine ⟨b, off, hA, fun j hj => ?_⟩
  have hl : k * s + j < xs.length := by
    rw [h.1]
    have : (k + 1) * s ≤ n * s := Nat.mul_le_mul_right _ hk
    rw [Nat.add_mul] at this
    omega
  exact ⟨xs[k * s + j], List.getElem?_eq_getElem hl, hc _ _ (List.getElem?_eq_getElem hl)⟩
theorem Sl.one {k : Nat} (h : Sl w 1 A n xs) (hk : k < n) : ∃ b off u, A = some ⟨b, off, none⟩ ∧ xs[k]? = some u ∧ w.cell? ⟨b, off + k, none⟩ = some u := by
  obtain ⟨b, off, hA, hc⟩ := h.at_ hk
  obtain ⟨u, h1, h2⟩ := hc 0 (by omega)
  simp at h1 h2
  exact ⟨b, off, u, hA, h1, h2⟩
theorem Sl.of_own {base : Nat} {e : TypeId} {c : Nat} (h : w.ownsRow base e s (.slice A n c) n xs) : Sl w s A n xs := by
  refine ⟨h.1, fun hn => ?_⟩
  rcases h.2 with ⟨h1, h2⟩ | ⟨g, cap, cur, hv, _, hg, _, _, _, htake⟩
  · omega
  · injection hv with hv1 hv2 hv3
    refine ⟨g, 0, hv1, fun j u hu => ?_⟩
    rw [Nat.zero_add, cell_of_row w g j cur e (0, 0) hg]
    rw [← htake, List.getElem?_take] at hu
    split at hu
    · simpa using hu
    · cases hu
theorem Sl.own {base : Nat} {e : TypeId} {v : Value} (h : w.ownsRow base e s v n xs) : ∃ A c, v = .slice A n c ∧ Sl w s A n xs := by
  rcases h.2 with ⟨rfl, rfl⟩ | ⟨g, cap, cur, rfl, _⟩
  · exact ⟨none, 0, rfl, Sl.of_own (c := 0) h⟩
  · exact ⟨_, cap, rfl, Sl.of_own h⟩
end

theorem Sl.new (w : World) (cs : Array Value) (e : TypeId) : Sl (w.alloc (.cells cs e)) 1 (some ⟨w.heap.size, 0, none⟩) cs.size cs.toList :=
  ⟨by simp, fun _ => ⟨_, _, rfl, fun j u hu => by rw [Nat.zero_add, World.cell?_alloc_new]; simpa using hu⟩⟩

/-- A slice type t of elements e: its element's zero value, cells and bytes. -/
structure Elem (P : Program) (t e : TypeId) (z : Value) (size bytes : Nat) : Prop where
  ht : P.underlying t = some (.slice e)
  hi : (P.info? e).map (fun i => (i.zero, i.size, i.bytes)) = some (some z, size, bytes)
  hzs : z.cells.size = size
  hsz : 0 < size

/-- A block of other cells than a row's stays while that row grows. -/
theorem Blk.others {w w' : World} {g B size n : Nat} {t e : TypeId} {cs : Array Value} {v : Value} {xs : List Value} (h : Blk w g t cs) (hown : w.ownsRow B e size v n xs) (hg : w.grownBy w' v.ownBlock) (hne : t ≠ e) : Blk w' g t cs := by
  refine h.grown hg ?_
  rcases hown.2 with ⟨rfl, _⟩ | ⟨g', cap, cur, rfl, _, hgg, _⟩
  · intro hc; simp [Value.ownBlock] at hc
  · intro hc
    obtain rfl : g = g' := by simpa [Value.ownBlock] using hc
    unfold Blk at h
    rw [h] at hgg
    injection hgg with hgg
    injection hgg with _ ht
    exact hne ht

/-- The length below which no append ever stops for want of room. -/
def lim : Nat := 140737488355328
theorem lim_eq : lim = 140737488355328 := rfl

theorem cells_of_new (w : World) (cs : Array Value) (e : TypeId) : ∀ j u, cs.toList[j]? = some u → (w.alloc (.cells cs e)).cell? ((⟨w.heap.size, 0, none⟩ : Addr).add j) = some u := by
  intro j u hu
  have hadd : (⟨w.heap.size, 0, none⟩ : Addr).add j = ⟨w.heap.size, j, none⟩ := by unfold Addr.add; split <;> simp_all
  rw [hadd, World.cell?_alloc_new]
  simpa using hu

section
variable {P : Program} {ops : Array Oper} {rest : List Oper} {o : Oper} {a : Act} {Q : Exit → Act → World → Prop}
/-- append(s, x): one element more, onto a slice that the call owns. The element's cells cs lie in the block that was just made. What changes of the world W: the row alone. -/
theorem wpList_push_g {t e : TypeId} {z : Value} {size bytes : Nat} (E : Elem P t e z size bytes) {B : Nat} {W w0 : World} {cs : Array Value} (s x : Operand)
    (hgd : o.guard = none) (ho : o.op = .call { callee := .builtin .append, args := #[s, x], argTypes := #[t, t] })
    {v : Value} {n : Nat} {xs : List Value} (hown : W.ownsRow B e size v n xs) (hbel : Below B w0 W) (hB : B ≤ w0.heap.size)
    (hs : a.eval s = v) (hx : a.eval x = .slice (some ⟨W.heap.size, 0, none⟩) 1 1) (hl : cs.size = size) (h1 : ∀ u ∈ cs.toList, u.oneCell' = true)
    (hlim : (n + 1) * bytes ≤ lim) (hlim' : n + 1 ≤ lim)
    (h : ∀ v' w', w'.ownsRow B e size v' (n + 1) (xs ++ cs.toList) → Below B w0 w' → W.grownBy w' v.ownBlock → wpList P ops Q rest (a.put o.dst v') w') : wpList P ops Q (o :: rest) a (W.alloc (.cells cs e)) := by
  obtain ⟨i, hi, hz, hsize, hby⟩ := info_parts E.hi
  unfold lim at hlim hlim'
  refine wpList_append_own (W.alloc (.cells cs e)) hgd s x t ho B e i z size bytes E.ht hi hz hsize hby E.hzs E.hsz v n xs hs (hown.alloc _) ⟨W.heap.size, 0, none⟩ 1 1 cs.toList hx (by simp [hl]) (cells_of_new W cs e) h1 (by unfold maxLen; omega) hlim (by have := hbel.size; simp; omega) ?_
  intro v' w' h2 h3 _
  refine h v' w' h2 ((bel_alloc hbel hB _).grown h3 (by have := hbel.size; simp; omega) (fun k hk => (hown.lt k hk).1)) ⟨h3.os, h3.tape, h3.output, by have := h3.size; simp at this; omega, fun k hk hne => ?_⟩
  exact (h3.block k (by simp; omega) hne).trans (Below.heap_alloc _ _ _ hk)
theorem wpList_push {t e : TypeId} {z : Value} {size bytes : Nat} (E : Elem P t e z size bytes) {B : Nat} {W w0 : World} {cs : Array Value} (s x : Operand)
    (hgd : o.guard = none) (ho : o.op = .call { callee := .builtin .append, args := #[s, x], argTypes := #[t, t] })
    {v : Value} {n : Nat} {xs : List Value} (hown : W.ownsRow B e size v n xs) (hbel : Below B w0 W) (hB : B ≤ w0.heap.size)
    (hs : a.eval s = v) (hx : a.eval x = .slice (some ⟨W.heap.size, 0, none⟩) 1 1) (hl : cs.size = size) (h1 : ∀ u ∈ cs.toList, u.oneCell' = true)
    (hlim : (n + 1) * bytes ≤ lim) (hlim' : n + 1 ≤ lim)
    (h : ∀ v' w', w'.ownsRow B e size v' (n + 1) (xs ++ cs.toList) → Below B w0 w' → wpList P ops Q rest (a.put o.dst v') w') : wpList P ops Q (o :: rest) a (W.alloc (.cells cs e)) :=
  wpList_push_g E s x hgd ho hown hbel hB hs hx hl h1 hlim hlim' fun v' w' h1 h2 _ => h v' w' h1 h2

/-- append(s, x...): onto a slice that the call owns, what a slice holds that reads. -/
theorem wpList_cat {t e : TypeId} {z : Value} {size bytes : Nat} (E : Elem P t e z size bytes) {B : Nat} {W w0 : World} (s x : Operand)
    (hgd : o.guard = none) (ho : o.op = .call { callee := .builtin .append, args := #[s, x], argTypes := #[t, t] })
    {v : Value} {n : Nat} {xs : List Value} (hown : W.ownsRow B e size v n xs) (hbel : Below B w0 W) (hB : B ≤ w0.heap.size)
    {A : Option Addr} {m c : Nat} {ys : List Value} (hy : Sl W size A m ys)
    (hs : a.eval s = v) (hx : a.eval x = .slice A m c) (h1 : ∀ u ∈ ys, u.oneCell' = true)
    (hlim : (n + m) * bytes ≤ lim) (hlim' : n + m ≤ lim)
    (h : ∀ v' w', w'.ownsRow B e size v' (n + m) (xs ++ ys) → Below B w0 w' → (v' = .slice none 0 0 ↔ v = .slice none 0 0 ∧ m = 0) → wpList P ops Q rest (a.put o.dst v') w') : wpList P ops Q (o :: rest) a W := by
  obtain ⟨i, hi, hz, hsize, hby⟩ := info_parts E.hi
  unfold lim at hlim hlim'
  rcases Nat.eq_zero_or_pos m with hm | hm
  · subst hm
    have hys : ys = [] := List.eq_nil_of_length_eq_zero (by simpa using hy.1)
    subst hys
    rw [List.append_nil] at h
    refine wpList_plain hgd fun K hK => ?_
    have hrun : (Builtin.append_ #[t, t] o.type #[v, .slice A 0 c]).run P W = .ok v W := by
      have ht := E.ht
      rcases hown.2 with ⟨rfl, rfl⟩ | ⟨g, cap, cur, rfl, _, _, hnc, _⟩
      · cases A <;> simp [Builtin.append_, run_underlying ht, sizeOf, typeInfo, hi, Builtin.lenOf, Builtin.firstCells, loadCells, loadCellsFrom]
      · cases A <;> simp [Builtin.append_, run_underlying ht, sizeOf, typeInfo, hi, Builtin.lenOf, Builtin.firstCells, loadCells, loadCellsFrom, hnc, storeCells]
    unfold Oper.wp execOp
    simp only [ho, resolve, invoke, builtin, Sem.run_bind, Sem.run_pure, Result.andThen_ok, List.map_toArray, List.map_cons, List.map_nil, hs, hx, hrun]
    exact hK _ _ (h v W hown hbel (by simp))
  · obtain ⟨b, off, rfl, hc⟩ := hy.2 hm
    refine wpList_append_own W hgd s x t ho B e i z size bytes E.ht hi hz hsize hby E.hzs E.hsz v n xs hs hown ⟨b, off, none⟩ m c ys hx hy.1 (fun j u hu => ?_) h1 (by unfold maxLen; omega) hlim (Nat.le_trans hB hbel.size) ?_
    · have hadd : (⟨b, off, none⟩ : Addr).add j = ⟨b, off + j, none⟩ := by unfold Addr.add; split <;> simp_all
      rw [hadd]; exact hc j u hu
    · intro v' w' h2 h3 h4
      exact h v' w' h2 (hbel.grown h3 (Nat.le_trans hB hbel.size) (fun k hk => (hown.lt k hk).1)) h4
end

theorem wf_i64 {z : Int} (h : (Lit.int .i64 z).wf = true) : -9223372036854775808 ≤ z ∧ z ≤ 9223372036854775807 := by
  simpa [Lit.wf, IntKind.min, IntKind.max, IntKind.bits, IntKind.signed] using h
theorem wf_u8 {z : Int} (h : (Lit.int .u8 z).wf = true) : 0 ≤ z ∧ z ≤ 255 := by
  simpa [Lit.wf, IntKind.min, IntKind.max, IntKind.bits, IntKind.signed] using h
theorem wf_u16 {z : Int} (h : (Lit.int .u16 z).wf = true) : 0 ≤ z ∧ z ≤ 65535 := by
  simpa [Lit.wf, IntKind.min, IntKind.max, IntKind.bits, IntKind.signed] using h

theorem ret_eq {v v' : Value} (h : v = v') : Ending.returned v = Ending.returned v' := by rw [h]
theorem ret_int {k : IntKind} {a b : Int} (h : a = b) : Ending.returned (.int k a) = .returned (.int k b) := by rw [h]
theorem ret_bool {a b : Bool} (h : a = b) : Ending.returned (.bool a) = .returned (.bool b) := by rw [h]
end Go.Proofs.YtmonepclhbappaaDoor
