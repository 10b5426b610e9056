/-
  Part 9 of the proof of PatBack: WireH, WireI, WrK, WireJ, WireM, RdL, EncL, PatY, PatV, PatQ, BitQ, ConC, ErrIn, RdE, PatU.
-/
import Derived.Test.YtapledphhfiimaaGreatDoorPatBackM8
import Derived.Test.YtapledphhfiimaaGreatDoorPatBackM2
import Derived.WalkSpells
import Derived.Test.YtapledphhfiimaaGreatDoorPatBackM6
import Derived.BigQuiet
import Derived.Test.YtapledphhfiimaaGreatDoorPatBackM4
import Derived.Deep.RegionHeld3
import Derived.Test.YtapledphhfiimaaGreatDoorPatBackM7
import Derived.WalkKit
import Derived.Lib.Hide
import Derived.Deep.DeepCutAuto
set_option linter.unusedVariables false
/-
  Items; contracts of the statements' far and put, and of the document's Put.
-/
namespace Go.Proofs.YtapledphhfiimaaGreatDoor
open Go.RowKit
set_option maxRecDepth 100000
set_option linter.unusedVariables false

structure Item where
  kind : Int
  n : Int
  s : ByteArray
  l : List Int
def Item.ok (x : Item) : Prop := (-9223372036854775808 ≤ x.kind ∧ x.kind ≤ 9223372036854775807) ∧ (-9223372036854775808 ≤ x.n ∧ x.n ≤ 9223372036854775807) ∧ x.s.size ≤ 9223372036854775807 ∧ x.l.length ≤ 9223372036854775807 ∧ ∀ z ∈ x.l, -9223372036854775808 ≤ z ∧ z ≤ 9223372036854775807
/-- Items in memory. -/
def Its (w : World) (A : Option Addr) (n : Nat) (xs : List Item) : Prop :=
  xs.length = n ∧ ∀ (i : Nat) (x : Item), xs[i]? = some x → x.ok ∧ ∃ b off LA lc, A = some ⟨b, off, none⟩ ∧ w.cell? ⟨b, off + i * 4, none⟩ = some (.int .i64 x.kind) ∧ w.cell? ⟨b, off + i * 4 + 1, none⟩ = some (.int .i64 x.n) ∧
    w.cell? ⟨b, off + i * 4 + 2, none⟩ = some (.string x.s) ∧ w.cell? ⟨b, off + i * 4 + 3, none⟩ = some (.slice LA x.l.length lc) ∧ Sl w 1 LA x.l.length (x.l.map (Value.int .i64)) ∧ x.l.length ≤ lc ∧ lc ≤ 9223372036854775807
theorem Its.keep {w w' : World} {A : Option Addr} {n : Nat} {xs : List Item} (h : Its w A n xs) (hb : Below w.heap.size w w') : Its w' A n xs := by
  refine ⟨h.1, fun i x hx => ?_⟩
  obtain ⟨h0, b, off, LA, lc, hA, h1, h2, h3, h4, h5, h6⟩ := h.2 i x hx
  have hk : ∀ {p : Addr} {v : Value}, w.cell? p = some v → w'.cell? p = some v := fun hp => (hb.cell (World.block_lt_of_cell? w _ hp)).trans hp
  exact ⟨h0, b, off, LA, lc, hA, hk h1, hk h2, hk h3, hk h4, h5.keep hb, h6⟩
def near (x : Item) : Prop := x.s.size ≤ 200 ∧ x.l.length ≤ 60 ∧ 0 ≤ x.kind ∧ x.kind ≤ 3
def Near (xs : List Item) : Prop := xs.length ≤ 40 ∧ ∀ x ∈ xs, near x
instance (x : Item) : Decidable (near x) := by unfold near; exact inferInstance
instance (xs : List Item) : Decidable (Near xs) := by unfold Near; exact inferInstance

def pItem (x : Item) (st : St) : St := if x.kind = 0 then pNum x.n st else if x.kind = 1 then pLong x.n st else if x.kind = 2 then pText x.s st else pList x.l st
def pItems : List Item → St → St
  | [], st => st
  | x :: l, st => pItems l (pItem x st)
theorem pItems_snoc : ∀ (l : List Item) (x : Item) (st : St), pItems (l ++ [x]) st = pItem x (pItems l st)
  | [], _, _ => rfl
  | y :: l, x, st => by rw [List.cons_append, pItems, pItems_snoc l, pItems]
theorem pItem_len {x : Item} (h : near x) (st : St) : (pItem x st).1.length ≤ st.1.length + 500 := by
  obtain ⟨h1, h2, _⟩ := h
  unfold pItem
  split
  · rw [pNum_len]; omega
  split
  · simp only [pLong, List.length_append, wordL_len]; omega
  split
  · simp only [pText, List.length_append, pNum_len, sB_len]; omega
  · rw [pList, pNums_len, pNum_len]; omega
theorem pItems_len : ∀ {l : List Item} (h : ∀ x ∈ l, near x) (st : St), (pItems l st).1.length ≤ st.1.length + 500 * l.length
  | [], _, st => by simp [pItems]
  | x :: l, h, st => by
    have h1 := pItem_len (h x (List.mem_cons_self ..)) st
    have h2 := pItems_len (fun y hy => h y (List.mem_cons_of_mem _ hy)) (pItem x st)
    rw [pItems, List.length_cons]
    omega

end Go.Proofs.YtapledphhfiimaaGreatDoor
/-
  Contract of the document's Put.
-/
namespace Go.Proofs.YtapledphhfiimaaGreatDoor
open Go.RowKit
set_option maxRecDepth 100000
set_option linter.unusedVariables false

/-- The place of the first number that can't be, or -1. -/
def badE : Err → Int
  | .flt _ a _ => a
  | _ => -1
/-- An error of a writer. -/
def WE (E : Err) : Prop := E = .nil ∨ ∃ a : Nat, a ≤ 1000000 ∧ E = .flt 3 a txtNumber
theorem WE.pNum {z : Int} {st : St} (h : WE st.2) (hl : st.1.length ≤ 1000000) : WE (pNum z st).2 := by
  unfold Go.Proofs.YtapledphhfiimaaGreatDoor.pNum
  split
  · exact h
  · rcases h with h | ⟨a, ha, h⟩
    · rw [h]; exact .inr ⟨_, hl, rfl⟩
    · rw [h]; exact .inr ⟨a, ha, rfl⟩
theorem WE.pNums : ∀ {l : List Int} {st : St}, WE st.2 → st.1.length + 4 * l.length ≤ 1000000 → WE (pNums l st).2
  | [], _, h, _ => h
  | z :: l, st, h, hl => by
    rw [List.length_cons] at hl
    rw [Go.Proofs.YtapledphhfiimaaGreatDoor.pNums]
    exact WE.pNums (h.pNum (by omega)) (by rw [pNum_len]; omega)
theorem WE.pItem {x : Item} {st : St} (h : WE st.2) (hn : near x) (hl : st.1.length ≤ 900000) : WE (pItem x st).2 := by
  obtain ⟨h1, h2, _⟩ := hn
  unfold Go.Proofs.YtapledphhfiimaaGreatDoor.pItem
  split
  · exact h.pNum (by omega)
  split
  · exact h
  split
  · exact h.pNum (by omega)
  · rw [pList]; exact (h.pNum (by omega)).pNums (by rw [pNum_len]; omega)
theorem WE.pItems : ∀ {l : List Item} {st : St}, WE st.2 → (∀ x ∈ l, near x) → st.1.length + 500 * l.length ≤ 900000 → WE (pItems l st).2
  | [], _, h, _, _ => h
  | x :: l, st, h, hn, hl => by
    rw [List.length_cons] at hl
    have h1 := pItem_len (hn x (List.mem_cons_self ..)) st
    rw [Go.Proofs.YtapledphhfiimaaGreatDoor.pItems]
    exact WE.pItems (h.pItem (hn x (List.mem_cons_self ..)) (by omega)) (fun y hy => hn y (List.mem_cons_of_mem _ hy)) (by omega)
theorem badE_nil {E : Err} (h : WE E) : badE E < 0 ↔ E = .nil := by
  rcases h with rfl | ⟨a, _, rfl⟩
  · simp [badE]
  · simp only [badE]
    constructor
    · intro h; omega
    · intro h; cases h

end Go.Proofs.YtapledphhfiimaaGreatDoor
/-
  Contracts of wire.Writer: Num, List where all fits: rows of other cells are left be.
-/
namespace Go.Proofs.YtapledphhfiimaaGreatDoor
open Go.RowKit
set_option maxRecDepth 100000
set_option linter.unusedVariables false

/-- A list in bytes. -/
def encW (l : List Int) : List Int := wordL l.length ++ l.flatMap fun x => wordL x.toNat
theorem encF_len (l : List Int) : (l.flatMap fun x => wordL x.toNat).length = 4 * l.length := by
  induction l with
  | nil => rfl
  | cons x l ih => rw [List.flatMap_cons, List.length_append, ih, wordL_len, List.length_cons]; omega
theorem encW_len (l : List Int) : (encW l).length = 4 + 4 * l.length := by unfold encW; rw [List.length_append, encF_len, wordL_len]
theorem fits_nat {z : Int} (h : fits z) : ∃ k : Nat, z = (k : Int) ∧ k < 4294967296 := ⟨z.toNat, by have := h.1; omega, by have := h.1; have := h.2; omega⟩

end Go.Proofs.YtapledphhfiimaaGreatDoor
/-
  Contracts of wire.Reader: NewReader, take, num, Num, Long, Left, End; what nobody answers.
-/
namespace Go.Proofs.YtapledphhfiimaaGreatDoor
open Go.RowKit
set_option maxRecDepth 100000
set_option linter.unusedVariables false

def txtBytes : ByteArray := ⟨#[98, 121, 116, 101, 115]⟩
def txtList : ByteArray := ⟨#[108, 105, 115, 116]⟩
/-- Of what was there nothing but block g has turned. -/
def Asd (g : Nat) (w w' : World) : Prop := w.heap.size ≤ w'.heap.size ∧ ∀ k, k ≠ g → k < w.heap.size → w'.heap[k]? = w.heap[k]?
theorem Asd.of {g : Nat} {w w' : World} (h : Below w.heap.size w w') : Asd g w w' := ⟨h.size, fun k _ hk => h.block k hk⟩
theorem Asd.trans {g : Nat} {a b c : World} (h : Asd g a b) (k : Asd g b c) : Asd g a c := ⟨Nat.le_trans h.1 k.1, fun i hi hl => (k.2 i hi (Nat.lt_of_lt_of_le hl h.1)).trans (h.2 i hi hl)⟩
theorem Asd.setCell {g : Nat} {a w : World} (h : Asd g a w) (i : Nat) (u : Value) : Asd g a (w.setCell ⟨g, i, none⟩ u) :=
  h.trans ⟨by simp [World.setCell], fun k hk _ => Below.heap_setCell _ _ _ _ hk⟩
theorem Asd.cell {g : Nat} {w w' : World} (h : Asd g w w') {p : Addr} {v : Value} (hp : w.cell? p = some v) (hg : p.block ≠ g) : w'.cell? p = some v :=
  (World.cell?_of_block (w := w) (h.2 p.block hg (World.block_lt_of_cell? w _ hp))).trans hp
theorem Asd.froz {g : Nat} {w w' : World} (h : Asd g w w') {p : Addr} {b : Bool} (hl : p.block < w.heap.size) (hp : w.frozen? p = b) (hg : p.block ≠ g) : w'.frozen? p = b :=
  (World.frozen?_of_block (w := w) (h.2 p.block hg hl)).trans hp
theorem nilEq (w : World) (A : Option Addr) (n c : Nat) : (binOp .eql 142 (.slice A n c) (.slice none 0 0)).run Tryz.prog w = .ok (.bool A.isNone) w := Lib.run_eql_slice_nil w _ _ A n c 0 0 Tryz.underlying142

end Go.Proofs.YtapledphhfiimaaGreatDoor
/-
  Contracts of wire.Reader where the bytes suffice: List.
-/
namespace Go.Proofs.YtapledphhfiimaaGreatDoor
open Go.RowKit
set_option maxRecDepth 100000
set_option linter.unusedVariables false

/-- So many words. -/
def wordsL (l : List Int) : Nat → List Int
  | 0 => []
  | j + 1 => wordsL l j ++ [(wordN (l.drop (4 * j)) : Int)]
theorem wordsL_len (l : List Int) : ∀ j, (wordsL l j).length = j
  | 0 => rfl
  | j + 1 => by rw [wordsL, List.length_append, wordsL_len l j]; rfl

end Go.Proofs.YtapledphhfiimaaGreatDoor
/-
  Contracts of wire.Reader: List, of any length, and where it fails.
-/
namespace Go.Proofs.YtapledphhfiimaaGreatDoor
open Go.RowKit
set_option maxRecDepth 100000
set_option linter.unusedVariables false

/-- An error of a reader. -/
def rdBad (E : Err) : Prop := ∃ a s, E = .flt 9 a s ∨ E = .flt 6 a s
theorem rdBad.ne {E : Err} (h : rdBad E) : E ≠ .nil := by
  obtain ⟨a, s, rfl | rfl⟩ := h <;> exact fun e => by cases e
/-- Is there a list at a place, of at most so many numbers? -/
def okAt (l : List Int) (a most : Nat) : Prop := a + 4 ≤ l.length ∧ wordN (l.drop a) ≤ most ∧ a + 4 + 4 * wordN (l.drop a) ≤ l.length
end Go.Proofs.YtapledphhfiimaaGreatDoor
/-
  Lists in bytes, plainly: there and back.
-/
namespace Go.Proofs.YtapledphhfiimaaGreatDoor
open Go.RowKit
set_option linter.unusedVariables false

/-- A list at a place of bytes, and the place behind it. -/
def lst (l : List Int) (a : Nat) : List Int := wordsL (l.drop (a + 4)) (wordN (l.drop a))
def nxtA (l : List Int) (a : Nat) : Nat := a + 4 + 4 * wordN (l.drop a)
theorem words_take {l : List Int} (hb : Bys l) : ∀ j, 4 * j ≤ l.length → ((wordsL l j).flatMap fun x => wordL x.toNat) = l.take (4 * j)
  | 0, _ => by simp [wordsL]
  | j + 1, h => by
    rw [wordsL, List.flatMap_append, words_take hb j (by omega)]
    have e : ([((wordN (l.drop (4 * j)) : Nat) : Int)].flatMap fun x => wordL x.toNat) = (l.drop (4 * j)).take 4 := by
      rw [← wordL_of (hb.drop _) (by rw [List.length_drop]; omega)]
      simp
    rw [e, show 4 * (j + 1) = 4 * j + 4 by omega, List.take_add]
theorem enc_lst {l : List Int} (hb : Bys l) {a m : Nat} (h : okAt l a m) : l.take (nxtA l a) = l.take a ++ encW (lst l a) := by
  obtain ⟨h1, h2, h3⟩ := h
  unfold nxtA encW lst
  have hl : (wordsL (l.drop (a + 4)) (wordN (l.drop a))).length = wordN (l.drop a) := wordsL_len _ _
  rw [hl, words_take (hb.drop _) _ (by rw [List.length_drop]; omega), wordL_of (hb.drop a) (by rw [List.length_drop]; omega), Nat.add_assoc, List.take_add, List.take_add, List.drop_drop]
theorem nxtA_le {l : List Int} {a m : Nat} (h : okAt l a m) : nxtA l a ≤ l.length := h.2.2
theorem lst_len {l : List Int} {a m : Nat} (h : okAt l a m) : (lst l a).length ≤ m := by unfold lst; rw [wordsL_len]; exact h.2.1
theorem words_flat {xs : List Int} (hf : ∀ x ∈ xs, fits x) (rest : List Int) : ∀ j, j ≤ xs.length → wordsL ((xs.flatMap fun x => wordL x.toNat) ++ rest) j = xs.take j
  | 0, _ => by simp [wordsL]
  | j + 1, h => by
    have hj : j < xs.length := by omega
    rw [wordsL, words_flat hf rest j (by omega), List.take_succ_eq_append_getElem hj]
    congr 1
    have hx := hf _ (List.getElem_mem hj)
    have e : ((xs.flatMap fun x => wordL x.toNat) ++ rest).drop (4 * j) = wordL xs[j].toNat ++ (((xs.drop (j + 1)).flatMap fun x => wordL x.toNat) ++ rest) := by
      have e1 : xs.flatMap (fun x => wordL x.toNat) = ((xs.take j).flatMap fun x => wordL x.toNat) ++ (wordL xs[j].toNat ++ (xs.drop (j + 1)).flatMap fun x => wordL x.toNat) := by
        conv => lhs; rw [← List.take_append_drop j xs, List.drop_eq_getElem_cons hj]
        rw [List.flatMap_append, List.flatMap_cons]
      have e2 : ((xs.take j).flatMap fun x => wordL x.toNat).length = 4 * j := by rw [encF_len, List.length_take]; omega
      rw [e1, List.append_assoc, ← e2, List.drop_left, List.append_assoc]
    rw [e, wordN_of (by have := hx.1; have := hx.2; omega)]
    have := hx.1
    congr 1
    omega
theorem lst_enc {xs : List Int} (hf : ∀ x ∈ xs, fits x) (hn : xs.length < 4294967296) (pre rest : List Int) {l : List Int} (hl : l = pre ++ (encW xs ++ rest)) : wordN (l.drop pre.length) = xs.length ∧ lst l pre.length = xs ∧ nxtA l pre.length = (pre ++ encW xs).length := by
  have e1 : l.drop pre.length = wordL xs.length ++ ((xs.flatMap fun x => wordL x.toNat) ++ rest) := by rw [hl, List.drop_left, encW, List.append_assoc]
  have e2 : wordN (l.drop pre.length) = xs.length := by rw [e1, wordN_of hn]
  have e3 : l.drop (pre.length + 4) = (xs.flatMap fun x => wordL x.toNat) ++ rest := by
    rw [← List.drop_drop, e1]
    exact List.drop_left (l₁ := wordL xs.length)
  refine ⟨e2, ?_, ?_⟩
  · unfold lst
    rw [e2, e3, words_flat hf rest _ (Nat.le_refl _), List.take_of_length_le (Nat.le_refl _)]
  · unfold nxtA
    rw [e2, List.length_append, encW_len]
    omega
theorem ok_enc {xs : List Int} (hf : ∀ x ∈ xs, fits x) {m : Nat} (hm : xs.length ≤ m) (h32 : m < 4294967296) (pre rest : List Int) {l : List Int} (hl : l = pre ++ (encW xs ++ rest)) : okAt l pre.length m := by
  obtain ⟨h1, _, _⟩ := lst_enc hf (by omega) pre rest hl
  have h2 : l.length = pre.length + (4 + 4 * xs.length + rest.length) := by rw [hl, List.length_append, List.length_append, encW_len]
  unfold okAt
  omega
end Go.Proofs.YtapledphhfiimaaGreatDoor
/-
  A pattern's bytes.
-/
namespace Go.Proofs.YtapledphhfiimaaGreatDoor
open Go.RowKit
set_option maxRecDepth 100000
set_option linter.unusedVariables false

def endsL (E : List (Int × Int)) : List Int := E.flatMap fun e => [e.1, e.2]
theorem endsL_len (E : List (Int × Int)) : (endsL E).length = 2 * E.length := by
  unfold endsL
  induction E with
  | nil => rfl
  | cons e E ih => rw [List.flatMap_cons, List.length_append, ih, List.length_cons]; simp; omega
theorem endsL_snoc (E : List (Int × Int)) (e : Int × Int) : endsL (E ++ [e]) = endsL E ++ [e.1, e.2] := by unfold endsL; rw [List.flatMap_append]; rfl
/-- A pattern in bytes. -/
def bytesP (L : List Int) (E : List (Int × Int)) : List Int := encW L ++ encW (endsL E)

end Go.Proofs.YtapledphhfiimaaGreatDoor
/-
  A pattern's bytes plainly: there and back.
-/
namespace Go.Proofs.YtapledphhfiimaaGreatDoor
open Go.RowKit
set_option linter.unusedVariables false

/-- Numbers by twos. -/
def pairsL : List Int → List (Int × Int)
  | a :: b :: r => (a, b) :: pairsL r
  | _ => []
theorem ends_pairs : ∀ (l : List Int), l.length % 2 = 0 → endsL (pairsL l) = l
  | [], _ => rfl
  | [_], h => by simp at h
  | a :: b :: r, h => by
    have e : endsL (pairsL (a :: b :: r)) = a :: b :: endsL (pairsL r) := rfl
    rw [e, ends_pairs r (by simp only [List.length_cons] at h; omega)]
theorem pairs_ends : ∀ (E : List (Int × Int)), pairsL (endsL E) = E
  | [] => rfl
  | e :: E => by
    have h : endsL (e :: E) = e.1 :: e.2 :: endsL E := rfl
    rw [h, pairsL, pairs_ends E]
theorem pairs_len : ∀ (l : List Int), (pairsL l).length = l.length / 2
  | [] => rfl
  | [_] => by simp [pairsL]
  | a :: b :: r => by
    rw [pairsL, List.length_cons, pairs_len r, List.length_cons, List.length_cons]
    omega
/-- What has been read is the bytes. -/
theorem bytesP_read {l : List Int} (hb : Bys l) {m : Nat} (h1 : okAt l 0 m) (h2 : okAt l (nxtA l 0) m) (he : nxtA l (nxtA l 0) = l.length) (hev : (lst l (nxtA l 0)).length % 2 = 0) : bytesP (lst l 0) (pairsL (lst l (nxtA l 0))) = l := by
  have e1 := enc_lst hb h1
  have e2 := enc_lst hb h2
  rw [he, List.take_of_length_le (Nat.le_refl _), e1, List.take_zero, List.nil_append] at e2
  unfold bytesP
  rw [ends_pairs _ hev]
  exact e2.symm
/-- The bytes of a pattern are read as it. -/
theorem bytesP_back {L : List Int} {E : List (Int × Int)} {l : List Int} (hl : l = bytesP L E) (hL : ∀ x ∈ L, fits x) (hE : ∀ e ∈ E, fits e.1 ∧ fits e.2) (hn : L.length ≤ 100000) (hm : E.length ≤ 100000) :
    okAt l 0 l.length ∧ lst l 0 = L ∧ okAt l (nxtA l 0) l.length ∧ lst l (nxtA l 0) = endsL E ∧ nxtA l (nxtA l 0) = l.length := by
  have hef : ∀ z ∈ endsL E, fits z := fun z hz => by
    obtain ⟨e, he, h⟩ := List.mem_flatMap.1 hz
    rcases List.mem_cons.1 h with rfl | h
    · exact (hE e he).1
    · rw [List.mem_singleton.1 h]
      exact (hE e he).2
  have hel : (endsL E).length = 2 * E.length := endsL_len E
  have hlen : l.length = (4 + 4 * L.length) + (4 + 4 * (2 * E.length)) := by rw [hl, bytesP, List.length_append, encW_len, encW_len, hel]
  have r1 : l = [] ++ (encW L ++ encW (endsL E)) := by rw [hl, List.nil_append]; rfl
  have r2 : l = encW L ++ (encW (endsL E) ++ []) := by rw [hl, List.append_nil]; rfl
  obtain ⟨a1, a2, a3⟩ := lst_enc hL (by omega) [] _ r1
  have o1 := ok_enc hL (m := l.length) (by omega) (by omega) [] _ r1
  rw [List.nil_append] at a3
  have b0 : nxtA l 0 = (encW L).length := a3
  obtain ⟨b1, b2, b3⟩ := lst_enc hef (by omega) (encW L) _ r2
  have o2 := ok_enc hef (m := l.length) (by omega) (by omega) (encW L) _ r2
  rw [← b0] at b2 b3 o2
  exact ⟨o1, a2, o2, b2, by rw [b3, List.length_append, encW_len, encW_len, hel, hlen]⟩
end Go.Proofs.YtapledphhfiimaaGreatDoor
/-
  The document's bytes of a pattern.
-/
namespace Go.Proofs.YtapledphhfiimaaGreatDoor
open Go.RowKit
set_option maxRecDepth 100000
set_option linter.unusedVariables false

theorem pNums_enc : ∀ (l : List Int) (st : St), (∀ x ∈ l, fits x) → pNums l st = (st.1 ++ l.flatMap fun x => wordL x.toNat, st.2)
  | [], st, _ => by rw [pNums]; simp
  | z :: l, st, h => by
    rw [pNums, pNums_enc l _ fun x hx => h x (List.mem_cons_of_mem _ hx)]
    unfold pNum
    rw [if_pos (h z (List.mem_cons_self ..)), List.flatMap_cons, List.append_assoc]
theorem pList_enc {l : List Int} (st : St) (h : ∀ x ∈ l, fits x) (hl : l.length ≤ 1000000) : pList l st = (st.1 ++ encW l, st.2) := by
  unfold pList
  rw [pNums_enc l _ h]
  unfold pNum encW
  rw [if_pos (show fits ((l.length : Nat) : Int) from ⟨by omega, by omega⟩), Int.toNat_natCast, List.append_assoc]
/-- Two lists, as the document puts them. -/
theorem put_two {L M : List Int} (hL : ∀ x ∈ L, fits x) (hM : ∀ x ∈ M, fits x) (h1 : L.length ≤ 60) (h2 : M.length ≤ 60) : (pItems [⟨3, 0, ⟨#[]⟩, L⟩, ⟨3, 0, ⟨#[]⟩, M⟩] ([], .nil)).1 = encW L ++ encW M := by
  rw [pItems, pItems, pItems]
  unfold pItem
  simp only
  rw [if_neg (by decide), if_neg (by decide), if_neg (by decide), if_neg (by decide), if_neg (by decide), if_neg (by decide), pList_enc _ hL (by omega), pList_enc _ hM (by omega), List.nil_append]
/-- All edges that eight vertices can have. -/
def allE : List (Int × Int) := (List.range 8).flatMap fun a : Nat => ((List.range 8).filter fun b : Nat => decide (a < b)).map fun b : Nat => ((a : Int), (b : Int))
theorem allE_len : allE.length = 28 := by decide
theorem allE_mem {e : Int × Int} (h0 : 0 ≤ e.1) (h1 : e.1 < e.2) (h2 : e.2 < 8) : e ∈ allE := by
  unfold allE
  refine List.mem_flatMap.2 ⟨e.1.toNat, List.mem_range.2 (by omega), List.mem_map.2 ⟨e.2.toNat, List.mem_filter.2 ⟨List.mem_range.2 (by omega), by simp; omega⟩, ?_⟩⟩
  exact Prod.ext (by simp only; omega) (by simp only; omega)
theorem lessP_trans {a b c d e f : Int} (h1 : lessP a b c d) (h2 : lessP c d e f) : lessP a b e f := by unfold lessP at *; omega
/-- A pattern that is right has at most 28 edges. -/
theorem right_few {L : List Int} {E : List (Int × Int)} (h : rightP L E) : E.length ≤ 28 := by
  have hlt : ∀ j i (hi : i < j) (hj : j < E.length), lessP (E[i]'(by omega)).1 (E[i]'(by omega)).2 E[j].1 E[j].2 := by
    intro j
    induction j with
    | zero => intro i hi; omega
    | succ j ih =>
      intro i hi hj
      have h1 := (h.2 (j + 1) E[j + 1] (List.getElem?_eq_getElem hj)).2 E[j] (Nat.succ_pos _) (by rw [show j + 1 - 1 = j from rfl]; exact List.getElem?_eq_getElem (by omega))
      have h2 := (ordE_less _ _ _ _).1 h1
      by_cases he : i = j
      · subst he; exact h2
      · exact lessP_trans (ih i (by omega) (by omega)) h2
  have hnd : E.Nodup := by
    refine List.pairwise_iff_getElem.2 fun i j hi hj hij e => ?_
    have := hlt j i hij hj
    rw [e] at this
    unfold lessP at this
    omega
  have h8 := h.1.1
  have := sub_lenP E allE hnd fun e he => by
    obtain ⟨i, hi, he2⟩ := List.mem_iff_getElem.1 he
    have h1 := (h.2 i e (by rw [List.getElem?_eq_getElem hi, he2])).1
    unfold Pt.EdgeOK at h1
    exact allE_mem h1.1 h1.2.1 (by omega)
  rwa [allE_len] at this
theorem right_fits {L : List Int} {E : List (Int × Int)} (h : rightP L E) : (∀ x ∈ L, fits x) ∧ (∀ e ∈ E, fits e.1 ∧ fits e.2) ∧ (∀ x ∈ endsL E, fits x) := by
  have h1 : ∀ x ∈ L, fits x := fun x hx => by have := h.1.2 x hx; unfold fits; omega
  have h2 : ∀ e ∈ E, fits e.1 ∧ fits e.2 := fun e he => by have := right_edges h e he; have := h.1.1; unfold fits; omega
  refine ⟨h1, h2, fun z hz => ?_⟩
  obtain ⟨e, he, h⟩ := List.mem_flatMap.1 hz
  rcases List.mem_cons.1 h with rfl | h
  · exact (h2 e he).1
  · rw [List.mem_singleton.1 h]
    exact (h2 e he).2

end Go.Proofs.YtapledphhfiimaaGreatDoor
/-
  Bits of an int, plainly: tested, set, by small numbers.
-/
namespace Go.Proofs.YtapledphhfiimaaGreatDoor
open Go.RowKit
set_option linter.unusedVariables false

theorem bq_and (a b : Nat) (ha : a < 2^63) (hb : b < 2^63) : bits .and .i64 a b = ((a &&& b : Nat) : Int) := by
  have h1 : (BitVec.ofInt 64 (a : Int) &&& BitVec.ofInt 64 (b : Int)).toNat = a &&& b := by
    rw [BitVec.toNat_and, BitVec.ofInt_natCast, BitVec.ofInt_natCast, BitVec.toNat_ofNat, BitVec.toNat_ofNat, Nat.mod_eq_of_lt (by omega), Nat.mod_eq_of_lt (by omega)]
  have h2 : a &&& b < 2^63 := Nat.lt_of_le_of_lt Nat.and_le_left ha
  show IntKind.i64.wrap (((BitVec.ofInt 64 (a : Int) &&& BitVec.ofInt 64 (b : Int)).toNat : Nat) : Int) = _
  rw [h1]
  exact IntWalk.i64_in _ (by omega)
theorem bq_or (a b : Nat) (ha : a < 2^63) (hb : b < 2^63) : bits .or .i64 a b = ((a ||| b : Nat) : Int) := by
  have h1 : (BitVec.ofInt 64 (a : Int) ||| BitVec.ofInt 64 (b : Int)).toNat = a ||| b := by
    rw [BitVec.toNat_or, BitVec.ofInt_natCast, BitVec.ofInt_natCast, BitVec.toNat_ofNat, BitVec.toNat_ofNat, Nat.mod_eq_of_lt (by omega), Nat.mod_eq_of_lt (by omega)]
  have h2 : a ||| b < 2^63 := Nat.or_lt_two_pow ha hb
  show IntKind.i64.wrap (((BitVec.ofInt 64 (a : Int) ||| BitVec.ofInt 64 (b : Int)).toNat : Nat) : Int) = _
  rw [h1]
  exact IntWalk.i64_in _ (by omega)
theorem bq_test (m y : Nat) (hm : m < 256) : (bits .and .i64 ((m : Int) / 2 ^ y) 1 == 1) = m.testBit y := by
  have h0 : ((m : Int) / 2 ^ y) = ((m >>> y : Nat) : Int) := by rw [Nat.shiftRight_eq_div_pow]; push_cast; rfl
  have h1 : m >>> y ≤ m := by rw [Nat.shiftRight_eq_div_pow]; exact Nat.div_le_self _ _
  rw [h0, show (1 : Int) = ((1 : Nat) : Int) from rfl, bq_and _ _ (by omega) (by omega), Nat.testBit, Nat.and_comm]
  generalize hq : (1 &&& m >>> y) = q
  have hq2 : q < 2 := by rw [← hq, Nat.one_and_eq_mod_two]; omega
  match q, hq2 with
  | 0, _ => rfl
  | 1, _ => rfl
theorem bq_pow {y : Nat} (hy : y ≤ 8) : 2 ^ y ≤ 256 := by
  have : 2 ^ y ≤ 2 ^ 8 := Nat.pow_le_pow_right (by omega) hy
  omega
theorem bq_shl {y : Nat} (hy : y ≤ 8) : wrap64 (2 ^ y) = ((2 ^ y : Nat) : Int) := by
  have hp := bq_pow hy
  have : ((2 : Int) ^ y) = ((2 ^ y : Nat) : Int) := by push_cast; rfl
  rw [this]
  generalize 2 ^ y = q at hp
  exact IntWalk.wrap64_in (q : Int) (by omega)
theorem bq_set2 {m a b : Nat} (hm : m < 256) (ha : a < 8) (hb : b < 8) : bits .or .i64 (m : Int) (bits .or .i64 (wrap64 (2 ^ a)) (wrap64 (2 ^ b))) = ((m ||| (1 <<< a ||| 1 <<< b) : Nat) : Int) := by
  have h1 : 2 ^ a < 2 ^ 8 := Nat.pow_lt_pow_right (by omega) ha
  have h2 : 2 ^ b < 2 ^ 8 := Nat.pow_lt_pow_right (by omega) hb
  have h3 : 2 ^ a ||| 2 ^ b < 2 ^ 8 := Nat.or_lt_two_pow h1 h2
  rw [bq_shl (by omega), bq_shl (by omega), bq_or _ _ (by omega) (by omega), bq_or _ _ (by omega) (by omega), Nat.one_shiftLeft, Nat.one_shiftLeft]
end Go.Proofs.YtapledphhfiimaaGreatDoor
/-
  pat.Connected: by bit masks.
-/
namespace Go.Proofs.YtapledphhfiimaaGreatDoor
open Go.RowKit
set_option maxRecDepth 100000
set_option linter.unusedVariables false

theorem passM_take {E : List (Int × Int)} {j s : Nat} {e : Int × Int} (h : E[j]? = some e) : passM (E.take (j + 1)) s = stepM (passM (E.take j) s) e := by
  obtain ⟨h1, h2⟩ := List.getElem?_eq_some_iff.1 h
  unfold passM
  rw [List.take_succ_eq_append_getElem h1, h2, List.foldl_append]
  rfl
theorem right_nil {L : List Int} {E : List (Int × Int)} {P : Program} {f : FuncId} {args : Array Value} {w : World} (h : rightP L E) (hc : Calls P f args w (RightRes L E w)) : Calls P f args w fun e w' => e = .returned .nilIface ∧ Below w.heap.size w w' :=
  hc.mono fun e w' hr => by
    rcases hr with ⟨_, h1, h2⟩ | ⟨hn, _⟩
    · exact ⟨h1, h2⟩
    · exact absurd h hn
theorem right_bad {L : List Int} {E : List (Int × Int)} {P : Program} {f : FuncId} {args : Array Value} {w : World} (h : ¬ rightP L E) (hc : Calls P f args w (RightRes L E w)) : Calls P f args w fun e w' => ∃ (g : Nat) (c a : Int) (s : ByteArray), e = .returned (.iface 111 (.pointer (some ⟨g, 0, none⟩))) ∧ (Err.flt c a s).At w' (.iface 111 (.pointer (some ⟨g, 0, none⟩))) ∧ Below w.heap.size w w' ∧ 0 < c :=
  hc.mono fun e w' hr => by
    rcases hr with ⟨hn, _⟩ | ⟨_, c, a, s, v, rfl, ⟨g, rfl, hk⟩, hb, hc, _⟩
    · exact absurd hn h
    · exact ⟨g, c, a, s, rfl, ⟨g, rfl, hk⟩, hb, hc⟩

set_option maxHeartbeats 8000000 in
theorem Connected_any (L : List Int) (E : List (Int × Int)) (A B : Option Addr) (n c m d : Nat) (w : World) (hl : L.length = n) (hn : n ≤ 1000000) (hm : m ≤ 1000000) (hs : Sl w 1 A n (L.map (Value.int .i64))) (ht : Sl w 2 B m (Rk.cells E)) :
    Calls Tryz.prog 27 #[pv A n c B m d] w (ConRes L E w) := by
  have hb0 := bel_al (Below.refl w.heap.size w) (.cells #[.slice A n c, .slice B m d] 30)
  have HB0 := Lib.hid hb0
  have HK := Lib.hid (Blk.new w 30 #[.slice A n c, .slice B m d])
  have HRt := Lib.hid (PatRight_any L E A B n c m d _ hl hn hm (hs.keep hb0) (ht.keep hb0))
  have HT := Lib.hid (ht.keep hb0)
  have HM := Lib.hid ht.len2
  have HL := Lib.hid hl
  clear hb0 hs ht hl
  rcases Nat.eq_zero_or_pos n with h0 | h0
  · subst h0
    go_enter Tryz.func27, Tryz.ntmps27
    go_wp2_with fail
    go_ret
    exact ⟨false, rfl, ⟨fun h => (by cases h), fun h => by have := h.2.1; rw [HL.out] at this; omega⟩, HB0.out⟩
  · have hn0 : ((n : Int) == 0) = false := by simp; omega
    have HN0 := Lib.hid h0
    by_cases hR : rightP L E
    · have HRn := Lib.hid (right_nil hR HRt.out)
      have h8 := hR.1.1
      rw [HL.out] at h8
      have hed := right_edges hR
      rw [HL.out] at hed
      have HEd := Lib.hid hed
      have HR := Lib.hid hR
      have HLt := Lib.hid (fun k => iterM_lt (E := E) h0 (fun e he => by have := hed e he; omega) k)
      have HPl := Lib.hid (fun j k => passM_lt (n := n) (E.take j) (s := iterM E k) (iterM_lt (E := E) h0 (fun e he => by have := hed e he; omega) k) fun e he => by have := hed e (List.mem_of_mem_take he); omega)
      have HMk := Lib.hid (mask_all (E := E) h0 hed)
      have hsh := bq_shl (y := n) h8
      have hpw := bq_pow (y := n) h8
      have hmn : min n 64 = n := by omega
      have HPw := Lib.hid hpw
      have hp1 : 1 ≤ 2 ^ n := Nat.one_le_two_pow
      obtain ⟨q, hq⟩ : ∃ q, q = 2 ^ n := ⟨_, rfl⟩
      rw [← hq] at hsh hpw hp1 HPw
      have HQ := Lib.hid hq
      have hsub : IntKind.i64.wrap ((q : Int) - 1) = (q : Int) - 1 := by rw [IntKind.wrap_i64]; omega
      clear hR hed HRt hq
      go_enter Tryz.func27, Tryz.ntmps27
      obtain ⟨w0, hw0⟩ : ∃ w0, w0 = w.alloc (.cells #[.slice A n c, .slice B m d] 30) := ⟨_, rfl⟩
      have HW0 := Lib.hid hw0
      rw [← hw0] at HRn HB0 HK HT
      clear hw0
      have HCe := Lib.hid (show ∀ V, Below w0.heap.size w0 V → V.cell? ⟨w.heap.size, 0, none⟩ = some (.slice A n c) ∧ V.cell? ⟨w.heap.size, 1, none⟩ = some (.slice B m d) from fun V hV => by
        have k0 := (HK.out.keep hV).cell 0
        have k1 := (HK.out.keep hV).cell 1
        simp at k0 k1
        exact ⟨k0, k1⟩)
      go_wp2_with (rw [← HW0.out]; go_at_call 10; refine HRn.out.mono ?_; clear HRn; rintro e w1 ⟨rfl, hb1⟩; have HB1 := Lib.hid hb1; obtain ⟨k0, k1⟩ := HCe.out w1 hb1; clear hb1)
      go_loopw [3, 18] (fun sv iv wr => ∃ k : Nat, k ≤ n ∧ iv = .int .i64 (k : Int) ∧ sv = .int .i64 (iterM E k : Nat) ∧ Hid (Below w0.heap.size w0 wr)) (fun _ iv _ => n - (intOf iv).toNat)
      case atStart => exact ⟨0, Nat.zero_le _, rfl, rfl, HB1⟩
      case round =>
        clear HB1 k0 k1
        obtain ⟨k, hk, rfl, rfl, HB⟩ := hrel
        obtain ⟨k0, k1⟩ := HCe.out wr HB.out
        by_cases hlt : k < n
        · have hlt' : (k : Int) < (n : Int) := by omega
          have HS0 := Lib.hid (show iterM E (k + 1) = passM (E.take m) (iterM E k) from by rw [List.take_of_length_le (by rw [HM.out]; exact Nat.le_refl _)]; rfl)
          have HPk := Lib.hid (fun j => HPl.out j k)
          obtain ⟨s0, hs0⟩ : ∃ s0, s0 = iterM E k := ⟨_, rfl⟩
          rw [← hs0] at HS0 HPk ⊢
          clear hs0
          go_wp2_with fail
          have HBo := Lib.hid HB.out
          go_loopw [3, 23] (fun sv jv wx => ∃ j : Nat, j ≤ m ∧ jv = .int .i64 (j : Int) ∧ sv = .int .i64 (passM (E.take j) s0 : Nat) ∧ Hid (Below w0.heap.size w0 wx)) (fun _ jv _ => m - (intOf jv).toNat)
          case atStart => exact ⟨0, Nat.zero_le _, rfl, rfl, HBo⟩
          case round =>
            clear HBo HB k0 k1
            obtain ⟨j, hj, rfl, rfl, HB⟩ := hrel
            obtain ⟨k0, k1⟩ := HCe.out wr HB.out
            have hlt8 := HPk.out j
            rw [← HQ.out] at hlt8
            have hlt8 := Nat.lt_of_lt_of_le hlt8 HPw.out
            by_cases hjm : j < m
            · have hjm' : (j : Int) < (m : Int) := by omega
              have hj0 : (0 : Int) ≤ (j : Int) := by omega
              obtain ⟨⟨x, y⟩, he⟩ : ∃ e, E[j]? = some e := ⟨_, List.getElem?_eq_getElem (by rw [HM.out]; exact hjm)⟩
              obtain ⟨b1, off1, rfl, c0, c1⟩ := (HT.out.keep HB.out).edge hjm he
              simp only at c0 c1
              have hxy := HEd.out _ (List.mem_of_getElem? he)
              simp only at hxy
              obtain ⟨x1, x2, y1, y2⟩ := hxy
              obtain ⟨a, rfl⟩ := Int.eq_ofNat_of_zero_le x1
              obtain ⟨b, rfl⟩ := Int.eq_ofNat_of_zero_le y1
              have HSt := Lib.hid (passM_take (s := s0) he)
              have ha8 : a < 8 := by omega
              have hb8 : b < 8 := by omega
              obtain ⟨s, hs⟩ : ∃ s, s = passM (E.take j) s0 := ⟨_, rfl⟩
              rw [← hs] at HSt hlt8 ⊢
              have hma : min a 64 = a := by omega
              have hmb : min b 64 = b := by omega
              have ta := bq_test s a hlt8
              have tb := bq_test s b hlt8
              have HSet := Lib.hid (bq_set2 hlt8 ha8 hb8)
              have HSM := Lib.hid (show stepM s ((a : Int), (b : Int)) = if s.testBit a || s.testBit b then s ||| (1 <<< a ||| 1 <<< b) else s from rfl)
              clear he hs x1 y1 x2 y2 ha8 hb8 hlt8
              cases hta : s.testBit a with
              | true =>
                rw [hta] at ta HSM
                have HFin := Lib.hid (show (passM (E.take (j + 1)) s0 : Nat) = s ||| (1 <<< a ||| 1 <<< b) from by rw [HSt.out, HSM.out]; simp)
                clear hta
                go_wp2_with fail
                go_quiet (fail)
                go_wp2_with fail
                go_roundw
                case rel => exact ⟨j + 1, by omega, by go_num, by rw [HFin.out, ← HSet.out], Lib.hid (bel_drewN (bel_alloc HB.out (Nat.le_refl _) _) _)⟩
                case measure => simp [intOf]; omega
              | false =>
                rw [hta] at ta HSM
                cases htb : s.testBit b with
                | true =>
                  rw [htb] at tb HSM
                  have HFin := Lib.hid (show (passM (E.take (j + 1)) s0 : Nat) = s ||| (1 <<< a ||| 1 <<< b) from by rw [HSt.out, HSM.out]; simp)
                  clear hta htb
                  go_wp2_with fail
                  go_quiet (fail)
                  go_wp2_with fail
                  go_roundw
                  case rel => exact ⟨j + 1, by omega, by go_num, by rw [HFin.out, ← HSet.out], Lib.hid (bel_drewN (bel_alloc HB.out (Nat.le_refl _) _) _)⟩
                  case measure => simp [intOf]; omega
                | false =>
                  rw [htb] at tb HSM
                  have HFin := Lib.hid (show (passM (E.take (j + 1)) s0 : Nat) = s from by rw [HSt.out, HSM.out]; simp)
                  clear hta htb
                  go_wp2_with fail
                  go_roundw
                  case rel => exact ⟨j + 1, by omega, by go_num, by rw [HFin.out], Lib.hid (bel_alloc HB.out (Nat.le_refl _) _)⟩
                  case measure => simp [intOf]; omega
            · obtain rfl : j = m := by omega
              have hjm' : ¬ (j : Int) < (j : Int) := by omega
              rw [← HS0.out]
              go_wp2_with fail
              go_roundw
              case rel => exact ⟨k + 1, by omega, by go_num, rfl, HB⟩
              case measure => simp [intOf]; omega
        · obtain rfl : k = n := by omega
          have hlt' : ¬ (k : Int) < (k : Int) := by omega
          obtain ⟨s, hs⟩ : ∃ s, s = iterM E k := ⟨_, rfl⟩
          have HS := Lib.hid hs
          rw [← hs]
          clear hs
          go_wp2_with fail
          go_ret
          refine ⟨_, rfl, ?_, HB0.out.andThen HB.out⟩
          rw [beq_iff_eq]
          have h1 := HMk.out
          rw [← HS.out, ← HQ.out] at h1
          constructor
          · intro h
            exact ⟨HR.out, by rw [HL.out]; exact HN0.out, by rw [HL.out]; exact h1.1 (by omega)⟩
          · intro h
            have := h1.2 (by have := h.2.2; rwa [HL.out] at this)
            omega
    · have HRn := Lib.hid (right_bad hR HRt.out)
      clear HRt
      go_enter Tryz.func27, Tryz.ntmps27
      go_wp2_with (go_at_call 10; refine HRn.out.mono ?_; clear HRn; rintro e w1 ⟨g, cc, at0, s, rfl, _, hb1, _⟩; have HB1 := Lib.hid (HB0.out.andThen hb1); clear hb1)
      go_ret
      exact ⟨false, rfl, ⟨fun h => (by cases h), fun h => absurd h.1 hR⟩, HB1.out⟩
end Go.Proofs.YtapledphhfiimaaGreatDoor
/-
  fault.In by its contract.
-/
namespace Go.Proofs.YtapledphhfiimaaGreatDoor
open Go.RowKit Go.Extern.Stop Go.Stop Go.Extern
set_option maxRecDepth 100000

def Err.in_ (word : ByteArray) : Err → Err
  | .nil => .nil
  | e => .step word e
theorem Err.in_of {E : Err} (h : E ≠ .nil) (word : ByteArray) : E.in_ word = .step word E := by cases E <;> first | exact absurd rfl h | rfl

theorem In_any (word : ByteArray) (E : Err) (v : Value) (w : World) (hE : E.At w v) :
    Calls Tryz.prog 56 #[.string word, v] w fun e w' => ∃ v', e = .returned v' ∧ (E.in_ word).At w' v' ∧ Below w.heap.size w w' := by
  by_cases hne : E = .nil
  · subst hne
    obtain rfl : v = .nilIface := hE
    go_enter Tryz.func56, Tryz.ntmps56
    go_wp2
    go_ret
    exact ⟨_, rfl, rfl, Below.refl _ _⟩
  · have HE := Lib.hid hE
    have HN := Lib.hid hne
    obtain ⟨T, x, rfl⟩ := Err.At.iface_ hE hne
    clear hE hne
    go_enter Tryz.func56, Tryz.ntmps56
    go_wp2
    go_ret
    have hb := bel_al (Below.refl w.heap.size w) (.cells #[.string word, .iface T x] 131)
    refine ⟨_, rfl, ?_, hb⟩
    rw [Err.in_of HN.out]
    exact ⟨_, _, rfl, Blk.new _ _ _, HE.out.keep hb, HN.out⟩
end Go.Proofs.YtapledphhfiimaaGreatDoor
/-
  Contracts of wire.Reader: Num where it fails, End whatever there is.
-/
namespace Go.Proofs.YtapledphhfiimaaGreatDoor
open Go.RowKit
set_option maxRecDepth 100000
set_option linter.unusedVariables false

theorem in_code {E : Err} {s : ByteArray} : (E.in_ s).code = E.code := by cases E <;> rfl
theorem in_ne {E : Err} {s : ByteArray} (h : E ≠ .nil) : E.in_ s ≠ .nil := by rw [Err.in_of h]; intro e; cases e
end Go.Proofs.YtapledphhfiimaaGreatDoor
/-
  pat.Of: of any bytes.
-/
namespace Go.Proofs.YtapledphhfiimaaGreatDoor
open Go.RowKit
set_option maxRecDepth 100000
set_option linter.unusedVariables false

theorem lst_fits {l : List Int} (hb : Bys l) (a : Nat) : ∀ x ∈ lst l a, fits x := by
  unfold lst
  generalize wordN (l.drop a) = N
  have hb2 := hb.drop (a + 4)
  generalize l.drop (a + 4) = r at hb2 ⊢
  induction N with
  | zero => intro x hx; simp [wordsL] at hx
  | succ N ih =>
    intro x hx
    rw [wordsL] at hx
    rcases List.mem_append.1 hx with h | h
    · exact ih x h
    · rw [List.mem_singleton.1 h]
      have := wordN_lt (hb2.drop (4 * N))
      unfold fits
      omega
theorem pairs_take {xs : List Int} {j : Nat} {x y : Int} (hx : xs[2 * j]? = some x) (hy : xs[2 * j + 1]? = some y) : (pairsL xs)[j]? = some (x, y) := by
  induction j generalizing xs with
  | zero =>
    match xs, hx, hy with
    | a :: b :: r, hx, hy =>
      cases hx
      cases hy
      rfl
  | succ j ih =>
    match xs, hx, hy with
    | a :: b :: r, hx, hy =>
      rw [pairsL, List.getElem?_cons_succ]
      refine ih ?_ ?_
      · rw [show 2 * (j + 1) = 2 * j + 1 + 1 by omega] at hx
        simpa using hx
      · rw [show 2 * (j + 1) + 1 = 2 * j + 1 + 1 + 1 by omega] at hy
        simpa using hy
theorem Sl.newE (w : World) (x y : Value) (e : TypeId) : Sl (w.alloc (.cells #[x, y] e)) 2 (some ⟨w.heap.size, 0, none⟩) 1 [x, y] :=
  ⟨rfl, fun _ => ⟨_, _, rfl, fun j u hu => by rw [Nat.zero_add, World.cell?_alloc_new]; simpa using hu⟩⟩
section
variable {w w' : World} {R : Nat} {cs : Array Value}
theorem Blk.off {g : Nat} {t : TypeId} {cs' : Array Value} (hR : Blk w R 30 cs) (hw : ∀ g, g ≠ R → w'.heap[g]? = w.heap[g]?) (h : Blk w g t cs') (hne : t ≠ 30) : Blk w' g t cs' :=
  (hw g fun e => by
    subst e
    unfold Blk at h hR
    rw [h] at hR
    injection hR with hR
    injection hR with _ h3
    exact hne h3).trans h
/-- An error stays while a pattern's block is written. -/
theorem Err.At.off (hR : Blk w R 30 cs) (hw : ∀ g, g ≠ R → w'.heap[g]? = w.heap[g]?) : ∀ {E : Err} {v : Value}, E.At w v → E.At w' v
  | .nil, _, h => h
  | .flt _ _ _, _, ⟨g, h1, h2⟩ => ⟨g, h1, Blk.off hR hw h2 (by decide)⟩
  | .step _ _, _, ⟨g, v', h1, h2, h3, h4⟩ => ⟨g, v', h1, Blk.off hR hw h2 (by decide), Err.At.off hR hw h3, h4⟩
  | .txt _, _, ⟨g, h1, h2⟩ => ⟨g, h1, Blk.off hR hw h2 (by decide)⟩
end
/-- What Of answers. -/
def OfRes (l : List Int) (w : World) (e : Ending) (w' : World) : Prop :=
  Below w.heap.size w w' ∧ ((∃ (A : Option Addr) (n c : Nat) (B : Option Addr) (m d : Nat) (L : List Int) (E : List (Int × Int)), e = .returned (.tuple #[pv A n c B m d, .nilIface]) ∧ rightP L E ∧ L.length = n ∧ Sl w' 1 A n (L.map (Value.int .i64)) ∧ Sl w' 2 B m (Rk.cells E) ∧ bytesP L E = l ∧ n ≤ c ∧ c ≤ 9223372036854775807) ∨
    (∃ (Er : Err) (T : TypeId) (x : Value), e = .returned (.tuple #[pv none 0 0 none 0 0, .iface T x]) ∧ Er.At w' (.iface T x) ∧ 0 < Er.code ∧ ∀ L E, rightP L E → bytesP L E ≠ l))

end Go.Proofs.YtapledphhfiimaaGreatDoor
