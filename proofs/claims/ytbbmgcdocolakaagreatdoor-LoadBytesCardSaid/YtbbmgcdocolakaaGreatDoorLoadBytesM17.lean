/-
  Part 17 of the proof of LoadBytes: LdHP, LdP, LdA, LdB, Chain3, Chain4.
-/
import Derived.Test.YtbbmgcdocolakaaGreatDoorLoadBytesM8
import Derived.Test.YtbbmgcdocolakaaGreatDoorLoadBytesM16
import Derived.Test.YtbbmgcdocolakaaGreatDoorLoadBytesM6
import Derived.Test.YtbbmgcdocolakaaGreatDoorLoadBytesM13
import Derived.Test.YtbbmgcdocolakaaGreatDoorLoadBytesM14
import Derived.Test.YtbbmgcdocolakaaGreatDoorLoadBytesM4
import Derived.BigQuiet
import Derived.Deep.QuietTactic
import Derived.Test.YtbbmgcdocolakaaGreatDoorLoadBytesM7
set_option linter.unusedVariables false
/-
  A graph's parcel plainly: which bytes are one, and of what.
-/
namespace Go.Proofs.YtbbmgcdocolakaaGreatDoor
open Go.RowKit
set_option maxRecDepth 100000
set_option linter.unusedVariables false

/-- The bytes are those of labels and edges. -/
def BytOK (l L : List Int) (E : List (Int × Int)) : Prop := packG L E = l ∧ L.length ≤ 4096 ∧ E.length ≤ 16384 ∧ (∀ x ∈ L, fits x) ∧ (∀ e ∈ E, fits e.1 ∧ fits e.2)
theorem bytesP_bys5 {L : List Int} {E : List (Int × Int)} : Bys (bytesP L E) := by
  intro x hx
  unfold bytesP encW at hx
  simp only [List.mem_append, List.mem_flatMap] at hx
  rcases hx with (hx | ⟨y, _, hx⟩) | (hx | ⟨y, _, hx⟩) <;> exact wordL_bys _ x hx
theorem bytesP_len5 (L : List Int) (E : List (Int × Int)) : (bytesP L E).length = 8 + 4 * L.length + 8 * E.length := by
  unfold bytesP
  rw [List.length_append, encW_len, encW_len, endsL_len]
  omega
theorem packG_len (L : List Int) (E : List (Int × Int)) : (packG L E).length = 21 + 4 * L.length + 8 * E.length := by
  unfold packG
  rw [packL_len, bytesP_len5]
  omega
theorem packG_bys (L : List Int) (E : List (Int × Int)) : Bys (packG L E) := packL_bys (by omega) bytesP_bys5
theorem packG_mark (L : List Int) (E : List (Int × Int)) : (packG L E).take 4 = fwrk := (packL_parts _ _).1
theorem pack_of5 {l : List Int} (hb : Bys l) (h : unW l = 0) : packL (unK l) (unB l) = l ∧ 0 ≤ unK l ∧ unK l ≤ 255 ∧ Bys (unB l) := by
  obtain ⟨kd, b, e, h1, h2, h3, h4, h5, h6⟩ := unW_ok hb h
  have hK : unK l = kd := by rw [unK, if_pos h, List.getD_eq_getElem?_getD, h2]; rfl
  have hB : unB l = b := by rw [unB, if_pos h, ← h1, h3]
  rw [hK, hB]
  exact ⟨e.symm, h4, h5, h6⟩
theorem unB_le5 (l : List Int) : (unB l).length ≤ l.length := by
  unfold unB
  split
  · rw [List.length_take, List.length_drop]; omega
  · exact Nat.zero_le _
/-- What is told of the bytes of labels and edges, read back. -/
theorem byt_parts {l L : List Int} {E : List (Int × Int)} (h : BytOK l L E) :
    unW l = 0 ∧ unK l = 1 ∧ okAt (unB l) 0 4096 ∧ lst (unB l) 0 = L ∧ okAt (unB l) (nxtA (unB l) 0) 32768 ∧ lst (unB l) (nxtA (unB l) 0) = endsL E ∧ nxtA (unB l) (nxtA (unB l) 0) = (unB l).length := by
  obtain ⟨h1, h2, h3, h4, h5⟩ := h
  have hlt : (bytesP L E).length < 4294967296 := by rw [bytesP_len5]; omega
  have hB : unB l = bytesP L E := by rw [← h1, packG, unB_pack _ _ hlt]
  obtain ⟨a1, a2, a3, a4, a5⟩ := bytesP_back (l := bytesP L E) rfl h4 h5 (by omega) (by omega)
  have l1 := congrArg List.length a2
  have l2 := congrArg List.length a4
  unfold lst at l1 l2
  rw [wordsL_len] at l1 l2
  rw [endsL_len] at l2
  rw [hB]
  exact ⟨by rw [← h1, packG, unW_pack _ _ hlt], by rw [← h1, packG, unK_pack _ _ hlt], ⟨a1.1, by omega, a1.2.2⟩, a2, ⟨a3.1, by omega, a3.2.2⟩, a4, a5⟩
theorem byt_uniq {l L L' : List Int} {E E' : List (Int × Int)} (h : BytOK l L E) (h' : BytOK l L' E') : L = L' ∧ E = E' := by
  obtain ⟨_, _, _, a, _, b, _⟩ := byt_parts h
  obtain ⟨_, _, _, a', _, b', _⟩ := byt_parts h'
  refine ⟨a.symm.trans a', ?_⟩
  have h4 := b.symm.trans b'
  rw [← pairs_ends E, h4, pairs_ends]
/-- Bytes that are read right are those of what is read. -/
theorem byt_of {l : List Int} (hb : Bys l) (hw : unW l = 0) (hk : unK l = 1) (h1 : okAt (unB l) 0 4096) (h2 : okAt (unB l) (nxtA (unB l) 0) 32768) (he : nxtA (unB l) (nxtA (unB l) 0) = (unB l).length) (hev : (lst (unB l) (nxtA (unB l) 0)).length % 2 = 0) :
    BytOK l (lst (unB l) 0) (pairsL (lst (unB l) (nxtA (unB l) 0))) := by
  obtain ⟨p1, _, _, p4⟩ := pack_of5 hb hw
  have h1' : okAt (unB l) 0 32768 := ⟨h1.1, by have := h1.2.1; omega, h1.2.2⟩
  have hr := bytesP_read p4 h1' h2 he hev
  have l1 : (lst (unB l) 0).length ≤ 4096 := by unfold lst; rw [wordsL_len]; exact h1.2.1
  have l2 : (lst (unB l) (nxtA (unB l) 0)).length ≤ 32768 := by unfold lst; rw [wordsL_len]; exact h2.2.1
  refine ⟨by rw [packG, hr, ← hk, p1], l1, by rw [pairs_len]; omega, lst_fits p4 0, fun e he => ?_⟩
  have hm := lst_fits p4 (nxtA (unB l) 0)
  have : e.1 ∈ endsL (pairsL (lst (unB l) (nxtA (unB l) 0))) ∧ e.2 ∈ endsL (pairsL (lst (unB l) (nxtA (unB l) 0))) := ⟨List.mem_flatMap.2 ⟨e, he, by simp⟩, List.mem_flatMap.2 ⟨e, he, by simp⟩⟩
  rw [ends_pairs _ hev] at this
  exact ⟨hm _ this.1, hm _ this.2⟩
end Go.Proofs.YtbbmgcdocolakaaGreatDoor
/-
  Texts of graphs, plainly: line by line, there and back.
-/
namespace Go.Proofs.YtbbmgcdocolakaaGreatDoor.Ld
open Go Go.Proofs.YtbbmgcdocolakaaGreatDoor.Tx Go.Proofs.YtbbmgcdocolakaaGreatDoor.Cf
set_option linter.unusedVariables false

def valL (l : List UInt8) : Nat := l.foldl (fun a d => a * 10 + (d.toNat - 48)) 0
theorem valL_snoc (l : List UInt8) (d : UInt8) : valL (l ++ [d]) = valL l * 10 + (d.toNat - 48) := by simp [valL]
theorem valL_dec (u : Nat) : valL (Lib.decDigits u) = u := by
  induction u using Nat.strongRecOn with
  | ind u ih =>
    by_cases h : u < 10
    · rw [Lib.decDigits, dif_pos h]
      show 0 * 10 + ((UInt8.ofNat (48 + u)).toNat - 48) = u
      rw [digit_nat h]
      omega
    · rw [Lib.decDigits, dif_neg h, valL_snoc, ih (u / 10) (by omega), digit_nat (Nat.mod_lt _ (by omega))]
      omega
theorem valL_take (l : List UInt8) (k : Nat) (b : UInt8) (h : l[k]? = some b) : valL (l.take (k + 1)) = 10 * valL (l.take k) + (b.toNat - 48) := by
  obtain ⟨hk, hb⟩ := List.getElem?_eq_some_iff.1 h
  rw [List.take_succ_eq_append_getElem hk, hb, valL_snoc]
  omega
theorem valL_lt : ∀ (k : Nat) (l : List UInt8), l.length = k → (∀ b ∈ l, b.toNat ≤ 57) → valL l < 10 ^ k
  | 0, l, hk, _ => by
    obtain rfl := List.eq_nil_of_length_eq_zero hk
    decide
  | k + 1, l, hk, hb => by
    rcases List.eq_nil_or_concat l with rfl | ⟨m, b, rfl⟩
    · cases hk
    · rw [List.concat_eq_append] at hb hk ⊢
      have h1 := valL_lt k m (by simpa using hk) fun x hx => hb x (List.mem_append_left _ hx)
      have h2 := hb b (by simp)
      rw [valL_snoc, Nat.pow_succ]
      omega
/-- Only digits. -/
def digB (b : UInt8) : Bool := decide (48 ≤ b.toNat) && decide (b.toNat ≤ 57)
/-- A number of digits. -/
def numL (s : List UInt8) : Option Nat :=
  if s = [] ∨ 6 < s.length ∨ (1 < s.length ∧ s.head? = some 48) then none else if s.all digB then some (valL s) else none
theorem dec_head (u : Nat) : 0 < u → (Lib.decDigits u).head? ≠ some 48 := by
  induction u using Nat.strongRecOn with
  | ind u ih =>
    intro h0
    by_cases h : u < 10
    · rw [Lib.decDigits, dif_pos h]
      intro he
      have h1 : UInt8.ofNat (48 + u) = 48 := Option.some.inj he
      have h2 := digit_nat h
      rw [h1] at h2
      have : (48 : UInt8).toNat = 48 := rfl
      omega
    · rw [Lib.decDigits, dif_neg h]
      have h1 := ih (u / 10) (by omega) (by omega)
      have h2 := dec_ne (u / 10)
      cases hd : Lib.decDigits (u / 10) with
      | nil => exact absurd hd h2
      | cons c r => rw [hd] at h1; exact h1
theorem numL_dec {u : Nat} (h : u < 1000000) : numL (Lib.decDigits u) = some u := by
  have hl := (dec_len_lt 6 u (by omega)).2 (by omega)
  unfold numL
  rw [if_neg, if_pos, valL_dec]
  · rw [List.all_eq_true]
    intro b hb
    have := dec_digit u b hb
    unfold digB
    simp [this.1, this.2]
  · rintro (h1 | h1 | ⟨h1, h2⟩)
    · exact dec_ne u h1
    · omega
    · rcases Nat.eq_zero_or_pos u with rfl | h0
      · rw [Lib.decDigits, dif_pos (by omega)] at h1
        simp at h1
      · exact dec_head u h0 h2
theorem numL_lt {s : List UInt8} {v : Nat} (h : numL s = some v) : v < 1000000 := by
  unfold numL at h
  split at h
  · cases h
  · rename_i h1
    split at h
    · rename_i h2
      obtain rfl := Option.some.inj h
      have h3 := valL_lt _ s rfl fun b hb => by have := List.all_eq_true.1 h2 b hb; unfold digB at this; simp at this; exact this.2
      have h4 : 10 ^ s.length ≤ 10 ^ 6 := Nat.pow_le_pow_right (by omega) (by omega)
      omega
    · cases h
/-- One line, behind some labels and edges. -/
def lineL (L : List Int) (E : List (Int × Int)) (s : List UInt8) : Option (List Int × List (Int × Int)) :=
  match split1 32 s with
  | [k, x, y] => match numL x, numL y with
    | some a, some b => if k = [118] then (if a = L.length ∧ E = [] then some (L ++ [(b : Int)], E) else none) else if k = [101] then some (L, E ++ [((a : Int), (b : Int))]) else none
    | _, _ => none
  | _ => none
inductive TR
  | bad (n : Nat)
  | ok (L : List Int) (E : List (Int × Int))
/-- Line by line. -/
def goL : List (List UInt8) → List Int → List (Int × Int) → Nat → TR
  | [], L, E, n => .ok L E
  | [x], L, E, n => if x = [] then .ok L E else .bad n
  | x :: y :: r, L, E, n => match lineL L E x with
    | none => .bad n
    | some s => goL (y :: r) s.1 s.2 (n + 1)
def textL (s : List UInt8) : TR := goL (split1 10 s) [] [] 0
theorem goL_some {x : List UInt8} {r : List (List UInt8)} {L : List Int} {E : List (Int × Int)} {n : Nat} {s : List Int × List (Int × Int)} (hr : r ≠ []) (h : lineL L E x = some s) : goL (x :: r) L E n = goL r s.1 s.2 (n + 1) := by
  cases r with
  | nil => exact absurd rfl hr
  | cons y r => rw [goL, h]
theorem goL_none {x : List UInt8} {r : List (List UInt8)} {L : List Int} {E : List (Int × Int)} {n : Nat} (hr : r ≠ []) (h : lineL L E x = none) : goL (x :: r) L E n = .bad n := by
  cases r with
  | nil => exact absurd rfl hr
  | cons y r => rw [goL, h]
/-- A line of three words. -/
def row3 (k : UInt8) (a b : Nat) : List UInt8 := k :: 32 :: (Lib.decDigits a ++ 32 :: Lib.decDigits b)
theorem dec_no {c : UInt8} (hc : c.toNat < 48) (u : Nat) : c ∉ Lib.decDigits u := fun h => by have := dec_digit u c h; omega
theorem row3_split {k : UInt8} (hk : k ≠ 32) (a b : Nat) : split1 32 (row3 k a b) = [[k], Lib.decDigits a, Lib.decDigits b] := by
  have h1 : row3 k a b = [k] ++ 32 :: (Lib.decDigits a ++ 32 :: Lib.decDigits b) := rfl
  rw [h1, split1_app _ (by simp; exact fun h => hk h.symm), split1_app _ (dec_no (by decide) a), split1_none (dec_no (by decide) b)]
theorem row3_no {k : UInt8} (hk : k ≠ 10) (a b : Nat) : (10 : UInt8) ∉ row3 k a b := by
  unfold row3
  simp only [List.mem_cons, List.mem_append, not_or]
  exact ⟨fun h => hk h.symm, by decide, dec_no (by decide) a, by decide, dec_no (by decide) b⟩
theorem line_v {L : List Int} {b : Nat} (hl : L.length < 1000000) (hb : b < 1000000) : lineL L [] (row3 118 L.length b) = some (L ++ [(b : Int)], []) := by
  unfold lineL
  rw [row3_split (by decide)]
  simp only [numL_dec hl, numL_dec hb]
  simp
theorem line_e (L : List Int) (E : List (Int × Int)) {a b : Nat} (ha : a < 1000000) (hb : b < 1000000) : lineL L E (row3 101 a b) = some (L, E ++ [((a : Int), (b : Int))]) := by
  unfold lineL
  rw [row3_split (by decide)]
  simp only [numL_dec ha, numL_dec hb]
  simp
/-- The lines of labels, from a number on; of edges. -/
def vRows : Nat → List Int → List (List UInt8)
  | _, [] => []
  | i, x :: r => row3 118 i x.toNat :: vRows (i + 1) r
def eRows (E : List (Int × Int)) : List (List UInt8) := E.map fun e => row3 101 e.1.toNat e.2.toNat
theorem vRows_snoc : ∀ (L : List Int) (i : Nat) (x : Int), vRows i (L ++ [x]) = vRows i L ++ [row3 118 (i + L.length) x.toNat]
  | [], i, x => rfl
  | y :: L, i, x => by
    show row3 118 i y.toNat :: vRows (i + 1) (L ++ [x]) = _
    rw [vRows_snoc L (i + 1) x, List.length_cons, show i + 1 + L.length = i + (L.length + 1) by omega]
    rfl
theorem vRows_no : ∀ (L : List Int) (i : Nat), ∀ l ∈ vRows i L, (10 : UInt8) ∉ l
  | [], i, l, h => absurd h List.not_mem_nil
  | y :: L, i, l, h => by
    rcases List.mem_cons.1 h with rfl | h
    · exact row3_no (by decide) _ _
    · exact vRows_no L (i + 1) l h
theorem eRows_no (E : List (Int × Int)) : ∀ l ∈ eRows E, (10 : UInt8) ∉ l := by
  intro l h
  obtain ⟨e, _, rfl⟩ := List.mem_map.1 h
  exact row3_no (by decide) _ _
theorem vRows_len : ∀ (L : List Int) (i : Nat), (vRows i L).length = L.length
  | [], _ => rfl
  | y :: L, i => by simp [vRows, vRows_len L]
def lab6 (x : Int) : Prop := 0 ≤ x ∧ x < 1000000
theorem goL_v : ∀ (M L : List Int) (n : Nat) (r : List (List UInt8)), r ≠ [] → (∀ x ∈ M, lab6 x) → L.length + M.length < 1000000 → goL (vRows L.length M ++ r) L [] n = goL r (L ++ M) [] (n + M.length)
  | [], L, n, r, _, _, _ => by simp [vRows]
  | x :: M, L, n, r, hr, hx, hl => by
    have h1 := hx x (List.mem_cons_self ..)
    obtain ⟨b, rfl⟩ := Int.eq_ofNat_of_zero_le h1.1
    have h2 := h1.2
    rw [List.length_cons] at hl
    show goL (row3 118 L.length _ :: (vRows (L.length + 1) M ++ r)) L [] n = _
    rw [Int.toNat_natCast, goL_some (by simp [hr]) (line_v (by omega) (by omega))]
    have ih := goL_v M (L ++ [(b : Int)]) (n + 1) r hr (fun x hx' => hx x (List.mem_cons_of_mem _ hx')) (by rw [List.length_append, List.length_singleton]; omega)
    rw [List.length_append, List.length_singleton] at ih
    simp only
    rw [ih, List.append_assoc, List.length_cons]
    congr 1
    omega
theorem goL_e : ∀ (G : List (Int × Int)) (L : List Int) (E : List (Int × Int)) (n : Nat) (r : List (List UInt8)), r ≠ [] → (∀ e ∈ G, lab6 e.1 ∧ lab6 e.2) → goL (eRows G ++ r) L E n = goL r L (E ++ G) (n + G.length)
  | [], L, E, n, r, _, _ => by simp [eRows]
  | (x, y) :: G, L, E, n, r, hr, hx => by
    have h1 := hx (x, y) (List.mem_cons_self ..)
    obtain ⟨a, rfl⟩ := Int.eq_ofNat_of_zero_le h1.1.1
    obtain ⟨b, rfl⟩ := Int.eq_ofNat_of_zero_le h1.2.1
    have h2 := h1.1.2
    have h3 := h1.2.2
    simp only at h2 h3
    show goL (row3 101 _ _ :: (eRows G ++ r)) L E n = _
    simp only [Int.toNat_natCast]
    rw [goL_some (by simp [hr]) (line_e L E (by omega) (by omega))]
    have ih := goL_e G L (E ++ [((a : Int), (b : Int))]) (n + 1) r hr fun e he => hx e (List.mem_cons_of_mem _ he)
    simp only
    rw [ih, List.append_assoc, List.length_cons]
    congr 1
    omega
/-- What is printed, read. -/
def printL (L : List Int) (F : List (Int × Int)) : List UInt8 := tellL (vRows 0 L) ++ tellL (eRows F)
theorem tell_app (a b : List (List UInt8)) : tellL (a ++ b) = tellL a ++ tellL b := by unfold tellL; rw [List.flatMap_append]
theorem split_print (L : List Int) (F : List (Int × Int)) (t : List UInt8) : split1 10 (printL L F ++ t) = vRows 0 L ++ (eRows F ++ split1 10 t) := by
  unfold printL
  rw [← tell_app, split_tell _ _ (fun l hl => by
    rcases List.mem_append.1 hl with h | h
    · exact vRows_no _ _ l h
    · exact eRows_no _ l h), List.append_assoc]
theorem text_more {L : List Int} {F : List (Int × Int)} (t : List UInt8) (hL : ∀ x ∈ L, lab6 x) (hF : ∀ e ∈ F, lab6 e.1 ∧ lab6 e.2) (hl : L.length < 1000000) : textL (printL L F ++ t) = goL (split1 10 t) L F (L.length + F.length) := by
  unfold textL
  rw [split_print]
  have h1 := goL_v L [] 0 (eRows F ++ split1 10 t) (by simp [split1_ne]) hL (by simpa using hl)
  simp only [List.length_nil, List.nil_append, Nat.zero_add] at h1
  rw [h1, goL_e F L [] _ _ (split1_ne _ _) hF, List.nil_append]
theorem text_print {L : List Int} {F : List (Int × Int)} (hL : ∀ x ∈ L, lab6 x) (hF : ∀ e ∈ F, lab6 e.1 ∧ lab6 e.2) (hl : L.length < 1000000) : textL (printL L F) = .ok L F := by
  have h := text_more [] hL hF hl
  rw [List.append_nil] at h
  rw [h]
  rfl
/-- All that is read is a number of a few digits. -/
theorem lineL_lab {L L' : List Int} {E E' : List (Int × Int)} {s : List UInt8} (h : lineL L E s = some (L', E')) (hL : ∀ x ∈ L, lab6 x) (hE : ∀ e ∈ E, lab6 e.1 ∧ lab6 e.2) : (∀ x ∈ L', lab6 x) ∧ (∀ e ∈ E', lab6 e.1 ∧ lab6 e.2) ∧ L'.length + E'.length = L.length + E.length + 1 := by
  unfold lineL at h
  split at h
  · rename_i k x y hs
    split at h
    · rename_i a b ha hb
      have h1 := numL_lt ha
      have h2 := numL_lt hb
      split at h
      · split at h
        · rename_i h3
          obtain ⟨rfl, rfl⟩ := Prod.mk.inj (Option.some.inj h)
          refine ⟨fun z hz => ?_, hE, by simp; omega⟩
          rcases List.mem_append.1 hz with hz | hz
          · exact hL z hz
          · obtain rfl := List.mem_singleton.1 hz
            exact ⟨by omega, by omega⟩
        · cases h
      · split at h
        · obtain ⟨rfl, rfl⟩ := Prod.mk.inj (Option.some.inj h)
          refine ⟨hL, fun z hz => ?_, by simp; omega⟩
          rcases List.mem_append.1 hz with hz | hz
          · exact hE z hz
          · obtain rfl := List.mem_singleton.1 hz
            exact ⟨⟨by simp, by simp only; omega⟩, ⟨by simp, by simp only; omega⟩⟩
        · cases h
    · cases h
  · cases h
end Go.Proofs.YtbbmgcdocolakaaGreatDoor.Ld
/-
  load.number: a number of digits.
-/
namespace Go.Proofs.YtbbmgcdocolakaaGreatDoor
open Go.RowKit Go.Proofs.YtbbmgcdocolakaaGreatDoor.Pg
attribute [local go_sem ↓] Go.wp_at_zero Go.wp_at_succ
set_option maxRecDepth 100000
set_option linter.unusedVariables false

theorem strI {S : ByteArray} {l : List UInt8} (hS : S = bz l) {k : Nat} {b : UInt8} (hb : l[k]? = some b) : ∀ W, (Instr.index 9 (.string S) (.int .i64 (k : Int))).run Tryz.prog W = .ok (.int .u8 (b.toNat : Int)) W := fun W => by
  obtain ⟨h1, h2⟩ := List.getElem?_eq_some_iff.1 hb
  have hz : S.size = l.length := by rw [hS, bz_size]
  rw [run_index_string W 9 S .i64 (k : Int) Tryz.underlying9, dif_pos ⟨by omega, by omega⟩]
  subst hS
  congr 1
  congr 1
  congr 1
  congr 1
theorem str_to {S : ByteArray} {l : List UInt8} (hS : S = bz l) {k : Nat} (hk : k ≤ l.length) : ∀ W, (Instr.slice 9 (.string S) none (some (.int .i64 (k : Int))) none).run Tryz.prog W = .ok (.string (bz (l.take k))) W := fun W => by
  have hz : S.size = l.length := by rw [hS, bz_size]
  rw [run_slice_string_to_if W 9 S .i64 (k : Int) Tryz.underlying9, if_pos ⟨by omega, by omega⟩]
  congr 2
  apply ByteArray.ext
  subst hS
  rw [ByteArray.data_extract]
  simp
set_option maxHeartbeats 2000000 in
theorem number_any (l : List UInt8) (S : ByteArray) (w : World) (hS : S = bz l) (hz9 : l.length ≤ 1000000) :
    Calls Tryz.prog 65 #[.string S] w fun e w' => e = .returned (.tuple #[.int .i64 ((Ld.numL l).getD 0 : Nat), .bool (Ld.numL l).isSome]) ∧ w = w' := by
  have HS := Lib.hid hS
  obtain ⟨n, hn⟩ : ∃ n, n = l.length := ⟨_, rfl⟩
  have hsz : S.size = n := by rw [hS, bz_size, hn]
  have HN := Lib.hid hn
  have he : (S.toList == []) = decide (l = []) := by rw [hS]; exact bz_beqL l []
  rw [← hn] at hz9
  clear hS hn
  by_cases h0 : l = []
  · have HR := Lib.hid (show Ld.numL l = none from by unfold Ld.numL; rw [if_pos (.inl h0)])
    rw [decide_eq_true h0] at he
    rw [HR.out]
    clear h0
    go_enter Tryz.func65, Tryz.ntmps65
    go_wp2_with fail
    go_ret2
    exact ⟨rfl, rfl⟩
  rw [decide_eq_false h0] at he
  by_cases h6 : 6 < n
  · have HR := Lib.hid (show Ld.numL l = none from by unfold Ld.numL; rw [if_pos (.inr (.inl (by rw [← HN.out]; exact h6)))])
    have h6' : (6 : Int) < (n : Int) := by omega
    rw [HR.out]
    clear h0
    go_enter Tryz.func65, Tryz.ntmps65
    go_wp2_with fail
    go_ret2
    exact ⟨rfl, rfl⟩
  have h6' : ¬ (6 : Int) < (n : Int) := by omega
  obtain ⟨b0, hb0⟩ : ∃ b, l[0]? = some b := by
    cases l with
    | nil => exact absurd rfl h0
    | cons b r => exact ⟨b, rfl⟩
  have HB0 := Lib.hid hb0
  have hix0 := strI HS.out hb0
  rw [show (((0 : Nat) : Int)) = 0 from rfl] at hix0
  obtain ⟨z0, hz0⟩ : ∃ z : Int, z = ((b0.toNat : Nat) : Int) := ⟨_, rfl⟩
  rw [← hz0] at hix0
  have HZ0 := Lib.hid hz0
  have HE0 := Lib.hid h0
  clear hb0 hz0 h0
  by_cases h1 : 1 < n ∧ z0 = 48
  · obtain ⟨h1, rfl⟩ := h1
    have HR := Lib.hid (show Ld.numL l = none from by
      unfold Ld.numL
      have h2 : b0 = 48 := UInt8.toNat_inj.1 (by have := HZ0.out; show b0.toNat = 48; omega)
      have h3 : l.head? = some 48 := by rw [List.head?_eq_getElem?, HB0.out, h2]
      rw [if_pos (.inr (.inr ⟨by rw [← HN.out]; exact h1, h3⟩))])
    have h1' : (1 : Int) < (n : Int) := by omega
    rw [HR.out]
    go_enter Tryz.func65, Tryz.ntmps65
    go_wp2_with fail
    go_ret2
    exact ⟨rfl, rfl⟩
  have HNu := Lib.hid (show Ld.numL l = if l.all Ld.digB then some (Ld.valL l) else none from by
    unfold Ld.numL
    rw [if_neg]
    rintro (h2 | h2 | ⟨h2, h3⟩)
    · exact HE0.out h2
    · have := HN.out; omega
    · refine h1 ⟨by have := HN.out; omega, ?_⟩
      rw [List.head?_eq_getElem?, HB0.out] at h3
      have h4 := Option.some.inj h3
      rw [HZ0.out, h4]
      try rfl)
  have hn0 : 0 < n := by have := (List.getElem?_eq_some_iff.1 HB0.out).1; have := HN.out; omega
  have hcs : (¬ (1 : Int) < (n : Int)) ∨ ((1 : Int) < (n : Int) ∧ (z0 == 48) = false) := by
    by_cases h2 : 1 < n
    · exact .inr ⟨by omega, by simpa using fun h => h1 ⟨h2, h⟩⟩
    · exact .inl (by omega)
  clear h1
  go_enter Tryz.func65, Tryz.ntmps65
  rcases hcs with hc1 | ⟨hc1, hc2⟩
  all_goals (
    go_wp2_with fail
    go_loop [4, 25] (fun vv kv => ∃ k v : Nat, k ≤ n ∧ kv = .int .i64 (k : Int) ∧ vv = .int .i64 (v : Int) ∧ Hid (v = Ld.valL (l.take k)) ∧ Hid (∀ j b, j < k → l[j]? = some b → Ld.digB b = true)) (fun _ kv => n - (intOf kv).toNat)
    case atStart => exact ⟨0, 0, Nat.zero_le _, rfl, rfl, Lib.hid rfl, Lib.hid (fun j b h => absurd h (Nat.not_lt_zero _))⟩
    case round =>
      obtain ⟨k, v, hk, rfl, rfl, HV, HD⟩ := hrel
      by_cases hlt : k < n
      · have hlt' : (k : Int) < (n : Int) := by omega
        have hk0 : (0 : Int) ≤ (k : Int) := by omega
        obtain ⟨b, hb⟩ : ∃ b, l[k]? = some b := ⟨_, List.getElem?_eq_getElem (by rw [← HN.out]; exact hlt)⟩
        have hix := strI HS.out hb
        have hv9 : v ≤ 1000000 := by
          have h2 := Ld.valL_lt k (l.take k) (by rw [List.length_take, ← HN.out]; omega) fun x hx => by
            obtain ⟨j, hj⟩ := List.mem_iff_getElem?.1 hx
            rw [List.getElem?_take] at hj
            split at hj
            · rename_i hjk
              have h3 := HD.out j x hjk hj
              unfold Ld.digB at h3
              simp at h3
              exact h3.2
            · cases hj
          have h4 : 10 ^ k ≤ 10 ^ 6 := Nat.pow_le_pow_right (by omega) (by omega)
          rw [← HV.out] at h2
          omega
        have HNx := Lib.hid (Ld.valL_take l k b hb)
        obtain ⟨z, hzz⟩ : ∃ z : Nat, z = b.toNat := ⟨_, rfl⟩
        have hz255 : z < 256 := by rw [hzz]; exact b.toNat_lt
        rw [← hzz] at hix HNx
        by_cases hdg : 48 ≤ z ∧ z ≤ 57
        · have HD2 := Lib.hid (show ∀ j b, j < k + 1 → l[j]? = some b → Ld.digB b = true from fun j x hj hx => by
            rcases (show j < k ∨ j = k by omega) with h | rfl
            · exact HD.out j x h hx
            · rw [hb] at hx
              obtain rfl := Option.some.inj hx
              unfold Ld.digB
              rw [← hzz]
              simp [hdg.1, hdg.2])
          obtain ⟨hd1, hd2⟩ := hdg
          have hd1' : ¬ (z : Int) < 48 := by omega
          have hd2' : ¬ (57 : Int) < (z : Int) := by omega
          clear hb hzz
          go_wp2_with fail
          go_round
          case rel => exact ⟨k + 1, 10 * v + (z - 48), by omega, by go_num, by go_num, Lib.hid (by rw [HNx.out, ← HV.out]), HD2⟩
          case measure => simp [intOf]; omega
        · have HR := Lib.hid (show Ld.numL l = none from by
            rw [HNu.out, if_neg]
            intro ha
            have h2 := List.all_eq_true.1 ha b (List.mem_of_getElem? hb)
            unfold Ld.digB at h2
            rw [← hzz] at h2
            simp at h2
            exact hdg h2)
          clear hb hzz
          rcases (show z < 48 ∨ (¬ z < 48 ∧ 57 < z) by omega) with h2 | ⟨h2, h3⟩
          · have h2' : (z : Int) < 48 := by omega
            clear hdg
            go_wp2_with fail
            go_ret2
            exact ⟨by rw [HR.out]; rfl, rfl⟩
          · have h2' : ¬ (z : Int) < 48 := by omega
            have h3' : (57 : Int) < (z : Int) := by omega
            clear hdg
            go_wp2_with fail
            go_ret2
            exact ⟨by rw [HR.out]; rfl, rfl⟩
      · obtain rfl : k = n := by omega
        have hlt' : ¬ (k : Int) < (k : Int) := by omega
        have HR := Lib.hid (show Ld.numL l = some v from by
          rw [HNu.out, if_pos, HV.out, List.take_of_length_le (Nat.le_of_eq HN.out.symm)]
          rw [List.all_eq_true]
          intro x hx
          obtain ⟨j, hj⟩ := List.mem_iff_getElem?.1 hx
          exact HD.out j x (by rw [HN.out]; exact (List.getElem?_eq_some_iff.1 hj).1) hj)
        go_wp2_with fail
        go_ret2
        exact ⟨by rw [HR.out]; rfl, rfl⟩)
end Go.Proofs.YtbbmgcdocolakaaGreatDoor
/-
  load's reader: one line.
-/
namespace Go.Proofs.YtbbmgcdocolakaaGreatDoor
open Go.RowKit Go.Proofs.YtbbmgcdocolakaaGreatDoor.Pg
attribute [local go_sem ↓] Go.wp_at_zero Go.wp_at_succ
set_option maxRecDepth 100000
set_option linter.unusedVariables false

/-- A reader: labels and edges so far. -/
def RdAt (w : World) (g B : Nat) (L : List Int) (E : List (Int × Int)) : Prop :=
  ∃ lv ev, Blk w g 66 #[lv, ev] ∧ w.ownsRow B 3 1 lv L.length (L.map (Value.int .i64)) ∧ w.ownsRow B 76 2 ev E.length (Rk.cells E)
theorem RdAt.keep {w w' : World} {g B : Nat} {L : List Int} {E : List (Int × Int)} (h : RdAt w g B L E) (hb : Below w.heap.size w w') : RdAt w' g B L E := by
  obtain ⟨lv, ev, h1, h2, h3⟩ := h
  exact ⟨lv, ev, h1.keep hb, own_block h2 fun b hb' => hb.block b (h2.lt b hb').2, own_block h3 fun b hb' => hb.block b (h3.lt b hb').2⟩
theorem own_otherL {w w' : World} {v v' : Value} (hgr : Gr w w' v v') {B B' size size' n n' : Nat} {e e' : TypeId} {u : Value} {xs xs' : List Value} (hv : w.ownsRow B e size v n xs) (hu : w.ownsRow B' e' size' u n' xs') (hne : e ≠ e') : w'.ownsRow B' e' size' u n' xs' :=
  own_block hu fun g hg => hgr.g.block g (hu.lt g hg).2 fun h => own_ne hv hu hne h.symm hg rfl
theorem strs3 {w : World} {b : Nat} {x y z : List UInt8} (h : Sl w 1 (some ⟨b, 0, none⟩) 3 ([x, y, z].map fun x => Value.string (bz x))) : w.cell? ⟨b, 0, none⟩ = some (.string (bz x)) ∧ w.cell? ⟨b, 1, none⟩ = some (.string (bz y)) ∧ w.cell? ⟨b, 2, none⟩ = some (.string (bz z)) := by
  have h0 := h.again (k := 0) (by omega) rfl
  have h1 := h.again (k := 1) (by omega) rfl
  have h2 := h.again (k := 2) (by omega) rfl
  simp only [Nat.zero_add] at h0 h1 h2
  exact ⟨h0, h1, h2⟩
theorem split1_len (c : UInt8) : ∀ (s : List UInt8), ∀ x ∈ Tx.split1 c s, x.length ≤ s.length
  | [], x, h => by
    obtain rfl := List.mem_singleton.1 h
    exact Nat.le_refl _
  | b :: l, x, h => by
    have ih := split1_len c l
    unfold Tx.split1 at h
    split at h
    · rcases List.mem_cons.1 h with rfl | h
      · exact Nat.zero_le _
      · exact Nat.le_trans (ih x h) (Nat.le_succ _)
    · split at h
      · obtain rfl := List.mem_singleton.1 h
        simp
      · rename_i y r hy
        rw [hy] at ih
        rcases List.mem_cons.1 h with rfl | h
        · have := ih y (List.mem_cons_self ..)
          rw [List.length_cons, List.length_cons]
          omega
        · exact Nat.le_trans (ih x (List.mem_cons_of_mem _ h)) (Nat.le_succ _)
/-- What line answers. -/
def LineRes (L : List Int) (E : List (Int × Int)) (s : List UInt8) (g B : Nat) (w : World) (e : Ending) (w' : World) : Prop :=
  Below g w w' ∧ match Ld.lineL L E s with
    | some r => e = .returned (.bool true) ∧ RdAt w' g B r.1 r.2
    | none => e = .returned (.bool false) ∧ RdAt w' g B L E

set_option maxHeartbeats 4000000 in
theorem line_any (L : List Int) (E : List (Int × Int)) (s : List UInt8) (S : ByteArray) (g B : Nat) (w : World) (hS : S = bz s) (hz : s.length ≤ 1000000) (hR : RdAt w g B L E) (hg : g < B) (hB : B ≤ w.heap.size) (hl9 : L.length ≤ 1000000) (he9 : E.length ≤ 1000000) (hL : LibW w) :
    Calls Tryz.prog 31 #[.pointer (some ⟨g, 0, none⟩), .string S] w (LineRes L E s g B w) := by
  subst hS
  have HSp := Lib.hid (Split_any s 32 w hz hL)
  have HR := Lib.hid hR
  have hgw : g ≤ w.heap.size := by omega
  clear hR hL
  obtain ⟨ps, hps⟩ : ∃ p, p = Tx.split1 32 s := ⟨_, rfl⟩
  have HPs := Lib.hid hps
  rw [← hps] at HSp
  have HLn := Lib.hid (show ∀ x ∈ ps, x.length ≤ 1000000 from fun x hx => by
    rw [hps] at hx
    exact Nat.le_trans (split1_len 32 s x hx) hz)
  clear hps
  by_cases h3 : ps.length = 3
  case neg =>
    have HN := Lib.hid (show Ld.lineL L E s = none from by
      unfold Ld.lineL
      rw [← HPs.out]
      split
      · exact absurd rfl h3
      · rfl)
    have h3' : ¬ ((ps.length : Nat) : Int) = 3 := by omega
    have h3b : (((ps.length : Nat) : Int) == 3) = false := by simpa using h3'
    clear h3
    go_enter Tryz.func31, Tryz.ntmps31
    go_wp2_with (go_at_call 64; refine HSp.out.mono ?_; clear HSp; rintro e w1 ⟨rfl, _, hb1⟩; have HB1 := Lib.hid hb1; clear hb1)
    go_ret
    refine ⟨HB1.out.mono hgw, ?_⟩
    rw [HN.out]
    exact ⟨rfl, HR.out.keep HB1.out⟩
  obtain ⟨kx, x, y, rfl⟩ : ∃ a b c, ps = [a, b, c] := by
    match ps, h3 with
    | [a, b, c], _ => exact ⟨a, b, c, rfl⟩
  have HNx := Lib.hid (fun W => number_any x (bz x) W rfl (HLn.out x (by simp)))
  have HNy := Lib.hid (fun W => number_any y (bz y) W rfl (HLn.out y (by simp)))
  have HLq := Lib.hid (show Ld.lineL L E s = match Ld.numL x, Ld.numL y with
      | some a, some b => if kx = [118] then (if a = L.length ∧ E = [] then some (L ++ [(b : Int)], E) else none) else if kx = [101] then some (L, E ++ [((a : Int), (b : Int))]) else none
      | _, _ => none from by
    unfold Ld.lineL
    rw [← HPs.out]
    try rfl)
  have he1 : ((bz kx).toList == [118]) = decide (kx = [118]) := bz_beqL kx [118]
  have he2 : ((bz kx).toList == [101]) = decide (kx = [101]) := bz_beqL kx [101]
  clear h3 HLn HPs hz
  go_enter Tryz.func31, Tryz.ntmps31
  go_upto_region 4 with (go_at_call 64; refine HSp.out.mono ?_; clear HSp; rintro e w1 ⟨rfl, hs1, hb1⟩; have HSt := Lib.hid (strs3 hs1); have HB1 := Lib.hid hb1; clear hb1 hs1)
  obtain ⟨c0, c1, c2⟩ := HSt.out
  have HR1 := Lib.hid (HR.out.keep HB1.out)
  have hw1 : w.heap.size ≤ w1.heap.size := HB1.out.size
  clear HSt HR
  obtain ⟨Kb, hKb⟩ : ∃ K, K = bz kx := ⟨_, rfl⟩
  obtain ⟨Xb, hXb⟩ : ∃ K, K = bz x := ⟨_, rfl⟩
  obtain ⟨Yb, hYb⟩ : ∃ K, K = bz y := ⟨_, rfl⟩
  rw [← hKb] at c0 he1 he2
  rw [← hXb] at c1 HNx
  rw [← hYb] at c2 HNy
  clear hKb hXb hYb
  cases hx : Ld.numL x with
  | none =>
    rw [hx] at HNx HLq
    simp only [Option.getD_none, Option.isSome_none] at HNx
    obtain ⟨vy, py, hvy⟩ : ∃ (v : Nat) (p : Bool), v = (Ld.numL y).getD 0 ∧ p = (Ld.numL y).isSome := ⟨_, _, rfl, rfl⟩
    rw [← hvy.1, ← hvy.2] at HNy
    clear hvy hx
    go_upto_region 5 with (go_at_call 65; refine (HNx.out _).mono ?_; clear HNx; rintro e w2 ⟨rfl, rfl⟩)
    go_wp2_with (go_at_call 65; refine (HNy.out _).mono ?_; clear HNy; rintro e w2 ⟨rfl, rfl⟩)
    go_ret
    refine ⟨HB1.out.mono hgw, ?_⟩
    rw [HLq.out]
    exact ⟨rfl, HR1.out⟩
  | some a =>
    rw [hx] at HNx HLq
    simp only [Option.getD_some, Option.isSome_some] at HNx
    clear hx
    cases hy : Ld.numL y with
    | none =>
      rw [hy] at HNy HLq
      simp only [Option.getD_none, Option.isSome_none] at HNy
      clear hy
      go_upto_region 5 with (go_at_call 65; refine (HNx.out _).mono ?_; clear HNx; rintro e w2 ⟨rfl, rfl⟩)
      go_wp2_with (go_at_call 65; refine (HNy.out _).mono ?_; clear HNy; rintro e w2 ⟨rfl, rfl⟩)
      go_ret
      refine ⟨HB1.out.mono hgw, ?_⟩
      rw [HLq.out]
      exact ⟨rfl, HR1.out⟩
    | some b =>
      rw [hy] at HNy HLq
      simp only [Option.getD_some, Option.isSome_some] at HNy
      clear hy
      simp only at HLq
      obtain ⟨lv, ev, hk, hol, hoe⟩ := HR1.out
      obtain ⟨X, xc, rfl, _⟩ := Sl.own hol
      obtain ⟨Y, yc, rfl, _⟩ := Sl.own hoe
      have HK := Lib.hid hk
      have HOl := Lib.hid hol
      have HOe := Lib.hid hoe
      have r0 := hk.cell 0
      have r1 := hk.cell 1
      have f0 := hk.frozen 0
      have f1 := hk.frozen 1
      simp at r0 r1
      clear hk hol hoe
      obtain ⟨n, hn⟩ : ∃ n, n = L.length := ⟨_, rfl⟩
      obtain ⟨m, hm⟩ : ∃ m, m = E.length := ⟨_, rfl⟩
      have HNl := Lib.hid hn
      have HMl := Lib.hid hm
      rw [← hn] at r0 hl9
      rw [← hm] at r1 he9
      rw [← hn, ← hm] at HK
      rw [← hn] at HOl
      rw [← hm] at HOe
      clear hn hm
      go_upto_region 5 with (go_at_call 65; refine (HNx.out _).mono ?_; clear HNx; rintro e w2 ⟨rfl, rfl⟩)
      go_upto_region 6 with (go_at_call 65; refine (HNy.out _).mono ?_; clear HNy; rintro e w2 ⟨rfl, rfl⟩)
      by_cases hv : kx = [118]
      · rw [decide_eq_true hv] at he1
        rw [if_pos hv] at HLq
        clear hv he2
        by_cases ha : a = n
        · subst ha
          by_cases hm0 : m = 0
          · subst hm0
            have HE0 := Lib.hid (show E = [] from List.eq_nil_of_length_eq_zero HMl.out.symm)
            rw [if_pos ⟨HNl.out, HE0.out⟩] at HLq
            have hBw : B ≤ w1.heap.size := Nat.le_trans hB hw1
            have HAl := Lib.hid (bel_al (Below.refl w1.heap.size w1) (.cells #[.int .i64 (b : Int)] 3))
            have HOa := Lib.hid (own_block HOl.out fun c hc => HAl.out.block c (HOl.out.lt c hc).2)
            have HOb := Lib.hid (own_block HOe.out fun c hc => HAl.out.block c (HOe.out.lt c hc).2)
            go_wp2_with (at_builtin; refine wpList_cat_at elemInt _ _ rfl rfl HOa.out (Nat.le_trans hBw HAl.out.size) (Sl.newAt _ [.int .i64 (b : Int)] _ 1 rfl) rfl rfl (by simp [Value.oneCell']) (by unfold lim; omega) (by unfold lim; omega) ?_; intro v6 w6 hown6 hgr; obtain ⟨D6, d6, rfl, _⟩ := Sl.own hown6; have HO6 := Lib.hid hown6; have HE6 := Lib.hid (own_otherL hgr HOa.out HOb.out (by decide)); have HB6 := Lib.hid ((HAl.out.mono hBw).trans (hgr.belowOwn (Nat.le_trans hBw HAl.out.size) HOa.out)); have HK6 := Lib.hid (HK.out.below HB6.out hg); have q0 := HK6.out.cell 0; have g0 := HK6.out.frozen 0; simp at q0; clear hown6 hgr)
            go_ret
            refine ⟨((HB1.out.mono hgw).trans (HB6.out.mono (Nat.le_of_lt hg))).setCell (p := ⟨g, 0, none⟩) (Nat.le_refl _) _, ?_⟩
            rw [HLq.out]
            refine ⟨rfl, .slice D6 (a + 1) d6, .slice Y 0 yc, by have h := HK6.out.set_ 0 (.slice D6 (a + 1) d6); simpa using h, ?_, ?_⟩
            · have h := own_far2 (b := g) (i := 0) HO6.out hg (.slice D6 (a + 1) d6)
              rw [List.length_append, List.length_singleton, ← HNl.out, List.map_append]
              exact h
            · have h := own_far2 (b := g) (i := 0) HE6.out hg (.slice D6 (a + 1) d6)
              rw [HE0.out] at h ⊢
              exact h
          · rw [if_neg (fun h => hm0 (by rw [HMl.out, h.2]; rfl))] at HLq
            have hm1 : (0 : Int) < (m : Int) := by omega
            clear hm0
            go_wp2_with fail
            go_ret
            refine ⟨HB1.out.mono hgw, ?_⟩
            rw [HLq.out]
            exact ⟨rfl, HR1.out⟩
        · rw [if_neg (fun h => ha (by rw [h.1, HNl.out]))] at HLq
          have ha' : ¬ (a : Int) = (n : Int) := by omega
          have ha2 : ((a : Int) == (n : Int)) = false := by simpa using ha'
          clear ha
          go_wp2_with fail
          go_ret
          refine ⟨HB1.out.mono hgw, ?_⟩
          rw [HLq.out]
          exact ⟨rfl, HR1.out⟩
      · rw [decide_eq_false hv] at he1
        rw [if_neg hv] at HLq
        clear hv
        by_cases hv2 : kx = [101]
        · rw [decide_eq_true hv2] at he2
          rw [if_pos hv2] at HLq
          clear hv2
          have hBw : B ≤ w1.heap.size := Nat.le_trans hB hw1
          have HAl := Lib.hid (bel_al (Below.refl w1.heap.size w1) (.cells #[.int .i64 (a : Int), .int .i64 (b : Int)] 76))
          have HOa := Lib.hid (own_block HOe.out fun c hc => HAl.out.block c (HOe.out.lt c hc).2)
          have HOb := Lib.hid (own_block HOl.out fun c hc => HAl.out.block c (HOl.out.lt c hc).2)
          go_wp2_with (at_builtin; refine wpList_cat_at elemEdge _ _ rfl rfl HOa.out (Nat.le_trans hBw HAl.out.size) (Sl.newE _ _ _ _) rfl rfl (by simp [Value.oneCell']) (by unfold lim; omega) (by unfold lim; omega) ?_; intro v6 w6 hown6 hgr; obtain ⟨D6, d6, rfl, _⟩ := Sl.own hown6; have HO6 := Lib.hid hown6; have HE6 := Lib.hid (own_otherL hgr HOa.out HOb.out (by decide)); have HB6 := Lib.hid ((HAl.out.mono hBw).trans (hgr.belowOwn (Nat.le_trans hBw HAl.out.size) HOa.out)); have HK6 := Lib.hid (HK.out.below HB6.out hg); have q1 := HK6.out.cell 1; have g1 := HK6.out.frozen 1; simp at q1; clear hown6 hgr)
          go_ret
          refine ⟨((HB1.out.mono hgw).trans (HB6.out.mono (Nat.le_of_lt hg))).setCell (p := ⟨g, 1, none⟩) (Nat.le_refl _) _, ?_⟩
          rw [HLq.out]
          refine ⟨rfl, .slice X n xc, .slice D6 (m + 1) d6, by have h := HK6.out.set_ 1 (.slice D6 (m + 1) d6); simpa using h, ?_, ?_⟩
          · have h := own_far2 (b := g) (i := 1) HE6.out hg (.slice D6 (m + 1) d6)
            rw [← HNl.out]
            exact h
          · have h := own_far2 (b := g) (i := 1) HO6.out hg (.slice D6 (m + 1) d6)
            rw [List.length_append, List.length_singleton, ← HMl.out, Rk.cells_snoc]
            exact h
        · rw [decide_eq_false hv2] at he2
          rw [if_neg hv2] at HLq
          clear hv2
          go_wp2_with fail
          go_ret
          refine ⟨HB1.out.mono hgw, ?_⟩
          rw [HLq.out]
          exact ⟨rfl, HR1.out⟩
end Go.Proofs.YtbbmgcdocolakaaGreatDoor
/-
  errors.Is at a fault, over chains; fault.In, errors.Unwrap, fault.First, fault.Words.
-/
namespace Go.Proofs.YtbbmgcdocolakaaGreatDoor
open Go.RowKit Go.Extern.Stop Go.Stop Go.Extern
set_option maxRecDepth 100000

/-- Is a fault of the code c of the kind of a target (c2, a2, s2)? -/
def isB (c c2 a2 : Int) (s2 : ByteArray) : Bool := (c2 == c) && (a2 == 0) && s2.toList.isEmpty
def Err.isA (E : Err) (c2 a2 : Int) (s2 : ByteArray) : Bool := match E.flt? with | some (c, _, _) => isB c c2 a2 s2 | none => false

theorem eql_string_empty (s : ByteArray) : (s.toList == []) = s.toList.isEmpty := by cases s.toList <;> rfl

theorem fx_toFault (v : Value) (w : World) : (Instr.typeAssert (.iface 78 v) 34 78 true).run Tryz.prog w = .ok (.tuple #[v, .bool true]) w := by kernel_rfl

theorem fi_compF : (Tryz.prog.info? 78).map (·.comparable) = some true := by kernel_rfl
theorem fi_sizeF : (Tryz.prog.info? 81).map (·.size) = some 3 := by kernel_rfl
theorem fi_noUnwrap (v : Value) (xT : TypeId) (w : World) : (Instr.typeAssert (.iface 78 v) xT 161 true).run Tryz.prog w = .ok (.tuple #[.nilIface, .bool false]) w := run_typeAssert_lacksB Tryz.underlying161 (by kernel_rfl) (by kernel_rfl) v xT w
theorem fi_noUnwraps (v : Value) (xT : TypeId) (w : World) : (Instr.typeAssert (.iface 78 v) xT 186 true).run Tryz.prog w = .ok (.tuple #[.nilIface, .bool false]) w := run_typeAssert_lacksB Tryz.underlying186 (by kernel_rfl) (by kernel_rfl) v xT w
theorem fi_typeOf (v : Value) (w : World) : (ReflectliteType.typeOf #[.iface 78 v]).run Tryz.prog w = .ok (.iface 178 (.agg #[.pointer (some ⟨7, 78, none⟩)])) w := by kernel_rfl
theorem fi_comparable (w : World) : ((ReflectliteType.method fun t => do Rtype.noPackHeld "Comparable" t; (fun a => Value.bool a.comparable) <$> typeInfo t) #[.agg #[.pointer (some ⟨7, 78, none⟩)]]).run Tryz.prog w = .ok (.bool true) w := by kernel_rfl
theorem fi_methodComparable (v : Value) (w : World) : (Go.method 343 178 v "Comparable").run Tryz.prog w = .ok (170, v) w := by kernel_rfl

end Go.Proofs.YtbbmgcdocolakaaGreatDoor
/-
  errors.Is, fault.Is, fault.In, errors.Unwrap, fault.First, fault.Words by contracts.
-/
namespace Go.Proofs.YtbbmgcdocolakaaGreatDoor
open Go.RowKit Go.Extern.Stop Go.Stop Go.Extern
set_option maxRecDepth 100000

/-- A step around an error. -/

def Err.out : Err → Err
  | .step _ e => e
  | _ => .nil
def Err.words : Err → List ByteArray
  | .step w e => w :: e.words
  | _ => []


theorem fu_nil (xT : TypeId) (w : World) : (Instr.typeAssert .nilIface xT 161 true).run Tryz.prog w = .ok (.tuple #[.nilIface, .bool false]) w := by kernel_rfl
theorem Unwrap_any (E : Err) (v : Value) (w0 w : World) (hE : E.At w0 v) (hw : Below w0.heap.size w0 w) :
    Calls Tryz.prog 73 #[v] w fun e w' => ∃ v', e = .returned v' ∧ E.out.At w0 v' ∧ w = w' := by
  have HB := Lib.hid hw
  clear hw
  have n0 := fu_nil
  have uF := fi_noUnwrap
  have uS := fs_hasUnwrap
  have mS := fs_methodUnwrap
  cases E with
  | nil =>
    obtain rfl : v = .nilIface := hE
    go_enter Tryz.func73, Tryz.ntmps73
    go_wp2
    go_ret
    exact ⟨_, rfl, rfl, rfl⟩
  | flt c a s =>
    obtain ⟨g, rfl, hblk⟩ := hE
    clear hblk
    go_enter Tryz.func73, Tryz.ntmps73
    go_wp2
    go_ret
    exact ⟨_, rfl, rfl, rfl⟩
  | txt s =>
    first
      | exact False.elim hE
      | (obtain ⟨g, rfl, hblk⟩ := hE
         have uT := ft_noUnwrap
         clear hblk
         go_enter Tryz.func73, Tryz.ntmps73
         go_wp2
         go_ret
         exact ⟨_, rfl, rfl, rfl⟩)
  | step word e =>
    obtain ⟨g, v', rfl, hblk, hv', hnn⟩ := hE
    have hc1 := (hblk.keep HB.out).cell 1
    simp at hc1
    have HV := Lib.hid hv'
    have HU := Lib.hid (stepUnwrap g v' _ hc1)
    clear hblk hv' hc1 hnn
    go_enter Tryz.func73, Tryz.ntmps73
    go_wp2_with (go_at_call 164; refine HU.out.mono ?_; rintro ev w' ⟨rfl, rfl⟩)
    go_ret
    exact ⟨_, rfl, HV.out, rfl⟩

end Go.Proofs.YtbbmgcdocolakaaGreatDoor
