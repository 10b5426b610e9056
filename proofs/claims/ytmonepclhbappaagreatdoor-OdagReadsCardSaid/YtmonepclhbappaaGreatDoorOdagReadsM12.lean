/-
  Part 12 of the proof of OdagReads: OdBy, Marks, LawEnd, OdRl, KeepT.
-/
import Derived.Test.YtmonepclhbappaaGreatDoorOdagReadsM9
import Derived.Test.YtmonepclhbappaaGreatDoorOdagReadsM8
import Derived.Test.YtmonepclhbappaaGreatDoorOdagReadsM11
import Derived.RangeFuncLeaves
import Derived.RangeFuncKeeps
import Derived.Test.YtmonepclhbappaaGreatDoorOdagReadsM4
import Derived.Test.YtmonepclhbappaaGreatDoorOdagReadsM1
import Derived.Test.YtmonepclhbappaaGreatDoorOdagReadsM2
import Derived.BigQuiet
import Derived.Deep.DeepCutAuto
import Derived.Test.YtmonepclhbappaaGreatDoorOdagReadsM5
/-
  Odags plainly: their bytes, and how they are read back.
-/
namespace Go.Proofs.YtmonepclhbappaaGreatDoor
open Go.RowKit
set_option linter.unusedVariables false

/-- A list at a place of bytes, and the place behind it. -/
def lst (l : List Int) (a : Nat) : List Int := wordsL (l.drop (a + 4)) (wordN (l.drop a))
def nxtA (l : List Int) (a : Nat) : Nat := a + 4 + 4 * wordN (l.drop a)
theorem words_take {l : List Int} (hb : Bys l) : ∀ j, 4 * j ≤ l.length → ((wordsL l j).flatMap fun x => wordL x.toNat) = l.take (4 * j)
  | 0, _ => by simp [wordsL]
  | j + 1, h => by
    rw [wordsL, List.flatMap_append, words_take hb j (by omega)]
    have e : ([((wordN (l.drop (4 * j)) : Nat) : Int)].flatMap fun x => wordL x.toNat) = (l.drop (4 * j)).take 4 := by
      rw [← wordL_of (hb.drop _) (by rw [List.length_drop]; omega)]
      simp
    rw [e, show 4 * (j + 1) = 4 * j + 4 by omega, List.take_add]
theorem enc_lst {l : List Int} (hb : Bys l) {a m : Nat} (h : okAt l a m) : l.take (nxtA l a) = l.take a ++ encW (lst l a) := by
  obtain ⟨h1, h2, h3⟩ := h
  unfold nxtA encW lst
  have hl : (wordsL (l.drop (a + 4)) (wordN (l.drop a))).length = wordN (l.drop a) := wordsL_len _ _
  rw [hl, words_take (hb.drop _) _ (by rw [List.length_drop]; omega), wordL_of (hb.drop a) (by rw [List.length_drop]; omega), Nat.add_assoc, List.take_add, List.take_add, List.drop_drop]
theorem nxtA_le {l : List Int} {a m : Nat} (h : okAt l a m) : nxtA l a ≤ l.length := h.2.2
theorem lst_len {l : List Int} {a m : Nat} (h : okAt l a m) : (lst l a).length ≤ m := by unfold lst; rw [wordsL_len]; exact h.2.1
theorem words_flat {xs : List Int} (hf : ∀ x ∈ xs, fits x) (rest : List Int) : ∀ j, j ≤ xs.length → wordsL ((xs.flatMap fun x => wordL x.toNat) ++ rest) j = xs.take j
  | 0, _ => by simp [wordsL]
  | j + 1, h => by
    have hj : j < xs.length := by omega
    rw [wordsL, words_flat hf rest j (by omega), List.take_succ_eq_append_getElem hj]
    congr 1
    have hx := hf _ (List.getElem_mem hj)
    have e : ((xs.flatMap fun x => wordL x.toNat) ++ rest).drop (4 * j) = wordL xs[j].toNat ++ (((xs.drop (j + 1)).flatMap fun x => wordL x.toNat) ++ rest) := by
      have e1 : xs.flatMap (fun x => wordL x.toNat) = ((xs.take j).flatMap fun x => wordL x.toNat) ++ (wordL xs[j].toNat ++ (xs.drop (j + 1)).flatMap fun x => wordL x.toNat) := by
        conv => lhs; rw [← List.take_append_drop j xs, List.drop_eq_getElem_cons hj]
        rw [List.flatMap_append, List.flatMap_cons]
      have e2 : ((xs.take j).flatMap fun x => wordL x.toNat).length = 4 * j := by rw [encF_len, List.length_take]; omega
      rw [e1, List.append_assoc, ← e2, List.drop_left, List.append_assoc]
    rw [e, wordN_of (by have := hx.1; have := hx.2; omega)]
    have := hx.1
    congr 1
    omega
theorem lst_enc {xs : List Int} (hf : ∀ x ∈ xs, fits x) (hn : xs.length < 4294967296) (pre rest : List Int) {l : List Int} (hl : l = pre ++ (encW xs ++ rest)) : wordN (l.drop pre.length) = xs.length ∧ lst l pre.length = xs ∧ nxtA l pre.length = (pre ++ encW xs).length := by
  have e1 : l.drop pre.length = wordL xs.length ++ ((xs.flatMap fun x => wordL x.toNat) ++ rest) := by rw [hl, List.drop_left, encW, List.append_assoc]
  have e2 : wordN (l.drop pre.length) = xs.length := by rw [e1, wordN_of hn]
  have e3 : l.drop (pre.length + 4) = (xs.flatMap fun x => wordL x.toNat) ++ rest := by
    rw [← List.drop_drop, e1]
    exact List.drop_left (l₁ := wordL xs.length)
  refine ⟨e2, ?_, ?_⟩
  · unfold lst
    rw [e2, e3, words_flat hf rest _ (Nat.le_refl _), List.take_of_length_le (Nat.le_refl _)]
  · unfold nxtA
    rw [e2, List.length_append, encW_len]
    omega
theorem ok_enc {xs : List Int} (hf : ∀ x ∈ xs, fits x) {m : Nat} (hm : xs.length ≤ m) (h32 : m < 4294967296) (pre rest : List Int) {l : List Int} (hl : l = pre ++ (encW xs ++ rest)) : okAt l pre.length m := by
  obtain ⟨h1, _, _⟩ := lst_enc hf (by omega) pre rest hl
  have h2 : l.length = pre.length + (4 + 4 * xs.length + rest.length) := by rw [hl, List.length_append, List.length_append, encW_len]
  unfold okAt
  omega

/-- A list that may be a row, or links. -/
def rightO (xs : List Int) : Prop := Inc xs ∧ ∀ x ∈ xs, numOK x
theorem rightO.fits {xs : List Int} (h : rightO xs) : ∀ x ∈ xs, fits x := fun x hx => by have := h.2 x hx; unfold numOK at this; unfold Go.Proofs.YtmonepclhbappaaGreatDoor.fits; omega
def keysR (r : Rw) : List Int := r.map (·.1)
/-- Links of a row in bytes; an odag in bytes. -/
def encLk (r : Rw) : List Int := r.flatMap fun q => encW q.2
def bytesO (od : List Rw) : List Int := (wordL od.length ++ (od.map keysR).flatMap encW) ++ (od.take (od.length - 1)).flatMap encLk
structure WfO (od : List Rw) (n : Nat) : Prop where
  len : od.length = n
  h1 : 1 ≤ n
  h8 : n ≤ 8
  keys : ∀ i, i < n → rightO (keysR (od.getD i [])) ∧ (od.getD i []).length ≤ 65536
  lnk : ∀ i, i + 1 < n → ∀ q ∈ od.getD i [], (rightO q.2 ∧ q.2.length ≤ 65536) ∧ ∀ b ∈ q.2, b ∈ keysR (od.getD (i + 1) [])
  last : ∀ q ∈ od.getD (n - 1) [], q.2 = []

theorem split_at_i {α : Type} {L : List α} {i : Nat} {x : α} (h : L[i]? = some x) : L = L.take i ++ x :: L.drop (i + 1) := by
  obtain ⟨h1, h2⟩ := List.getElem?_eq_some_iff.1 h
  conv => lhs; rw [← List.take_append_drop i L, List.drop_eq_getElem_cons h1, h2]

theorem getD_in {α : Type} {L : List α} {i : Nat} {x : α} (h : i < L.length) : L.getD i x = L[i] := by rw [List.getD_eq_getElem?_getD, List.getElem?_eq_getElem h]; rfl
theorem keys_getD {od : List Rw} {i : Nat} (h : i < od.length) : (od.map keysR).getD i [] = keysR (od.getD i []) := by
  rw [getD_in (by rw [List.length_map]; exact h), getD_in h, List.getElem_map]
/-- Rows read so far. -/
def RI (l : List Int) (n i : Nat) (E : Err) (a : Nat) (KL : List (List Int)) : Prop :=
  KL.length = i ∧ (∀ xs ∈ KL, rightO xs ∧ xs.length ≤ 65536) ∧ (E = .nil → a ≤ l.length ∧ l.take a = wordL n ++ KL.flatMap encW) ∧ ∀ od, WfO od n → bytesO od = l → E = .nil ∧ KL = (od.take i).map keysR
section
variable {l : List Int} {n i a : Nat} {E : Err} {KL : List (List Int)}
theorem take_len (h : a ≤ l.length) : (l.take a).length = a := by rw [List.length_take]; omega
theorem RI.at_ (h : RI l n i E a KL) (hi : i < n) {od : List Rw} (hw : WfO od n) (hb : bytesO od = l) : okAt l a 65536 ∧ lst l a = keysR (od.getD i []) := by
  obtain ⟨h1, h2, h3, h4⟩ := h
  obtain ⟨hE, hK⟩ := h4 od hw hb
  obtain ⟨ha, ht⟩ := h3 hE
  have hx : (od.map keysR)[i]? = some (keysR (od.getD i [])) := by
    rw [List.getElem?_map, List.getElem?_eq_getElem (by rw [hw.len]; exact hi), List.getD_eq_getElem?_getD, List.getElem?_eq_getElem (by rw [hw.len]; exact hi)]
    rfl
  obtain ⟨rest, hr⟩ : ∃ rest, l = l.take a ++ (encW (keysR (od.getD i [])) ++ rest) := by
    refine ⟨((od.map keysR).drop (i + 1)).flatMap encW ++ (od.take (od.length - 1)).flatMap encLk, ?_⟩
    rw [ht, hK, List.map_take]
    conv => lhs; rw [← hb, bytesO, split_at_i hx]
    rw [List.flatMap_append, List.flatMap_cons, hw.len]
    simp only [List.append_assoc]
  have hk := hw.keys i hi
  have hl : (keysR (od.getD i [])).length ≤ 65536 := by unfold keysR; rw [List.length_map]; exact hk.2
  have e := take_len ha
  have k1 := ok_enc hk.1.fits hl (by omega) _ rest hr
  have k2 := (lst_enc hk.1.fits (by omega) _ rest hr).2.1
  rw [e] at k1 k2
  exact ⟨k1, k2⟩
theorem RI.good (h : RI l n i E a KL) (hi : i < n) (hby : Bys l) (hE : E = .nil) (hok : okAt l a 65536) (hr : rightO (lst l a)) : RI l n (i + 1) .nil (nxtA l a) (KL ++ [lst l a]) := by
  obtain ⟨h1, h2, h3, h4⟩ := id h
  refine ⟨by rw [List.length_append, h1]; rfl, fun xs hxs => ?_, fun _ => ⟨nxtA_le hok, ?_⟩, fun od hw hb => ⟨rfl, ?_⟩⟩
  · rcases List.mem_append.1 hxs with hxs | hxs
    · exact h2 xs hxs
    · rw [List.mem_singleton.1 hxs]
      exact ⟨hr, lst_len hok⟩
  · rw [enc_lst hby hok, (h3 hE).2, List.flatMap_append, List.append_assoc]
    simp
  · have h5 := (h.at_ hi hw hb).2
    rw [List.take_succ_eq_append_getElem (by rw [hw.len]; exact hi), List.map_append, ← (h4 od hw hb).2, h5, List.getD_eq_getElem?_getD, List.getElem?_eq_getElem (by rw [hw.len]; exact hi)]
    rfl
theorem RI.bad (h : RI l n i E a KL) (hi : i < n) (hno : E = .nil → ¬ okAt l a 65536) {E' : Err} {a' : Nat} (hE' : E' ≠ .nil) : RI l n (i + 1) E' a' (KL ++ [[]]) := by
  obtain ⟨h1, h2, h3, h4⟩ := id h
  refine ⟨by rw [List.length_append, h1]; rfl, fun xs hxs => ?_, fun e => absurd e hE', fun od hw hb => ?_⟩
  · rcases List.mem_append.1 hxs with hxs | hxs
    · exact h2 xs hxs
    · rw [List.mem_singleton.1 hxs]
      exact ⟨⟨List.Pairwise.nil, fun x hx => by cases hx⟩, by simp⟩
  · exact absurd (h.at_ hi hw hb).1 (hno (h4 od hw hb).1)
theorem RI.stop (h : RI l n i E a KL) (hi : i < n) (hno : ¬ rightO (lst l a)) : ∀ od, WfO od n → bytesO od ≠ l := fun od hw hb => by
  have h5 := (h.at_ hi hw hb).2
  rw [h5] at hno
  exact hno (hw.keys i hi).1
end
/-- A row without links. -/
def bare (ks : List Int) : Rw := ks.map fun a => (a, [])
theorem keys_bare (ks : List Int) : keysR (bare ks) = ks := by
  unfold keysR bare
  rw [List.map_map]
  exact List.map_id ks

/-- Rows of links read so far. -/
def RO (l : List Int) (n : Nat) (KL : List (List Int)) (i : Nat) (E : Err) (a : Nat) (od' : List Rw) : Prop :=
  od'.length = n ∧ od'.map keysR = KL ∧ (∀ j, j < i → ∀ q ∈ od'.getD j [], (rightO q.2 ∧ q.2.length ≤ 65536) ∧ ∀ b ∈ q.2, b ∈ KL.getD (j + 1) []) ∧ (∀ j, i ≤ j → j < n → od'.getD j [] = bare (KL.getD j [])) ∧
  (E = .nil → a ≤ l.length ∧ l.take a = (wordL n ++ KL.flatMap encW) ++ (od'.take i).flatMap encLk) ∧ ∀ od, WfO od n → bytesO od = l → E = .nil ∧ KL = od.map keysR ∧ od'.take i = od.take i
/-- Links read so far in row i. -/
def RN (l : List Int) (n : Nat) (KL : List (List Int)) (i k : Nat) (E : Err) (a : Nat) (od' : List Rw) (d : Rw) : Prop :=
  keysR d = (KL.getD i []).take k ∧ (∀ q ∈ d, (rightO q.2 ∧ q.2.length ≤ 65536) ∧ ∀ b ∈ q.2, b ∈ KL.getD (i + 1) []) ∧
  (E = .nil → a ≤ l.length ∧ l.take a = ((wordL n ++ KL.flatMap encW) ++ (od'.take i).flatMap encLk) ++ encLk d) ∧ ∀ od, WfO od n → bytesO od = l → E = .nil ∧ KL = od.map keysR ∧ od'.take i = od.take i ∧ d = (od.getD i []).take k
section
variable {l : List Int} {n i k a a0 : Nat} {E E' : Err} {KL : List (List Int)} {od' : List Rw} {d : Rw}
theorem RI.done (h : RI l n n E a KL) (h1 : 1 ≤ n) : RO l n KL 0 E a (KL.map bare) := by
  obtain ⟨g1, g2, g3, g4⟩ := h
  refine ⟨by rw [List.length_map]; exact g1, ?_, fun j hj => absurd hj (Nat.not_lt_zero _), fun j _ hj => ?_, fun e => ⟨(g3 e).1, ?_⟩, fun od hw hb => ⟨(g4 od hw hb).1, ?_, rfl⟩⟩
  · rw [List.map_map]
    conv => rhs; rw [← List.map_id KL]
    refine List.map_congr_left fun x _ => ?_
    exact keys_bare x
  · rw [List.getD_eq_getElem?_getD, List.getElem?_map, List.getD_eq_getElem?_getD, List.getElem?_eq_getElem (by omega)]
    rfl
  · rw [List.take_zero, List.flatMap_nil, List.append_nil]
    exact (g3 e).2
  · have := (g4 od hw hb).2
    rw [List.take_of_length_le (by rw [hw.len]; exact Nat.le_refl _)] at this
    exact this
theorem RO.begin (h : RO l n KL i E a od') : RN l n KL i 0 E a od' [] := by
  obtain ⟨g1, g2, g3, g4, g5, g6⟩ := h
  refine ⟨by rw [List.take_zero]; rfl, fun q hq => (by cases hq), fun e => ⟨(g5 e).1, ?_⟩, fun od hw hb => ⟨(g6 od hw hb).1, (g6 od hw hb).2.1, (g6 od hw hb).2.2, by rw [List.take_zero]⟩⟩
  rw [encLk, List.flatMap_nil, List.append_nil]
  exact (g5 e).2
theorem RN.at_ (h : RN l n KL i k E a od' d) (hi : i + 1 < n) (hk : k < (KL.getD i []).length) {od : List Rw} (hw : WfO od n) (hb : bytesO od = l) : ∃ q, (od.getD i [])[k]? = some q ∧ okAt l a 65536 ∧ lst l a = q.2 := by
  obtain ⟨h1, h2, h3, h4⟩ := h
  obtain ⟨hE, hK, hT, hD⟩ := h4 od hw hb
  obtain ⟨ha, ht⟩ := h3 hE
  have hio : i < od.length := by rw [hw.len]; omega
  have hgi : od[i]? = some (od.getD i []) := by rw [List.getD_eq_getElem?_getD, List.getElem?_eq_getElem hio]; rfl
  have hkl : KL.getD i [] = keysR (od.getD i []) := by
    rw [hK, List.getD_eq_getElem?_getD, List.getElem?_map, hgi]
    rfl
  rw [hkl] at hk
  unfold keysR at hk
  rw [List.length_map] at hk
  refine ⟨(od.getD i [])[k], List.getElem?_eq_getElem hk, ?_⟩
  have hqm := List.getElem_mem hk
  have hqx : (od.getD i [])[k]? = some (od.getD i [])[k] := List.getElem?_eq_getElem hk
  generalize (od.getD i [])[k] = q at *
  obtain ⟨⟨hq1, hq2⟩, _⟩ := hw.lnk i hi q hqm
  have hti : (od.take (od.length - 1))[i]? = some (od.getD i []) := by rw [List.getElem?_take, if_pos (by rw [hw.len]; omega), hgi]
  obtain ⟨rest, hr⟩ : ∃ rest, l = l.take a ++ (encW q.2 ++ rest) := by
    refine ⟨encLk ((od.getD i []).drop (k + 1)) ++ ((od.take (od.length - 1)).drop (i + 1)).flatMap encLk, ?_⟩
    rw [ht, hT, hD, hK]
    conv => lhs; rw [← hb, bytesO, split_at_i hti]
    have e1 : encLk (od.getD i []) = encLk ((od.getD i []).take k) ++ (encW q.2 ++ encLk ((od.getD i []).drop (k + 1))) := by
      conv => lhs; rw [split_at_i hqx]
      unfold encLk
      rw [List.flatMap_append, List.flatMap_cons]
    have e2 : (od.take (od.length - 1)).take i = od.take i := by rw [List.take_take, Nat.min_eq_left (by rw [hw.len]; omega)]
    rw [List.flatMap_append, List.flatMap_cons, e1, e2, hw.len]
    simp only [List.append_assoc]
  have e := take_len ha
  have k1 := ok_enc hq1.fits hq2 (by omega) _ rest hr
  have k2 := (lst_enc hq1.fits (by omega) _ rest hr).2.1
  rw [e] at k1 k2
  exact ⟨k1, k2⟩
theorem RN.good (h : RN l n KL i k E a od' d) (hi : i + 1 < n) {y : Int} (hy : (KL.getD i [])[k]? = some y) (hby : Bys l) (hE : E = .nil) (hok : okAt l a 65536) (hr : rightO (lst l a)) (hin : ∀ b ∈ lst l a, b ∈ KL.getD (i + 1) []) : RN l n KL i (k + 1) .nil (nxtA l a) od' (d ++ [(y, lst l a)]) := by
  have hk := (List.getElem?_eq_some_iff.1 hy).1
  obtain ⟨h1, h2, h3, h4⟩ := id h
  refine ⟨?_, fun q hq => ?_, fun _ => ⟨nxtA_le hok, ?_⟩, fun od hw hb => ?_⟩
  · unfold keysR at h1 ⊢
    rw [List.map_append, h1, List.take_succ_eq_append_getElem hk, (List.getElem?_eq_some_iff.1 hy).2]
    rfl
  · rcases List.mem_append.1 hq with hq | hq
    · exact h2 q hq
    · rw [List.mem_singleton.1 hq]
      exact ⟨⟨hr, lst_len hok⟩, hin⟩
  · rw [enc_lst hby hok, (h3 hE).2, encLk, encLk, List.flatMap_append, List.append_assoc]
    simp
  · obtain ⟨q, hq, _, hl⟩ := h.at_ hi hk hw hb
    obtain ⟨k1, k2, k3, k4⟩ := h4 od hw hb
    refine ⟨rfl, k2, k3, ?_⟩
    obtain ⟨g1, g2⟩ := List.getElem?_eq_some_iff.1 hq
    rw [List.take_succ_eq_append_getElem g1, ← k4, g2, hl]
    have hyq : y = q.1 := by
      rw [k2, keys_getD (by rw [hw.len]; omega)] at hy
      unfold keysR at hy
      rw [List.getElem?_map, hq] at hy
      exact (Option.some.inj hy).symm
    rw [hyq]
theorem RN.bad (h : RN l n KL i k E a od' d) (hi : i + 1 < n) {y : Int} (hy : (KL.getD i [])[k]? = some y) (hno : E = .nil → ¬ okAt l a 65536) {a' : Nat} (hE' : E' ≠ .nil) : RN l n KL i (k + 1) E' a' od' (d ++ [(y, [])]) := by
  have hk := (List.getElem?_eq_some_iff.1 hy).1
  obtain ⟨h1, h2, h3, h4⟩ := id h
  refine ⟨?_, fun q hq => ?_, fun e => absurd e hE', fun od hw hb => ?_⟩
  · unfold keysR at h1 ⊢
    rw [List.map_append, h1, List.take_succ_eq_append_getElem hk, (List.getElem?_eq_some_iff.1 hy).2]
    rfl
  · rcases List.mem_append.1 hq with hq | hq
    · exact h2 q hq
    · rw [List.mem_singleton.1 hq]
      exact ⟨⟨⟨List.Pairwise.nil, fun x hx => by cases hx⟩, by simp⟩, fun b hb => by cases hb⟩
  · obtain ⟨q, hq, hok, _⟩ := h.at_ hi hk hw hb
    exact absurd hok (hno (h4 od hw hb).1)
theorem RN.stop (h : RN l n KL i k E a od' d) (hi : i + 1 < n) {y : Int} (hy : (KL.getD i [])[k]? = some y) (hno : ¬ (rightO (lst l a) ∧ ∀ b ∈ lst l a, b ∈ KL.getD (i + 1) [])) : ∀ od, WfO od n → bytesO od ≠ l := fun od hw hb => by
  have hk := (List.getElem?_eq_some_iff.1 hy).1
  obtain ⟨q, hq, _, hl⟩ := h.at_ hi hk hw hb
  obtain ⟨_, k2, _, _⟩ := h.2.2.2 od hw hb
  have h5 := hw.lnk i hi q (List.mem_of_getElem? hq)
  have e : KL.getD (i + 1) [] = keysR (od.getD (i + 1) []) := by
    rw [k2, List.getD_eq_getElem?_getD, List.getElem?_map, List.getD_eq_getElem?_getD, List.getElem?_eq_getElem (by rw [hw.len]; exact hi)]
    rfl
  rw [hl, e] at hno
  exact hno ⟨h5.1.1, h5.2⟩
/-- A row is through. -/
theorem RN.next (h : RN l n KL i k E a od' d) (hO : RO l n KL i E' a0 od') (hi : i + 1 < n) (hk : k = (KL.getD i []).length) : RO l n KL (i + 1) E a (od'.set i d) := by
  obtain ⟨h1, h2, h3, h4⟩ := h
  obtain ⟨g1, g2, g3, g4, g5, g6⟩ := hO
  have hkd : keysR d = KL.getD i [] := by rw [h1, hk, List.take_of_length_le (Nat.le_refl _)]
  have hio : i < od'.length := by omega
  have eset : (od'.set i d).take (i + 1) = od'.take i ++ [d] := by
    rw [List.take_succ_eq_append_getElem (by rw [List.length_set]; exact hio), List.getElem_set_self, List.take_set_of_le (Nat.le_refl _)]
  have hget : ∀ j, (od'.set i d).getD j [] = if i = j then d else od'.getD j [] := fun j => by
    rw [List.getD_eq_getElem?_getD, List.getElem?_set]
    split
    · rename_i e
      subst e
      simp
    · rw [List.getD_eq_getElem?_getD]
  refine ⟨by rw [List.length_set]; exact g1, ?_, fun j hj q hq => ?_, fun j hj hjn => ?_, fun e => ⟨(h3 e).1, ?_⟩, fun od hw hb => ?_⟩
  · rw [List.map_set, g2, hkd]
    have hil : i < KL.length := by rw [← g2, List.length_map]; exact hio
    rw [List.getD_eq_getElem?_getD, List.getElem?_eq_getElem hil]
    exact List.set_getElem_self hil
  · rw [hget] at hq
    split at hq
    · rename_i e
      subst e
      exact h2 q hq
    · exact g3 j (by omega) q hq
  · rw [hget, if_neg (by omega)]
    exact g4 j (by omega) hjn
  · rw [(h3 e).2, eset, List.flatMap_append, List.append_assoc]
    simp
  · obtain ⟨k1, k2, k3, k4⟩ := h4 od hw hb
    refine ⟨k1, k2, ?_⟩
    have hil : i < od.length := by rw [hw.len]; omega
    have hlen : (od.getD i []).length = k := by
      rw [hk, k2, keys_getD hil]
      simp [keysR]
    rw [getD_in hil] at hlen
    rw [getD_in hil] at k4
    rw [eset, k3, k4, List.take_succ_eq_append_getElem hil, List.take_of_length_le (i := k) (by omega)]
/-- All is read. -/
theorem RO.done (h : RO l n KL (n - 1) E a od') (hK : ∀ xs ∈ KL, rightO xs ∧ xs.length ≤ 65536) (h1 : 1 ≤ n) (h8 : n ≤ 8) : WfO od' n ∧ (E = .nil → a ≤ l.length ∧ l.take a = bytesO od') ∧ ∀ od, WfO od n → bytesO od = l → E = .nil ∧ od' = od := by
  obtain ⟨g1, g2, g3, g4, g5, g6⟩ := h
  have hrow : ∀ i, i < n → KL.getD i [] = keysR (od'.getD i []) := fun i hi => by
    rw [← g2, List.getD_eq_getElem?_getD, List.getElem?_map, List.getD_eq_getElem?_getD, List.getElem?_eq_getElem (by omega)]
    rfl
  have hlast := g4 (n - 1) (Nat.le_refl _) (by omega)
  refine ⟨⟨g1, h1, h8, fun i hi => ?_, fun i hi q hq => ?_, fun q hq => ?_⟩, fun e => ⟨(g5 e).1, ?_⟩, fun od hw hb => ⟨(g6 od hw hb).1, ?_⟩⟩
  · have hm : keysR (od'.getD i []) ∈ KL := by
      rw [← g2, List.getD_eq_getElem?_getD, List.getElem?_eq_getElem (by omega)]
      exact List.mem_map.2 ⟨_, List.getElem_mem _, rfl⟩
    have := hK _ hm
    exact ⟨this.1, by have h5 := this.2; unfold keysR at h5; rwa [List.length_map] at h5⟩
  · have := g3 i (by omega) q hq
    rw [hrow (i + 1) hi] at this
    exact this
  · rw [hlast] at hq
    obtain ⟨x, _, rfl⟩ := List.mem_map.1 hq
    rfl
  · rw [(g5 e).2, bytesO, g1, g2]
  · obtain ⟨k1, k2, k3⟩ := g6 od hw hb
    refine List.ext_getElem? fun j => ?_
    rcases Nat.lt_or_ge j (n - 1) with hj | hj
    · have := congrArg (·[j]?) k3
      simpa [List.getElem?_take, hj] using this
    · rcases Nat.lt_or_ge j n with hjn | hjn
      · obtain rfl : j = n - 1 := by omega
        have hl2 := hw.last
        have e1 : od'[n - 1]? = some (od'.getD (n - 1) []) := by rw [List.getD_eq_getElem?_getD, List.getElem?_eq_getElem (by omega)]; rfl
        have e2 : od[n - 1]? = some (od.getD (n - 1) []) := by rw [List.getD_eq_getElem?_getD, List.getElem?_eq_getElem (by rw [hw.len]; omega)]; rfl
        rw [e1, e2, hlast]
        congr 1
        have e3 : KL.getD (n - 1) [] = keysR (od.getD (n - 1) []) := by rw [k2, List.getD_eq_getElem?_getD, List.getElem?_map, e2]; rfl
        rw [e3]
        unfold bare keysR
        rw [List.map_map]
        conv => rhs; rw [← List.map_id (od.getD (n - 1) [])]
        refine List.map_congr_left fun q hq => ?_
        have := hl2 q hq
        simp [← this]
      · rw [List.getElem?_eq_none (by omega), List.getElem?_eq_none (by rw [hw.len]; omega)]
end
end Go.Proofs.YtmonepclhbappaaGreatDoor
/-
  Laws with ranges over functions: their ends, walked plainly.
-/
namespace Go.Proofs.YtmonepclhbappaaGreatDoor
open Go.RowKit
set_option linter.unusedVariables false
section
variable {F : Fence} {n : Nat} {P : Program} {fn : Func} {R : Ending → World → Prop} {a : Act} {w : World} {v : Value}
theorem mks0 (hd : a.defers = []) (hr : (results fn a.tmps).run P w = .ok v w) (hR : R (.returned v) w) : bodyPostM F n P fn R .ret a w := by
  show LeavesInM F n P fn a.tmps R a.defers .returning w
  rw [hd]
  exact ⟨v, hr, hR⟩
theorem mks1 {D : Nat} (hd : a.defers = [{ target := .collected D, args := #[] }]) (hK : w.heap[D]? = some (.deferred (some [])))
    (hr : (results fn a.tmps).run P (w.putObj D (.deferred none)) = .ok v (w.putObj D (.deferred none))) (hR : R (.returned v) (w.putObj D (.deferred none))) : bodyPostM F n P fn R .ret a w := by
  show LeavesInM F n P fn a.tmps R a.defers .returning w
  rw [hd]
  exact ⟨by simp, .inl ⟨_, _, rfl, run_takeDeferred hK, v, hr, hR⟩⟩
theorem mks2 {D E : Nat} (hd : a.defers = [{ target := .collected E, args := #[] }, { target := .collected D, args := #[] }]) (hE : w.heap[E]? = some (.deferred (some []))) (hD : (w.putObj E (.deferred none)).heap[D]? = some (.deferred (some [])))
    (hr : (results fn a.tmps).run P ((w.putObj E (.deferred none)).putObj D (.deferred none)) = .ok v ((w.putObj E (.deferred none)).putObj D (.deferred none))) (hR : R (.returned v) ((w.putObj E (.deferred none)).putObj D (.deferred none))) : bodyPostM F n P fn R .ret a w := by
  show LeavesInM F n P fn a.tmps R a.defers .returning w
  rw [hd]
  exact ⟨by simp, .inl ⟨_, _, rfl, run_takeDeferred hE, by simp, .inl ⟨_, _, rfl, run_takeDeferred hD, v, hr, hR⟩⟩⟩
end
/-- The marks' blocks are shut, one after the other. -/
def shutM (Ds : List Nat) (w : World) : World := Ds.foldl (fun w D => w.putObj D (.deferred none)) w
theorem leavesM {F : Fence} {n : Nat} {P : Program} {fn : Func} {tmps : Array Value} {R : Ending → World → Prop} {v : Value} : ∀ (Ds : List Nat) (w : World), (∀ D ∈ Ds, w.heap[D]? = some (.deferred (some []))) → Ds.Nodup →
    (results fn tmps).run P (shutM Ds w) = .ok v (shutM Ds w) → R (.returned v) (shutM Ds w) → LeavesInM F n P fn tmps R (Ds.map fun D => { target := .collected D, args := #[] }) .returning w
  | [], w, _, _, hr, hR => ⟨v, hr, hR⟩
  | D :: Ds, w, hK, hn, hr, hR => by
    have hn' := List.nodup_cons.1 hn
    refine ⟨by simp, .inl ⟨_, _, rfl, run_takeDeferred (hK D (List.mem_cons_self ..)), ?_⟩⟩
    refine leavesM Ds (w.putObj D (.deferred none)) (fun D' hD' => ?_) hn'.2 hr hR
    exact (World.putObj_heap_other (fun e => hn'.1 (by rw [← e]; exact hD'))).trans (hK D' (List.mem_cons_of_mem _ hD'))
theorem shutM_blk {B : Nat} {t : TypeId} {u : Array Value} : ∀ (Ds : List Nat) (w : World), (∀ D ∈ Ds, w.heap[D]? = some (.deferred (some []))) → Ds.Nodup → Blk w B t u → Blk (shutM Ds w) B t u
  | [], _, _, _, h => h
  | D :: Ds, w, hK, hn, h => by
    have hn' := List.nodup_cons.1 hn
    refine shutM_blk Ds (w.putObj D (.deferred none)) (fun D' hD' => (World.putObj_heap_other (fun e => hn'.1 (by rw [← e]; exact hD'))).trans (hK D' (List.mem_cons_of_mem _ hD'))) hn'.2 (h.grown (grownBy_putObj' _ _ _) (fun e => ?_))
    cases e
    have h2 := hK B (List.mem_cons_self ..)
    rw [show w.heap[B]? = _ from h] at h2
    cases h2
theorem shutM_below {w0 : World} : ∀ (Ds : List Nat) (w : World), (∀ D ∈ Ds, w.heap[D]? = some (.deferred (some []))) → Ds.Nodup → (∀ D ∈ Ds, w0.heap.size ≤ D) → Below w0.heap.size w0 w → Below w0.heap.size w0 (shutM Ds w)
  | [], _, _, _, _, h => h
  | D :: Ds, w, hK, hn, hD, h => by
    have hn' := List.nodup_cons.1 hn
    exact shutM_below Ds (w.putObj D (.deferred none)) (fun D' hD' => (World.putObj_heap_other (fun e => hn'.1 (by rw [← e]; exact hD'))).trans (hK D' (List.mem_cons_of_mem _ hD'))) hn'.2 (fun D' h' => hD D' (List.mem_cons_of_mem _ h')) (h.trans (belowK_b (w := w0) (Nat.le_refl _) w D _ _ (hD D (List.mem_cons_self ..)) (hK D (List.mem_cons_self ..)) rfl rfl))
/-- A law's end behind ranges over functions: the result's block holds true, the marks' blocks are shut. -/
theorem law_end {k : Nat} {P : Program} {fn : Func} {a : Act} {w W : World} (Ds : List Nat) {t : TypeId} {v0 : Value} (hres : ∀ V : World, V.cell? ⟨w.heap.size, 0, none⟩ = some (.bool true) → (results fn a.tmps).run P V = .ok (.bool true) V) (hd : a.defers = Ds.map fun D => { target := .collected D, args := #[] }) (hK : ∀ D ∈ Ds, W.heap[D]? = some (.deferred (some []))) (hn : Ds.Nodup)
    (hr : Blk W w.heap.size t #[v0]) (hb : Below w.heap.size w W) (hD : ∀ D ∈ Ds, w.heap.size ≤ D) :
    bodyPostM Fence.wide k P fn (fun e w' => e = .returned (.bool true) ∧ Below w.heap.size w w') .ret a (W.setCell ⟨w.heap.size, 0, none⟩ (.bool true)) := by
  show LeavesInM _ _ _ _ _ _ a.defers .returning _
  rw [hd]
  have hK2 : ∀ D ∈ Ds, (W.setCell ⟨w.heap.size, 0, none⟩ (.bool true)).heap[D]? = some (.deferred (some [])) := fun D h => (KeepsOthers.setCell _ _ _).same D _ (hK D h) rfl
  have hE := (shutM_blk Ds _ hK2 hn (hr.set_ 0 (.bool true))).cell 0
  simp at hE
  exact leavesM Ds _ hK2 hn (v := .bool true) (hres _ hE) ⟨rfl, shutM_below Ds _ hK2 hn hD (hb.setCell (p := ⟨w.heap.size, 0, none⟩) (Nat.le_refl _) _)⟩
/-- A part of the code that ends in its normal way alone. -/
theorem wp_thenF {P : Program} {c : Code} {K : Act → World → Prop} {Q : Exit → Act → World → Prop} {a : Act} {w : World} (h : c.wp P (Exit.then K fun _ _ _ => False) a w) : c.wp P (Exit.then K Q) a w :=
  wp_mono h (by intro e a w h; cases e <;> first | exact h | exact h.elim)
end Go.Proofs.YtmonepclhbappaaGreatDoor
/-
  How a law ends behind ranges over functions; how many paths there are.
-/
namespace Go.Proofs.YtmonepclhbappaaGreatDoor
open Go.RowKit
set_option linter.unusedVariables false

/-- A law's end behind ranges over functions, its result in block B. -/
theorem law_endAt {k : Nat} {P : Program} {fn : Func} {a : Act} {w W : World} (Ds : List Nat) (B : Nat) {t : TypeId} {v0 : Value} (hB : w.heap.size ≤ B) (hres : ∀ V : World, V.cell? ⟨B, 0, none⟩ = some (.bool true) → (results fn a.tmps).run P V = .ok (.bool true) V) (hd : a.defers = Ds.map fun D => { target := .collected D, args := #[] }) (hK : ∀ D ∈ Ds, W.heap[D]? = some (.deferred (some []))) (hn : Ds.Nodup)
    (hr : Blk W B t #[v0]) (hb : Below w.heap.size w W) (hD : ∀ D ∈ Ds, w.heap.size ≤ D) :
    bodyPostM Fence.wide k P fn (fun e w' => e = .returned (.bool true) ∧ Below w.heap.size w w') .ret a (W.setCell ⟨B, 0, none⟩ (.bool true)) := by
  show LeavesInM _ _ _ _ _ _ a.defers .returning _
  rw [hd]
  have hK2 : ∀ D ∈ Ds, (W.setCell ⟨B, 0, none⟩ (.bool true)).heap[D]? = some (.deferred (some [])) := fun D h => (KeepsOthers.setCell _ _ _).same D _ (hK D h) rfl
  have hE := (shutM_blk Ds _ hK2 hn (hr.set_ 0 (.bool true))).cell 0
  simp at hE
  exact leavesM Ds _ hK2 hn (v := .bool true) (hres _ hE) ⟨rfl, shutM_below Ds _ hK2 hn hD (hb.setCell (p := ⟨B, 0, none⟩) hB _)⟩

theorem ownK {w w' : World} {B size n : Nat} {e : TypeId} {v : Value} {xs : List Value} (h : w.ownsRow B e size v n xs) (hb : Below w.heap.size w w') : w'.ownsRow B e size v n xs := own_block h fun g hg => hb.block g (h.lt g hg).2
/-- How many paths there are at most. -/
theorem allP_pow {od : List Rw} {K : Nat} (hB : OdB K od) (h1 : 1 ≤ od.length) : (allP od).length ≤ K ^ od.length := by
  have h0 : totP od = ((allP od).length : Int) := rfl
  have h2 := sumZ_le (l := ((od.getD 0 []).map (·.1)).map (cnt od 0)) (K := ((K ^ (od.length - 1) : Nat) : Int)) fun x hx => by
    obtain ⟨b, _, rfl⟩ := List.mem_map.1 hx
    exact cnt_le hB _ 0 b (by omega)
  rw [List.length_map, List.length_map, ← totP_sum, h0] at h2
  have h3 := (hB _ (getD_memO (show 0 < od.length by omega))).1
  have h4 : (od.getD 0 []).length * K ^ (od.length - 1) ≤ K ^ od.length := by
    have e : K ^ od.length = K * K ^ (od.length - 1) := by
      conv => lhs; rw [show od.length = (od.length - 1) + 1 by omega, Nat.pow_succ, Nat.mul_comm]
    rw [e]
    exact Nat.mul_le_mul_right _ h3
  rw [← Int.natCast_mul] at h2
  omega
end Go.Proofs.YtmonepclhbappaaGreatDoor
/-
  Odags: list: a list that rises, out of a reader.
-/
namespace Go.Proofs.YtmonepclhbappaaGreatDoor
open Go.RowKit
set_option maxRecDepth 100000
set_option linter.unusedVariables false

theorem lst_nn (l : List Int) (a : Nat) : ∀ x ∈ lst l a, 0 ≤ x := by
  have key : ∀ (r : List Int) (j : Nat), ∀ x ∈ wordsL r j, 0 ≤ x := fun r j => by
    induction j with
    | zero => intro x hx; cases hx
    | succ j ih =>
      intro x hx
      rw [wordsL] at hx
      rcases List.mem_append.1 hx with hx | hx
      · exact ih x hx
      · rw [List.mem_singleton.1 hx]
        omega
  exact key _ _
theorem inc_last {xs : List Int} (h : Inc xs) {k : Nat} (hk : xs.length = k + 1) {y : Int} (hy : xs[k]? = some y) : ∀ x ∈ xs, x ≤ y := fun x hx => by
  obtain ⟨i, hi, rfl⟩ := List.mem_iff_getElem.1 hx
  obtain ⟨h1, h2⟩ := List.getElem?_eq_some_iff.1 hy
  rcases Nat.lt_or_ge i k with hlt | hge
  · have := List.pairwise_iff_getElem.1 h i k hi h1 hlt
    omega
  · obtain rfl : i = k := by omega
    omega
/-- What list gives: a list; nothing of a reader that fails; an error. -/
def ListPost (B g : Nat) (A : Option Addr) (n c a : Nat) (E : Err) (l : List Int) (w : World) (e : Ending) (w' : World) : Prop :=
  Below B w w' ∧ Asd g w w' ∧ ((∃ v xs, e = .returned (.tuple #[v, .nilIface]) ∧ w'.ownsRow w.heap.size 3 1 v xs.length (xs.map (Value.int .i64)) ∧
      ((E = .nil ∧ okAt l a 65536 ∧ xs = lst l a ∧ rightO xs ∧ Rd w' B g A n c (nxtA l a) .nil) ∨ (xs = [] ∧ (E = .nil → ¬ okAt l a 65536) ∧ ∃ a' E', rdBad E' ∧ Rd w' B g A n c a' E'))) ∨
    ∃ gv cc t, (cc = 2 ∨ cc = 3) ∧ e = .returned (.tuple #[.slice none 0 0, .iface 104 (.pointer (some ⟨gv, 0, none⟩))]) ∧ Blk w' gv 107 #[.int .i64 cc, .int .i64 0, .string t] ∧ E = .nil ∧ okAt l a 65536 ∧ ¬ rightO (lst l a) ∧ Rd w' B g A n c (nxtA l a) .nil)

set_option maxHeartbeats 8000000 in
theorem OdList_any (g B : Nat) (A : Option Addr) (n c a : Nat) (E : Err) (l : List Int) (w : World) (hR : Rd w B g A n c a E) (hE : E = .nil ∨ rdBad E) (hn : n ≤ 100000) (hnc : n ≤ c) (hc9 : c ≤ 9223372036854775807) (hl : l.length = n) (hb : Bys l) (hB : ∀ w', Below B w w' → Sl w' 1 A n (l.map (Value.int .u8))) :
    Calls Tryz.prog 99 #[.pointer (some ⟨g, 0, none⟩)] w (ListPost B g A n c a E l w) := by
  have HL := Lib.hid (List_rd g B A n c a 65536 E l w hR hE (by omega) hnc hc9 hl hb hB)
  have hBw : B ≤ w.heap.size := by
    obtain ⟨h1, _, _, ev, h4, _⟩ := hR
    exact Nat.le_trans h1 (Nat.le_of_lt h4.lt)
  have HLl := Lib.hid hl
  clear hR hE hb hB
  go_enter Tryz.func99, Tryz.ntmps99
  go_upto_region 2 with (go_at_call 54; refine HL.out.mono ?_; clear HL; rintro e w1 ⟨v, xs, rfl, hown, hb, ha, hd⟩; have HO := Lib.hid hown; have HB := Lib.hid hb; have HA := Lib.hid ha; have HD := Lib.hid hd; obtain ⟨X, xc, rfl, hsl⟩ := Sl.own hown; have HS := Lib.hid hsl; clear hown hb ha hd hsl)
  have hlen : xs.length ≤ 100000 := by
    rcases HD.out with ⟨_, h1, h2, _⟩ | ⟨h2, _⟩
    · rw [h2, wordsL_len]
      have := h1.2.2
      have := HLl.out
      omega
    · rw [h2]; simp
  have hBw1 : B ≤ w1.heap.size := Nat.le_trans hBw HB.out.size
  have HRt := Lib.hid (Right_any xs X xs.length xc w1 rfl HS.out (by omega))
  obtain ⟨k, hk⟩ : ∃ k, k = xs.length := ⟨_, rfl⟩
  by_cases hI : Inc xs
  · rw [decide_eq_true hI] at HRt
    rcases Nat.eq_zero_or_pos k with h0 | h0
    · obtain rfl : xs = [] := List.eq_nil_of_length_eq_zero (by omega)
      simp only [List.length_nil] at HRt HS HO ⊢
      clear hk h0 hlen hI
      go_wp2_with (go_at_call 122; refine HRt.out.mono ?_; clear HRt; rintro e w2 ⟨rfl, hb⟩; have HB2 := Lib.hid hb; clear hb)
      go_ret2
      have hb2 := HB2.out
      refine ⟨HB.out.trans (hb2.mono hBw1), HA.out.trans (Asd.of hb2), .inl ⟨_, [], rfl, ownK HO.out hb2, ?_⟩⟩
      rcases HD.out with ⟨d1, d2, d3, d4⟩ | ⟨d1, d2, a', E', d3, d4⟩
      · exact .inl ⟨d1, d2, d3, ⟨List.Pairwise.nil, fun x hx => by cases hx⟩, d4.keep hb2⟩
      · exact .inr ⟨rfl, d2, a', E', d3, d4.keep hb2⟩
    · obtain ⟨j, rfl⟩ : ∃ j, k = j + 1 := ⟨k - 1, by omega⟩
      obtain ⟨y, hy⟩ : ∃ y, xs[j]? = some y := ⟨_, List.getElem?_eq_getElem (by omega)⟩
      rw [← hk] at HRt HS HO hlen ⊢
      have HK := Lib.hid hk
      obtain ⟨xb, xo, rfl, _⟩ := HS.out.at_ (show 0 < j + 1 by omega)
      have HC := Lib.hid (show ∀ V, Below w1.heap.size w1 V → V.cell? ⟨xb, xo + j, none⟩ = some (.int .i64 y) from fun V hV => (HS.out.keep hV).again (by omega) (by rw [List.getElem?_map, hy]; rfl))
      have hgood : E = .nil ∧ okAt l a 65536 ∧ xs = lst l a ∧ Rd w1 B g A n c (nxtA l a) .nil := by
        rcases HD.out with ⟨d1, d2, d3, d4⟩ | ⟨d1, _⟩
        · exact ⟨d1, d2, d3, d4⟩
        · rw [d1] at hy; simp at hy
      have HGd := Lib.hid hgood
      have hw1 : IntKind.i64.wrap ((j : Int) + 1 - 1) = (j : Int) := by rw [IntKind.wrap_i64]; omega
      have hj0 : (0 : Int) ≤ (j : Int) := by omega
      have hj1 : (0 : Int) < (j : Int) + 1 := by omega
      have hj2 : (j : Int) < (j : Int) + 1 := by omega
      by_cases hy2 : 2147483647 < y
      · have HNo := Lib.hid (show ¬ rightO (lst l a) from fun h => by
          rw [← hgood.2.2.1] at h
          have := (h.2 y (List.mem_of_getElem? hy)).2
          omega)
        clear hgood hy hI hk
        go_wp2_with (first
          | (go_at_call 122; refine HRt.out.mono ?_; clear HRt; rintro e w2 ⟨rfl, hb⟩; have HB2 := Lib.hid hb; have cy := HC.out w2 hb; clear hb)
          | (go_at_call 57; refine (New_err _ _ _ _).mono ?_; rintro e w3 ⟨v, rfl, ⟨gv, rfl, hv⟩, hb⟩; have HV := Lib.hid hv; have HB3 := Lib.hid hb; clear hv hb)
          | fail)
        go_ret2
        have hb3 := HB2.out.andThen HB3.out
        exact ⟨HB.out.trans (hb3.mono hBw1), HA.out.trans (Asd.of hb3), .inr ⟨gv, 3, _, .inr rfl, rfl, HV.out, HGd.out.1, HGd.out.2.1, HNo.out, HGd.out.2.2.2.keep hb3⟩⟩
      · have HRo := Lib.hid (show rightO xs from ⟨hI, fun x hx => by
          have h1 := inc_last hI HK.out.symm hy x hx
          have h2 := lst_nn l a x (by rw [← hgood.2.2.1]; exact hx)
          unfold numOK
          omega⟩)
        clear hgood hy hI hk
        go_wp2_with (first
          | (go_at_call 122; refine HRt.out.mono ?_; clear HRt; rintro e w2 ⟨rfl, hb⟩; have HB2 := Lib.hid hb; have cy := HC.out w2 hb; clear hb)
          | fail)
        go_ret2
        have hb2 := HB2.out
        refine ⟨HB.out.trans (hb2.mono hBw1), HA.out.trans (Asd.of hb2), .inl ⟨_, xs, rfl, by rw [← HK.out]; exact ownK HO.out hb2, ?_⟩⟩
        rcases HD.out with ⟨d1, d2, d3, d4⟩ | ⟨d1, d2, a', E', d3, d4⟩
        · exact .inl ⟨d1, d2, d3, HRo.out, d4.keep hb2⟩
        · exact .inr ⟨d1, d2, a', E', d3, d4.keep hb2⟩
  · rw [decide_eq_false hI] at HRt
    have hgood : E = .nil ∧ okAt l a 65536 ∧ xs = lst l a ∧ Rd w1 B g A n c (nxtA l a) .nil := by
      rcases HD.out with ⟨d1, d2, d3, d4⟩ | ⟨d1, _⟩
      · exact ⟨d1, d2, d3, d4⟩
      · rw [d1] at hI; exact absurd List.Pairwise.nil hI
    have HNo := Lib.hid (show ¬ rightO (lst l a) from fun h => by rw [← hgood.2.2.1] at h; exact hI h.1)
    have HGd := Lib.hid hgood
    clear hgood hI hk
    go_wp2_with (first
      | (go_at_call 122; refine HRt.out.mono ?_; clear HRt; rintro e w2 ⟨rfl, hb⟩; have HB2 := Lib.hid hb; clear hb)
      | (go_at_call 57; refine (New_err _ _ _ _).mono ?_; rintro e w3 ⟨v, rfl, ⟨gv, rfl, hv⟩, hb⟩; have HV := Lib.hid hv; have HB3 := Lib.hid hb; clear hv hb)
      | fail)
    go_ret2
    have hb3 := HB2.out.andThen HB3.out
    exact ⟨HB.out.trans (hb3.mono hBw1), HA.out.trans (Asd.of hb3), .inr ⟨gv, 2, _, .inl rfl, rfl, HV.out, HGd.out.1, HGd.out.2.1, HNo.out, HGd.out.2.2.2.keep hb3⟩⟩
end Go.Proofs.YtmonepclhbappaaGreatDoor
/-
  What a round of a range over a function leaves be: all below a place, and, from another place on, cells that are no rows of rows.
-/
namespace Go.Proofs.YtmonepclhbappaaGreatDoor
open Go.RowKit
set_option linter.unusedVariables false

def KT (n₀ n₂ : Nat) (W W' : World) : Prop := Below n₀ W W' ∧ ∀ k cs t fr, n₂ ≤ k → t ≠ 22 → W.heap[k]? = some (.cells cs t fr) → W'.heap[k]? = some (.cells cs t fr)
section
variable {n₀ n₂ : Nat} {A B C W W' : World}
theorem KT.refl (n₀ n₂ : Nat) (W : World) : KT n₀ n₂ W W := ⟨Below.refl _ _, fun _ _ _ _ _ _ h => h⟩
theorem KT.trans (h : KT n₀ n₂ A B) (k : KT n₀ n₂ B C) : KT n₀ n₂ A C := ⟨h.1.trans k.1, fun j cs t fr hj ht ho => k.2 j cs t fr hj ht (h.2 j cs t fr hj ht ho)⟩
theorem KT.of_below (h : Below W.heap.size W W') (hn : n₀ ≤ W.heap.size) : KT n₀ n₂ W W' := ⟨h.mono hn, fun k cs t fr _ _ ho => (h.block k (Array.getElem?_eq_some_iff.1 ho).1).trans ho⟩
theorem KT.putObj {l : Nat} {o : Obj} (o' : Obj) (hn : n₀ ≤ l) (hl : W.heap[l]? = some o) (ho : o.isCells = false) : KT n₀ n₂ W (W.putObj l o') := by
  have hg := grownBy_putObj' W l o'
  refine ⟨⟨hg.os, hg.tape, hg.output, hg.size, fun k hk => World.putObj_heap_other (by omega)⟩, fun k cs t fr _ _ hk => ?_⟩
  by_cases e : k = l
  · subst e
    rw [hl] at hk
    cases hk
    cases ho
  · exact (World.putObj_heap_other e).trans hk
theorem KT.set {b j : Nat} (u : Value) (h0 : n₀ ≤ b) (h2 : b < n₂) : KT n₀ n₂ W (W.setCell ⟨b, j, none⟩ u) :=
  ⟨bel_set (Below.refl _ _) (p := ⟨b, j, none⟩) h0 u, fun k cs t fr hk _ ho => (Below.heap_setCell W ⟨b, j, none⟩ u k (fun e => by have e' : k = b := e; omega)).trans ho⟩
theorem KT.blk {g : Nat} {t : TypeId} {cs : Array Value} (h : KT n₀ n₂ W W') (hb : Blk W g t cs) (hg : n₂ ≤ g) (ht : t ≠ 22) : Blk W' g t cs := h.2 g cs t (0, 0) hg ht hb
theorem KT.own {n B0 : Nat} {v : Value} {xs : List Value} {e : TypeId} (h : KT n₀ n₂ W W') (hb : W.ownsRow B0 e 1 v n xs) (hg : n₂ ≤ B0) (he : e ≠ 22) : W'.ownsRow B0 e 1 v n xs := by
  refine ⟨hb.1, ?_⟩
  rcases hb.2 with h' | ⟨g, cap, cur, rfl, h1, h2, h3⟩
  · exact .inl h'
  · exact .inr ⟨g, cap, cur, rfl, h1, h.2 g _ _ _ (by omega) he h2, h3⟩
end
/-- A slice of ints that lies below n₀, or from n₂ on in a row of ints. -/
def SnT (n₀ n₂ : Nat) (W : World) (A : Option Addr) (n : Nat) (xs : List Value) : Prop := Sl W 1 A n xs ∧ ∀ x : Addr, A = some x → x.block < n₀ ∨ (n₂ ≤ x.block ∧ ∃ cs fr, W.heap[x.block]? = some (.cells cs 3 fr))
theorem SnT.keep {n₀ n₂ : Nat} {W W' : World} {A : Option Addr} {n : Nat} {xs : List Value} (h : SnT n₀ n₂ W A n xs) (hk : KT n₀ n₂ W W') : SnT n₀ n₂ W' A n xs := by
  refine ⟨⟨h.1.1, fun hn => ?_⟩, fun x hx => ?_⟩
  · obtain ⟨b, off, rfl, h2⟩ := h.1.2 hn
    refine ⟨b, off, rfl, fun j v hj => ?_⟩
    have h3 := h2 j v hj
    rcases h.2 _ rfl with h4 | ⟨h4, cs, fr, h5⟩
    · exact (hk.1.cell (p := ⟨b, off + j, none⟩) h4).trans h3
    · have h6 := hk.2 b cs _ fr h4 (by decide) h5
      exact (World.cell?_of_block (w := W) (a := ⟨b, off + j, none⟩) (h6.trans h5.symm)).trans h3
  · rcases h.2 x hx with h4 | ⟨h4, cs, fr, h5⟩
    · exact .inl h4
    · exact .inr ⟨h4, cs, fr, hk.2 _ cs _ fr h4 (by decide) h5⟩
theorem SnT.nil (n₀ n₂ : Nat) (W : World) : SnT n₀ n₂ W none 0 [] := ⟨Sl.nil _ _ _, fun x h => by cases h⟩
theorem SnT.of_own {n₀ n₂ B0 n c : Nat} {W : World} {A : Option Addr} {xs : List Value} (h : W.ownsRow B0 3 1 (.slice A n c) n xs) (hB : n₂ ≤ B0) : SnT n₀ n₂ W A n xs := by
  refine ⟨Sl.of_own h, fun x hx => ?_⟩
  subst hx
  rcases h.2 with ⟨h1, _⟩ | ⟨g, cap, cur, h1, h2, h3, _⟩
  · cases h1
  · cases h1
    exact .inr ⟨Nat.le_trans hB h2, cur, _, h3⟩
end Go.Proofs.YtmonepclhbappaaGreatDoor
