/-
  Part 16 of the proof of OdagMerge: OdBy, LawEnd, OdInj, OdT.
-/
import Derived.Test.YtmonepclhbappaaGreatDoorOdagMergeM14
import Derived.Test.YtmonepclhbappaaGreatDoorOdagMergeM15
import Derived.Test.YtmonepclhbappaaGreatDoorOdagMergeM9
import Derived.Test.YtmonepclhbappaaGreatDoorOdagMergeM8
import Derived.Test.YtmonepclhbappaaGreatDoorOdagMergeM2
import Derived.Test.YtmonepclhbappaaGreatDoorOdagMergeM12
/-
  Odags plainly: their bytes, and how they are read back.
-/
namespace Go.Proofs.YtmonepclhbappaaGreatDoor
open Go.RowKit
set_option linter.unusedVariables false

/-- A list at a place of bytes, and the place behind it. -/
def lst (l : List Int) (a : Nat) : List Int := wordsL (l.drop (a + 4)) (wordN (l.drop a))
def nxtA (l : List Int) (a : Nat) : Nat := a + 4 + 4 * wordN (l.drop a)
theorem words_take {l : List Int} (hb : Bys l) : ∀ j, 4 * j ≤ l.length → ((wordsL l j).flatMap fun x => wordL x.toNat) = l.take (4 * j)
  | 0, _ => by simp [wordsL]
  | j + 1, h => by
    rw [wordsL, List.flatMap_append, words_take hb j (by omega)]
    have e : ([((wordN (l.drop (4 * j)) : Nat) : Int)].flatMap fun x => wordL x.toNat) = (l.drop (4 * j)).take 4 := by
      rw [← wordL_of (hb.drop _) (by rw [List.length_drop]; omega)]
      simp
    rw [e, show 4 * (j + 1) = 4 * j + 4 by omega, List.take_add]
theorem enc_lst {l : List Int} (hb : Bys l) {a m : Nat} (h : okAt l a m) : l.take (nxtA l a) = l.take a ++ encW (lst l a) := by
  obtain ⟨h1, h2, h3⟩ := h
  unfold nxtA encW lst
  have hl : (wordsL (l.drop (a + 4)) (wordN (l.drop a))).length = wordN (l.drop a) := wordsL_len _ _
  rw [hl, words_take (hb.drop _) _ (by rw [List.length_drop]; omega), wordL_of (hb.drop a) (by rw [List.length_drop]; omega), Nat.add_assoc, List.take_add, List.take_add, List.drop_drop]
theorem nxtA_le {l : List Int} {a m : Nat} (h : okAt l a m) : nxtA l a ≤ l.length := h.2.2
theorem lst_len {l : List Int} {a m : Nat} (h : okAt l a m) : (lst l a).length ≤ m := by unfold lst; rw [wordsL_len]; exact h.2.1
theorem words_flat {xs : List Int} (hf : ∀ x ∈ xs, fits x) (rest : List Int) : ∀ j, j ≤ xs.length → wordsL ((xs.flatMap fun x => wordL x.toNat) ++ rest) j = xs.take j
  | 0, _ => by simp [wordsL]
  | j + 1, h => by
    have hj : j < xs.length := by omega
    rw [wordsL, words_flat hf rest j (by omega), List.take_succ_eq_append_getElem hj]
    congr 1
    have hx := hf _ (List.getElem_mem hj)
    have e : ((xs.flatMap fun x => wordL x.toNat) ++ rest).drop (4 * j) = wordL xs[j].toNat ++ (((xs.drop (j + 1)).flatMap fun x => wordL x.toNat) ++ rest) := by
      have e1 : xs.flatMap (fun x => wordL x.toNat) = ((xs.take j).flatMap fun x => wordL x.toNat) ++ (wordL xs[j].toNat ++ (xs.drop (j + 1)).flatMap fun x => wordL x.toNat) := by
        conv => lhs; rw [← List.take_append_drop j xs, List.drop_eq_getElem_cons hj]
        rw [List.flatMap_append, List.flatMap_cons]
      have e2 : ((xs.take j).flatMap fun x => wordL x.toNat).length = 4 * j := by rw [encF_len, List.length_take]; omega
      rw [e1, List.append_assoc, ← e2, List.drop_left, List.append_assoc]
    rw [e, wordN_of (by have := hx.1; have := hx.2; omega)]
    have := hx.1
    congr 1
    omega
theorem lst_enc {xs : List Int} (hf : ∀ x ∈ xs, fits x) (hn : xs.length < 4294967296) (pre rest : List Int) {l : List Int} (hl : l = pre ++ (encW xs ++ rest)) : wordN (l.drop pre.length) = xs.length ∧ lst l pre.length = xs ∧ nxtA l pre.length = (pre ++ encW xs).length := by
  have e1 : l.drop pre.length = wordL xs.length ++ ((xs.flatMap fun x => wordL x.toNat) ++ rest) := by rw [hl, List.drop_left, encW, List.append_assoc]
  have e2 : wordN (l.drop pre.length) = xs.length := by rw [e1, wordN_of hn]
  have e3 : l.drop (pre.length + 4) = (xs.flatMap fun x => wordL x.toNat) ++ rest := by
    rw [← List.drop_drop, e1]
    exact List.drop_left (l₁ := wordL xs.length)
  refine ⟨e2, ?_, ?_⟩
  · unfold lst
    rw [e2, e3, words_flat hf rest _ (Nat.le_refl _), List.take_of_length_le (Nat.le_refl _)]
  · unfold nxtA
    rw [e2, List.length_append, encW_len]
    omega
theorem ok_enc {xs : List Int} (hf : ∀ x ∈ xs, fits x) {m : Nat} (hm : xs.length ≤ m) (h32 : m < 4294967296) (pre rest : List Int) {l : List Int} (hl : l = pre ++ (encW xs ++ rest)) : okAt l pre.length m := by
  obtain ⟨h1, _, _⟩ := lst_enc hf (by omega) pre rest hl
  have h2 : l.length = pre.length + (4 + 4 * xs.length + rest.length) := by rw [hl, List.length_append, List.length_append, encW_len]
  unfold okAt
  omega

/-- A list that may be a row, or links. -/
def rightO (xs : List Int) : Prop := Inc xs ∧ ∀ x ∈ xs, numOK x
theorem rightO.fits {xs : List Int} (h : rightO xs) : ∀ x ∈ xs, fits x := fun x hx => by have := h.2 x hx; unfold numOK at this; unfold Go.Proofs.YtmonepclhbappaaGreatDoor.fits; omega
def keysR (r : Rw) : List Int := r.map (·.1)
/-- Links of a row in bytes; an odag in bytes. -/
def encLk (r : Rw) : List Int := r.flatMap fun q => encW q.2
def bytesO (od : List Rw) : List Int := (wordL od.length ++ (od.map keysR).flatMap encW) ++ (od.take (od.length - 1)).flatMap encLk
structure WfO (od : List Rw) (n : Nat) : Prop where
  len : od.length = n
  h1 : 1 ≤ n
  h8 : n ≤ 8
  keys : ∀ i, i < n → rightO (keysR (od.getD i [])) ∧ (od.getD i []).length ≤ 65536
  lnk : ∀ i, i + 1 < n → ∀ q ∈ od.getD i [], (rightO q.2 ∧ q.2.length ≤ 65536) ∧ ∀ b ∈ q.2, b ∈ keysR (od.getD (i + 1) [])
  last : ∀ q ∈ od.getD (n - 1) [], q.2 = []

theorem split_at_i {α : Type} {L : List α} {i : Nat} {x : α} (h : L[i]? = some x) : L = L.take i ++ x :: L.drop (i + 1) := by
  obtain ⟨h1, h2⟩ := List.getElem?_eq_some_iff.1 h
  conv => lhs; rw [← List.take_append_drop i L, List.drop_eq_getElem_cons h1, h2]

theorem getD_in {α : Type} {L : List α} {i : Nat} {x : α} (h : i < L.length) : L.getD i x = L[i] := by rw [List.getD_eq_getElem?_getD, List.getElem?_eq_getElem h]; rfl
theorem keys_getD {od : List Rw} {i : Nat} (h : i < od.length) : (od.map keysR).getD i [] = keysR (od.getD i []) := by
  rw [getD_in (by rw [List.length_map]; exact h), getD_in h, List.getElem_map]
/-- Rows read so far. -/
def RI (l : List Int) (n i : Nat) (E : Err) (a : Nat) (KL : List (List Int)) : Prop :=
  KL.length = i ∧ (∀ xs ∈ KL, rightO xs ∧ xs.length ≤ 65536) ∧ (E = .nil → a ≤ l.length ∧ l.take a = wordL n ++ KL.flatMap encW) ∧ ∀ od, WfO od n → bytesO od = l → E = .nil ∧ KL = (od.take i).map keysR
section
variable {l : List Int} {n i a : Nat} {E : Err} {KL : List (List Int)}
theorem take_len (h : a ≤ l.length) : (l.take a).length = a := by rw [List.length_take]; omega
theorem RI.at_ (h : RI l n i E a KL) (hi : i < n) {od : List Rw} (hw : WfO od n) (hb : bytesO od = l) : okAt l a 65536 ∧ lst l a = keysR (od.getD i []) := by
  obtain ⟨h1, h2, h3, h4⟩ := h
  obtain ⟨hE, hK⟩ := h4 od hw hb
  obtain ⟨ha, ht⟩ := h3 hE
  have hx : (od.map keysR)[i]? = some (keysR (od.getD i [])) := by
    rw [List.getElem?_map, List.getElem?_eq_getElem (by rw [hw.len]; exact hi), List.getD_eq_getElem?_getD, List.getElem?_eq_getElem (by rw [hw.len]; exact hi)]
    rfl
  obtain ⟨rest, hr⟩ : ∃ rest, l = l.take a ++ (encW (keysR (od.getD i [])) ++ rest) := by
    refine ⟨((od.map keysR).drop (i + 1)).flatMap encW ++ (od.take (od.length - 1)).flatMap encLk, ?_⟩
    rw [ht, hK, List.map_take]
    conv => lhs; rw [← hb, bytesO, split_at_i hx]
    rw [List.flatMap_append, List.flatMap_cons, hw.len]
    simp only [List.append_assoc]
  have hk := hw.keys i hi
  have hl : (keysR (od.getD i [])).length ≤ 65536 := by unfold keysR; rw [List.length_map]; exact hk.2
  have e := take_len ha
  have k1 := ok_enc hk.1.fits hl (by omega) _ rest hr
  have k2 := (lst_enc hk.1.fits (by omega) _ rest hr).2.1
  rw [e] at k1 k2
  exact ⟨k1, k2⟩
theorem RI.good (h : RI l n i E a KL) (hi : i < n) (hby : Bys l) (hE : E = .nil) (hok : okAt l a 65536) (hr : rightO (lst l a)) : RI l n (i + 1) .nil (nxtA l a) (KL ++ [lst l a]) := by
  obtain ⟨h1, h2, h3, h4⟩ := id h
  refine ⟨by rw [List.length_append, h1]; rfl, fun xs hxs => ?_, fun _ => ⟨nxtA_le hok, ?_⟩, fun od hw hb => ⟨rfl, ?_⟩⟩
  · rcases List.mem_append.1 hxs with hxs | hxs
    · exact h2 xs hxs
    · rw [List.mem_singleton.1 hxs]
      exact ⟨hr, lst_len hok⟩
  · rw [enc_lst hby hok, (h3 hE).2, List.flatMap_append, List.append_assoc]
    simp
  · have h5 := (h.at_ hi hw hb).2
    rw [List.take_succ_eq_append_getElem (by rw [hw.len]; exact hi), List.map_append, ← (h4 od hw hb).2, h5, List.getD_eq_getElem?_getD, List.getElem?_eq_getElem (by rw [hw.len]; exact hi)]
    rfl
theorem RI.bad (h : RI l n i E a KL) (hi : i < n) (hno : E = .nil → ¬ okAt l a 65536) {E' : Err} {a' : Nat} (hE' : E' ≠ .nil) : RI l n (i + 1) E' a' (KL ++ [[]]) := by
  obtain ⟨h1, h2, h3, h4⟩ := id h
  refine ⟨by rw [List.length_append, h1]; rfl, fun xs hxs => ?_, fun e => absurd e hE', fun od hw hb => ?_⟩
  · rcases List.mem_append.1 hxs with hxs | hxs
    · exact h2 xs hxs
    · rw [List.mem_singleton.1 hxs]
      exact ⟨⟨List.Pairwise.nil, fun x hx => by cases hx⟩, by simp⟩
  · exact absurd (h.at_ hi hw hb).1 (hno (h4 od hw hb).1)
theorem RI.stop (h : RI l n i E a KL) (hi : i < n) (hno : ¬ rightO (lst l a)) : ∀ od, WfO od n → bytesO od ≠ l := fun od hw hb => by
  have h5 := (h.at_ hi hw hb).2
  rw [h5] at hno
  exact hno (hw.keys i hi).1
end
/-- A row without links. -/
def bare (ks : List Int) : Rw := ks.map fun a => (a, [])
theorem keys_bare (ks : List Int) : keysR (bare ks) = ks := by
  unfold keysR bare
  rw [List.map_map]
  exact List.map_id ks

/-- Rows of links read so far. -/
def RO (l : List Int) (n : Nat) (KL : List (List Int)) (i : Nat) (E : Err) (a : Nat) (od' : List Rw) : Prop :=
  od'.length = n ∧ od'.map keysR = KL ∧ (∀ j, j < i → ∀ q ∈ od'.getD j [], (rightO q.2 ∧ q.2.length ≤ 65536) ∧ ∀ b ∈ q.2, b ∈ KL.getD (j + 1) []) ∧ (∀ j, i ≤ j → j < n → od'.getD j [] = bare (KL.getD j [])) ∧
  (E = .nil → a ≤ l.length ∧ l.take a = (wordL n ++ KL.flatMap encW) ++ (od'.take i).flatMap encLk) ∧ ∀ od, WfO od n → bytesO od = l → E = .nil ∧ KL = od.map keysR ∧ od'.take i = od.take i
/-- Links read so far in row i. -/
def RN (l : List Int) (n : Nat) (KL : List (List Int)) (i k : Nat) (E : Err) (a : Nat) (od' : List Rw) (d : Rw) : Prop :=
  keysR d = (KL.getD i []).take k ∧ (∀ q ∈ d, (rightO q.2 ∧ q.2.length ≤ 65536) ∧ ∀ b ∈ q.2, b ∈ KL.getD (i + 1) []) ∧
  (E = .nil → a ≤ l.length ∧ l.take a = ((wordL n ++ KL.flatMap encW) ++ (od'.take i).flatMap encLk) ++ encLk d) ∧ ∀ od, WfO od n → bytesO od = l → E = .nil ∧ KL = od.map keysR ∧ od'.take i = od.take i ∧ d = (od.getD i []).take k
section
variable {l : List Int} {n i k a a0 : Nat} {E E' : Err} {KL : List (List Int)} {od' : List Rw} {d : Rw}
theorem RI.done (h : RI l n n E a KL) (h1 : 1 ≤ n) : RO l n KL 0 E a (KL.map bare) := by
  obtain ⟨g1, g2, g3, g4⟩ := h
  refine ⟨by rw [List.length_map]; exact g1, ?_, fun j hj => absurd hj (Nat.not_lt_zero _), fun j _ hj => ?_, fun e => ⟨(g3 e).1, ?_⟩, fun od hw hb => ⟨(g4 od hw hb).1, ?_, rfl⟩⟩
  · rw [List.map_map]
    conv => rhs; rw [← List.map_id KL]
    refine List.map_congr_left fun x _ => ?_
    exact keys_bare x
  · rw [List.getD_eq_getElem?_getD, List.getElem?_map, List.getD_eq_getElem?_getD, List.getElem?_eq_getElem (by omega)]
    rfl
  · rw [List.take_zero, List.flatMap_nil, List.append_nil]
    exact (g3 e).2
  · have := (g4 od hw hb).2
    rw [List.take_of_length_le (by rw [hw.len]; exact Nat.le_refl _)] at this
    exact this
theorem RO.begin (h : RO l n KL i E a od') : RN l n KL i 0 E a od' [] := by
  obtain ⟨g1, g2, g3, g4, g5, g6⟩ := h
  refine ⟨by rw [List.take_zero]; rfl, fun q hq => (by cases hq), fun e => ⟨(g5 e).1, ?_⟩, fun od hw hb => ⟨(g6 od hw hb).1, (g6 od hw hb).2.1, (g6 od hw hb).2.2, by rw [List.take_zero]⟩⟩
  rw [encLk, List.flatMap_nil, List.append_nil]
  exact (g5 e).2
theorem RN.at_ (h : RN l n KL i k E a od' d) (hi : i + 1 < n) (hk : k < (KL.getD i []).length) {od : List Rw} (hw : WfO od n) (hb : bytesO od = l) : ∃ q, (od.getD i [])[k]? = some q ∧ okAt l a 65536 ∧ lst l a = q.2 := by
  obtain ⟨h1, h2, h3, h4⟩ := h
  obtain ⟨hE, hK, hT, hD⟩ := h4 od hw hb
  obtain ⟨ha, ht⟩ := h3 hE
  have hio : i < od.length := by rw [hw.len]; omega
  have hgi : od[i]? = some (od.getD i []) := by rw [List.getD_eq_getElem?_getD, List.getElem?_eq_getElem hio]; rfl
  have hkl : KL.getD i [] = keysR (od.getD i []) := by
    rw [hK, List.getD_eq_getElem?_getD, List.getElem?_map, hgi]
    rfl
  rw [hkl] at hk
  unfold keysR at hk
  rw [List.length_map] at hk
  refine ⟨(od.getD i [])[k], List.getElem?_eq_getElem hk, ?_⟩
  have hqm := List.getElem_mem hk
  have hqx : (od.getD i [])[k]? = some (od.getD i [])[k] := List.getElem?_eq_getElem hk
  generalize (od.getD i [])[k] = q at *
  obtain ⟨⟨hq1, hq2⟩, _⟩ := hw.lnk i hi q hqm
  have hti : (od.take (od.length - 1))[i]? = some (od.getD i []) := by rw [List.getElem?_take, if_pos (by rw [hw.len]; omega), hgi]
  obtain ⟨rest, hr⟩ : ∃ rest, l = l.take a ++ (encW q.2 ++ rest) := by
    refine ⟨encLk ((od.getD i []).drop (k + 1)) ++ ((od.take (od.length - 1)).drop (i + 1)).flatMap encLk, ?_⟩
    rw [ht, hT, hD, hK]
    conv => lhs; rw [← hb, bytesO, split_at_i hti]
    have e1 : encLk (od.getD i []) = encLk ((od.getD i []).take k) ++ (encW q.2 ++ encLk ((od.getD i []).drop (k + 1))) := by
      conv => lhs; rw [split_at_i hqx]
      unfold encLk
      rw [List.flatMap_append, List.flatMap_cons]
    have e2 : (od.take (od.length - 1)).take i = od.take i := by rw [List.take_take, Nat.min_eq_left (by rw [hw.len]; omega)]
    rw [List.flatMap_append, List.flatMap_cons, e1, e2, hw.len]
    simp only [List.append_assoc]
  have e := take_len ha
  have k1 := ok_enc hq1.fits hq2 (by omega) _ rest hr
  have k2 := (lst_enc hq1.fits (by omega) _ rest hr).2.1
  rw [e] at k1 k2
  exact ⟨k1, k2⟩
theorem RN.good (h : RN l n KL i k E a od' d) (hi : i + 1 < n) {y : Int} (hy : (KL.getD i [])[k]? = some y) (hby : Bys l) (hE : E = .nil) (hok : okAt l a 65536) (hr : rightO (lst l a)) (hin : ∀ b ∈ lst l a, b ∈ KL.getD (i + 1) []) : RN l n KL i (k + 1) .nil (nxtA l a) od' (d ++ [(y, lst l a)]) := by
  have hk := (List.getElem?_eq_some_iff.1 hy).1
  obtain ⟨h1, h2, h3, h4⟩ := id h
  refine ⟨?_, fun q hq => ?_, fun _ => ⟨nxtA_le hok, ?_⟩, fun od hw hb => ?_⟩
  · unfold keysR at h1 ⊢
    rw [List.map_append, h1, List.take_succ_eq_append_getElem hk, (List.getElem?_eq_some_iff.1 hy).2]
    rfl
  · rcases List.mem_append.1 hq with hq | hq
    · exact h2 q hq
    · rw [List.mem_singleton.1 hq]
      exact ⟨⟨hr, lst_len hok⟩, hin⟩
  · rw [enc_lst hby hok, (h3 hE).2, encLk, encLk, List.flatMap_append, List.append_assoc]
    simp
  · obtain ⟨q, hq, _, hl⟩ := h.at_ hi hk hw hb
    obtain ⟨k1, k2, k3, k4⟩ := h4 od hw hb
    refine ⟨rfl, k2, k3, ?_⟩
    obtain ⟨g1, g2⟩ := List.getElem?_eq_some_iff.1 hq
    rw [List.take_succ_eq_append_getElem g1, ← k4, g2, hl]
    have hyq : y = q.1 := by
      rw [k2, keys_getD (by rw [hw.len]; omega)] at hy
      unfold keysR at hy
      rw [List.getElem?_map, hq] at hy
      exact (Option.some.inj hy).symm
    rw [hyq]
theorem RN.bad (h : RN l n KL i k E a od' d) (hi : i + 1 < n) {y : Int} (hy : (KL.getD i [])[k]? = some y) (hno : E = .nil → ¬ okAt l a 65536) {a' : Nat} (hE' : E' ≠ .nil) : RN l n KL i (k + 1) E' a' od' (d ++ [(y, [])]) := by
  have hk := (List.getElem?_eq_some_iff.1 hy).1
  obtain ⟨h1, h2, h3, h4⟩ := id h
  refine ⟨?_, fun q hq => ?_, fun e => absurd e hE', fun od hw hb => ?_⟩
  · unfold keysR at h1 ⊢
    rw [List.map_append, h1, List.take_succ_eq_append_getElem hk, (List.getElem?_eq_some_iff.1 hy).2]
    rfl
  · rcases List.mem_append.1 hq with hq | hq
    · exact h2 q hq
    · rw [List.mem_singleton.1 hq]
      exact ⟨⟨⟨List.Pairwise.nil, fun x hx => by cases hx⟩, by simp⟩, fun b hb => by cases hb⟩
  · obtain ⟨q, hq, hok, _⟩ := h.at_ hi hk hw hb
    exact absurd hok (hno (h4 od hw hb).1)
theorem RN.stop (h : RN l n KL i k E a od' d) (hi : i + 1 < n) {y : Int} (hy : (KL.getD i [])[k]? = some y) (hno : ¬ (rightO (lst l a) ∧ ∀ b ∈ lst l a, b ∈ KL.getD (i + 1) [])) : ∀ od, WfO od n → bytesO od ≠ l := fun od hw hb => by
  have hk := (List.getElem?_eq_some_iff.1 hy).1
  obtain ⟨q, hq, _, hl⟩ := h.at_ hi hk hw hb
  obtain ⟨_, k2, _, _⟩ := h.2.2.2 od hw hb
  have h5 := hw.lnk i hi q (List.mem_of_getElem? hq)
  have e : KL.getD (i + 1) [] = keysR (od.getD (i + 1) []) := by
    rw [k2, List.getD_eq_getElem?_getD, List.getElem?_map, List.getD_eq_getElem?_getD, List.getElem?_eq_getElem (by rw [hw.len]; exact hi)]
    rfl
  rw [hl, e] at hno
  exact hno ⟨h5.1.1, h5.2⟩
/-- A row is through. -/
theorem RN.next (h : RN l n KL i k E a od' d) (hO : RO l n KL i E' a0 od') (hi : i + 1 < n) (hk : k = (KL.getD i []).length) : RO l n KL (i + 1) E a (od'.set i d) := by
  obtain ⟨h1, h2, h3, h4⟩ := h
  obtain ⟨g1, g2, g3, g4, g5, g6⟩ := hO
  have hkd : keysR d = KL.getD i [] := by rw [h1, hk, List.take_of_length_le (Nat.le_refl _)]
  have hio : i < od'.length := by omega
  have eset : (od'.set i d).take (i + 1) = od'.take i ++ [d] := by
    rw [List.take_succ_eq_append_getElem (by rw [List.length_set]; exact hio), List.getElem_set_self, List.take_set_of_le (Nat.le_refl _)]
  have hget : ∀ j, (od'.set i d).getD j [] = if i = j then d else od'.getD j [] := fun j => by
    rw [List.getD_eq_getElem?_getD, List.getElem?_set]
    split
    · rename_i e
      subst e
      simp
    · rw [List.getD_eq_getElem?_getD]
  refine ⟨by rw [List.length_set]; exact g1, ?_, fun j hj q hq => ?_, fun j hj hjn => ?_, fun e => ⟨(h3 e).1, ?_⟩, fun od hw hb => ?_⟩
  · rw [List.map_set, g2, hkd]
    have hil : i < KL.length := by rw [← g2, List.length_map]; exact hio
    rw [List.getD_eq_getElem?_getD, List.getElem?_eq_getElem hil]
    exact List.set_getElem_self hil
  · rw [hget] at hq
    split at hq
    · rename_i e
      subst e
      exact h2 q hq
    · exact g3 j (by omega) q hq
  · rw [hget, if_neg (by omega)]
    exact g4 j (by omega) hjn
  · rw [(h3 e).2, eset, List.flatMap_append, List.append_assoc]
    simp
  · obtain ⟨k1, k2, k3, k4⟩ := h4 od hw hb
    refine ⟨k1, k2, ?_⟩
    have hil : i < od.length := by rw [hw.len]; omega
    have hlen : (od.getD i []).length = k := by
      rw [hk, k2, keys_getD hil]
      simp [keysR]
    rw [getD_in hil] at hlen
    rw [getD_in hil] at k4
    rw [eset, k3, k4, List.take_succ_eq_append_getElem hil, List.take_of_length_le (i := k) (by omega)]
/-- All is read. -/
theorem RO.done (h : RO l n KL (n - 1) E a od') (hK : ∀ xs ∈ KL, rightO xs ∧ xs.length ≤ 65536) (h1 : 1 ≤ n) (h8 : n ≤ 8) : WfO od' n ∧ (E = .nil → a ≤ l.length ∧ l.take a = bytesO od') ∧ ∀ od, WfO od n → bytesO od = l → E = .nil ∧ od' = od := by
  obtain ⟨g1, g2, g3, g4, g5, g6⟩ := h
  have hrow : ∀ i, i < n → KL.getD i [] = keysR (od'.getD i []) := fun i hi => by
    rw [← g2, List.getD_eq_getElem?_getD, List.getElem?_map, List.getD_eq_getElem?_getD, List.getElem?_eq_getElem (by omega)]
    rfl
  have hlast := g4 (n - 1) (Nat.le_refl _) (by omega)
  refine ⟨⟨g1, h1, h8, fun i hi => ?_, fun i hi q hq => ?_, fun q hq => ?_⟩, fun e => ⟨(g5 e).1, ?_⟩, fun od hw hb => ⟨(g6 od hw hb).1, ?_⟩⟩
  · have hm : keysR (od'.getD i []) ∈ KL := by
      rw [← g2, List.getD_eq_getElem?_getD, List.getElem?_eq_getElem (by omega)]
      exact List.mem_map.2 ⟨_, List.getElem_mem _, rfl⟩
    have := hK _ hm
    exact ⟨this.1, by have h5 := this.2; unfold keysR at h5; rwa [List.length_map] at h5⟩
  · have := g3 i (by omega) q hq
    rw [hrow (i + 1) hi] at this
    exact this
  · rw [hlast] at hq
    obtain ⟨x, _, rfl⟩ := List.mem_map.1 hq
    rfl
  · rw [(g5 e).2, bytesO, g1, g2]
  · obtain ⟨k1, k2, k3⟩ := g6 od hw hb
    refine List.ext_getElem? fun j => ?_
    rcases Nat.lt_or_ge j (n - 1) with hj | hj
    · have := congrArg (·[j]?) k3
      simpa [List.getElem?_take, hj] using this
    · rcases Nat.lt_or_ge j n with hjn | hjn
      · obtain rfl : j = n - 1 := by omega
        have hl2 := hw.last
        have e1 : od'[n - 1]? = some (od'.getD (n - 1) []) := by rw [List.getD_eq_getElem?_getD, List.getElem?_eq_getElem (by omega)]; rfl
        have e2 : od[n - 1]? = some (od.getD (n - 1) []) := by rw [List.getD_eq_getElem?_getD, List.getElem?_eq_getElem (by rw [hw.len]; omega)]; rfl
        rw [e1, e2, hlast]
        congr 1
        have e3 : KL.getD (n - 1) [] = keysR (od.getD (n - 1) []) := by rw [k2, List.getD_eq_getElem?_getD, List.getElem?_map, e2]; rfl
        rw [e3]
        unfold bare keysR
        rw [List.map_map]
        conv => rhs; rw [← List.map_id (od.getD (n - 1) [])]
        refine List.map_congr_left fun q hq => ?_
        have := hl2 q hq
        simp [← this]
      · rw [List.getElem?_eq_none (by omega), List.getElem?_eq_none (by rw [hw.len]; omega)]
end
end Go.Proofs.YtmonepclhbappaaGreatDoor
/-
  How a law ends behind ranges over functions; how many paths there are.
-/
namespace Go.Proofs.YtmonepclhbappaaGreatDoor
open Go.RowKit
set_option linter.unusedVariables false

/-- A law's end behind ranges over functions, its result in block B. -/
theorem law_endAt {k : Nat} {P : Program} {fn : Func} {a : Act} {w W : World} (Ds : List Nat) (B : Nat) {t : TypeId} {v0 : Value} (hB : w.heap.size ≤ B) (hres : ∀ V : World, V.cell? ⟨B, 0, none⟩ = some (.bool true) → (results fn a.tmps).run P V = .ok (.bool true) V) (hd : a.defers = Ds.map fun D => { target := .collected D, args := #[] }) (hK : ∀ D ∈ Ds, W.heap[D]? = some (.deferred (some []))) (hn : Ds.Nodup)
    (hr : Blk W B t #[v0]) (hb : Below w.heap.size w W) (hD : ∀ D ∈ Ds, w.heap.size ≤ D) :
    bodyPostM Fence.wide k P fn (fun e w' => e = .returned (.bool true) ∧ Below w.heap.size w w') .ret a (W.setCell ⟨B, 0, none⟩ (.bool true)) := by
  show LeavesInM _ _ _ _ _ _ a.defers .returning _
  rw [hd]
  have hK2 : ∀ D ∈ Ds, (W.setCell ⟨B, 0, none⟩ (.bool true)).heap[D]? = some (.deferred (some [])) := fun D h => (KeepsOthers.setCell _ _ _).same D _ (hK D h) rfl
  have hE := (shutM_blk Ds _ hK2 hn (hr.set_ 0 (.bool true))).cell 0
  simp at hE
  exact leavesM Ds _ hK2 hn (v := .bool true) (hres _ hE) ⟨rfl, shutM_below Ds _ hK2 hn hD (hb.setCell (p := ⟨B, 0, none⟩) hB _)⟩

theorem ownK {w w' : World} {B size n : Nat} {e : TypeId} {v : Value} {xs : List Value} (h : w.ownsRow B e size v n xs) (hb : Below w.heap.size w w') : w'.ownsRow B e size v n xs := own_block h fun g hg => hb.block g (h.lt g hg).2
/-- How many paths there are at most. -/
theorem allP_pow {od : List Rw} {K : Nat} (hB : OdB K od) (h1 : 1 ≤ od.length) : (allP od).length ≤ K ^ od.length := by
  have h0 : totP od = ((allP od).length : Int) := rfl
  have h2 := sumZ_le (l := ((od.getD 0 []).map (·.1)).map (cnt od 0)) (K := ((K ^ (od.length - 1) : Nat) : Int)) fun x hx => by
    obtain ⟨b, _, rfl⟩ := List.mem_map.1 hx
    exact cnt_le hB _ 0 b (by omega)
  rw [List.length_map, List.length_map, ← totP_sum, h0] at h2
  have h3 := (hB _ (getD_memO (show 0 < od.length by omega))).1
  have h4 : (od.getD 0 []).length * K ^ (od.length - 1) ≤ K ^ od.length := by
    have e : K ^ od.length = K * K ^ (od.length - 1) := by
      conv => lhs; rw [show od.length = (od.length - 1) + 1 by omega, Nat.pow_succ, Nat.mul_comm]
    rw [e]
    exact Nat.mul_le_mul_right _ h3
  rw [← Int.natCast_mul] at h2
  omega
end Go.Proofs.YtmonepclhbappaaGreatDoor
/-
  Odags plainly: bytes tell an odag; odags of lists have bytes that can be read.
-/
namespace Go.Proofs.YtmonepclhbappaaGreatDoor
open Go.RowKit
set_option linter.unusedVariables false

theorem flat_bys {α : Type} {f : α → List Int} : ∀ {L : List α}, (∀ x ∈ L, Bys (f x)) → Bys (L.flatMap f)
  | [], _ => Bys.nil
  | x :: L, h => by
    rw [List.flatMap_cons]
    exact (h x (List.mem_cons_self ..)).append (flat_bys fun y hy => h y (List.mem_cons_of_mem _ hy))
theorem encW_bys (l : List Int) : Bys (encW l) := (wordL_bys _).append (flat_bys fun x _ => wordL_bys _)
theorem bytesO_bys (od : List Rw) : Bys (bytesO od) := ((wordL_bys _).append (flat_bys fun x _ => encW_bys x)).append (flat_bys fun r _ => flat_bys fun q _ => encW_bys q.2)
theorem bytesO_num {od : List Rw} {N : Nat} (h : WfO od N) : 4 ≤ (bytesO od).length ∧ wordN (bytesO od) = N ∧ (bytesO od).take 4 = wordL N := by
  have h8 := h.h8
  have e : bytesO od = wordL od.length ++ ((od.map keysR).flatMap encW ++ (od.take (od.length - 1)).flatMap encLk) := by unfold bytesO; rw [List.append_assoc]
  rw [e]
  refine ⟨by rw [List.length_append, wordL_len]; omega, ?_, ?_⟩
  · rw [wordN_of (by rw [h.len]; omega), h.len]
  · rw [h.len]
    exact List.take_left' (wordL_len _)
/-- The bytes tell the odag. -/
theorem bytesO_inj {od od2 : List Rw} {N N2 : Nat} (h : WfO od N) (h2 : WfO od2 N2) (e : bytesO od = bytesO od2) : od = od2 := by
  obtain ⟨k1, k2, k3⟩ := bytesO_num h
  obtain rfl : N = N2 := by rw [← k2, e]; exact (bytesO_num h2).2.1
  obtain ⟨l, hl⟩ : ∃ l, l = bytesO od := ⟨_, rfl⟩
  have hby : Bys l := by rw [hl]; exact bytesO_bys od
  have hrows : ∀ i, i ≤ N → ∃ a KL, RI l N i .nil a KL := fun i => by
    induction i with
    | zero =>
      intro _
      refine ⟨4, [], rfl, (fun xs h => by cases h), (fun _ => ⟨by rw [hl]; exact k1, ?_⟩), fun od' _ _ => ⟨rfl, rfl⟩⟩
      rw [hl, k3, List.flatMap_nil, List.append_nil]
    | succ i ih =>
      intro hi
      obtain ⟨a, KL, hR⟩ := ih (by omega)
      obtain ⟨hok, hlst⟩ := hR.at_ (by omega) h hl.symm
      exact ⟨_, _, hR.good (by omega) hby rfl hok (by rw [hlst]; exact (h.keys i (by omega)).1)⟩
  obtain ⟨a, KL, hR⟩ := hrows N (Nat.le_refl _)
  have hKg := hR.2.1
  have hKL : KL = od.map keysR := by
    have := (hR.2.2.2 od h hl.symm).2
    rw [List.take_of_length_le (by rw [h.len]; exact Nat.le_refl _)] at this
    exact this
  have hO := hR.done h.h1
  have hlinks : ∀ i, i ≤ N - 1 → ∃ a od', RO l N KL i .nil a od' := fun i => by
    induction i with
    | zero => exact fun _ => ⟨_, _, hO⟩
    | succ i ih =>
      intro hi
      obtain ⟨a0, od', hRO⟩ := ih (by omega)
      have hi1 : i + 1 < N := by omega
      have hil : i < od.length := by rw [h.len]; omega
      have hkg : KL.getD i [] = keysR (od.getD i []) := by rw [hKL, keys_getD hil]
      have hrow : ∀ k, k ≤ (KL.getD i []).length → ∃ a d, RN l N KL i k .nil a od' d := fun k => by
        induction k with
        | zero => exact fun _ => ⟨_, _, hRO.begin⟩
        | succ k ihk =>
          intro hk
          obtain ⟨a1, d, hRN⟩ := ihk (by omega)
          obtain ⟨q, hq, hok, hlst⟩ := hRN.at_ hi1 (by omega) h hl.symm
          have hlk := h.lnk i hi1 q (List.mem_of_getElem? hq)
          have hk2 : KL.getD (i + 1) [] = keysR (od.getD (i + 1) []) := by rw [hKL, keys_getD (by rw [h.len]; exact hi1)]
          exact ⟨_, _, hRN.good hi1 (y := (KL.getD i [])[k]) (List.getElem?_eq_getElem (by omega)) hby rfl hok (by rw [hlst]; exact hlk.1.1) (by rw [hlst, hk2]; exact hlk.2)⟩
      obtain ⟨a1, d, hRN⟩ := hrow _ (Nat.le_refl _)
      exact ⟨_, _, hRN.next hRO hi1 rfl⟩
  obtain ⟨a1, od', hRO⟩ := hlinks (N - 1) (Nat.le_refl _)
  obtain ⟨_, _, hT⟩ := hRO.done hKg h.h1 h.h8
  rw [← (hT od h hl.symm).2, (hT od2 h2 (by rw [hl, e])).2]
theorem wf_odOf {n : Nat} {ls : List (List Int)} (h : ∀ x ∈ ls, x.length = n) (hO : OdOK (odOf n ls) n) : WfO (odOf n ls) n where
  len := hO.len
  h1 := hO.h1
  h8 := hO.h8
  keys := fun i hi => by
    have hm := getD_memO (show i < (odOf n ls).length by rw [hO.len]; exact hi)
    refine ⟨⟨List.pairwise_map.2 (hO.S i (by rw [hO.len]; exact hi)).1, fun x hx => ?_⟩, by have := (hO.B _ hm).1; omega⟩
    obtain ⟨q, hq, rfl⟩ := List.mem_map.1 hx
    exact (hO.Nu _ hm q hq).1
  lnk := fun i hi q hq => by
    have hm := getD_memO (show i < (odOf n ls).length by rw [hO.len]; omega)
    have hS := hO.S i (by rw [hO.len]; omega)
    refine ⟨⟨⟨?_, (hO.Nu _ hm q hq).2⟩, by have := (hO.B _ hm).2 q hq; omega⟩, hO.C i (by rw [hO.len]; exact hi) q hq⟩
    rw [← hS.1.lk hq]
    exact hS.2 q.1
  last := fun q hq => by
    have hn := hO.h1
    obtain ⟨g1, _, g3⟩ := odOf_row n (n - 1) (by omega) ls h
    rw [← g1.lk hq, g3]
    unfold lnks
    have e : ((ls.filter fun x => decide (x.getD (n - 1) 0 = q.1)).flatMap fun x => nxt x (n - 1)) = [] := by
      rw [List.flatMap_eq_nil_iff]
      intro x hx
      unfold nxt
      rw [show n - 1 + 1 = n by omega, List.drop_of_length_le (by rw [h x (List.mem_filter.1 hx).1]; exact Nat.le_refl _)]
      rfl
    rw [e]
    rfl
theorem flat_len_le {α : Type} {f : α → List Int} {K : Nat} : ∀ {L : List α}, (∀ x ∈ L, (f x).length ≤ K) → (L.flatMap f).length ≤ L.length * K
  | [], _ => by simp
  | x :: L, h => by
    have h1 := h x (List.mem_cons_self ..)
    have h2 := flat_len_le (L := L) fun y hy => h y (List.mem_cons_of_mem _ hy)
    rw [List.flatMap_cons, List.length_append, List.length_cons, Nat.succ_mul]
    omega
theorem bytesO_size {od : List Rw} (hB : OdB 12 od) (h8 : od.length ≤ 8) : (bytesO od).length ≤ 100000 := by
  have h1 : ((od.map keysR).flatMap encW).length ≤ (od.map keysR).length * 52 := flat_len_le fun x hx => by
    obtain ⟨r, hr, rfl⟩ := List.mem_map.1 hx
    rw [encW_len]
    unfold keysR
    rw [List.length_map]
    have := (hB r hr).1
    omega
  have h2 : ((od.take (od.length - 1)).flatMap encLk).length ≤ (od.take (od.length - 1)).length * 624 := flat_len_le fun r hr => by
    have hr2 := hB r (List.mem_of_mem_take hr)
    have h3 : (encLk r).length ≤ r.length * 52 := flat_len_le fun q hq => by
      rw [encW_len]
      have := hr2.2 q hq
      omega
    have := hr2.1
    omega
  rw [List.length_map] at h1
  rw [List.length_take] at h2
  unfold bytesO
  rw [List.length_append, List.length_append, wordL_len]
  omega
end Go.Proofs.YtmonepclhbappaaGreatDoor
/-
  Odags while they are read: their cells, each of its type; fresh again.
-/
namespace Go.Proofs.YtmonepclhbappaaGreatDoor
open Go.RowKit Go.Maps
set_option maxRecDepth 100000
set_option linter.unusedVariables false

/-- An odag's cells: the struct at O, its row of maps, the maps. -/
def OdW (B O : Nat) (v : Value) (bs : List Nat) (wx : World) (rs : List Rw) : Prop :=
  bs.length = rs.length ∧ wx.ownsRow B 114 1 v rs.length (mps bs) ∧ bs.Nodup ∧ (∀ (i b : Nat) (r : Rw), bs[i]? = some b → rs[i]? = some r → MRowT wx b r) ∧ Blk wx O 117 #[v]
section
variable {B O : Nat} {v : Value} {bs : List Nat} {w w' : World} {rs : List Rw}
theorem OdW.keep (h : OdW B O v bs w rs) (hb : Below w.heap.size w w') : OdW B O v bs w' rs := by
  obtain ⟨h1, h2, h3, h4, h5⟩ := h
  exact ⟨h1, own_block h2 fun g hg => hb.block g (h2.lt g hg).2, h3, fun i b r hb' hr => (h4 i b r hb' hr).keep hb, h5.keep hb⟩
theorem OdW.rd {g : Nat} {cs : Array Value} (h : OdW B O v bs w rs) (hk : Blk w g 150 cs) (hg : w.grownBy w' (some g)) : OdW B O v bs w' rs := by
  obtain ⟨h1, h2, h3, h4, h5⟩ := h
  refine ⟨h1, own_block h2 fun g' hg' => hg.block g' (h2.lt g' hg').2 fun e => ?_, h3, fun i b r hb' hr => (h4 i b r hb' hr).grown hg fun g' e => ?_, ?_⟩
  · cases e
    exact own_notBlk h2 hk (by decide) hg'
  · cases e
    exact ⟨_, _, _, hk, by decide⟩
  · refine h5.grown hg fun e => ?_
    cases e
    unfold Blk at hk h5
    rw [hk] at h5
    injection h5 with h5
    injection h5 with _ h6
    exact absurd h6 (by decide)
theorem OdW.put {i b : Nat} {r : Rw} (h : OdW B O v bs w rs) (hi : bs[i]? = some b) (hm : NC w b) (hg : w.grownBy w' (some b)) (hr : MRowT w' b r) : OdW B O v bs w' (rs.set i r) := by
  obtain ⟨h1, h2, h3, h4, h5⟩ := h
  refine ⟨by rw [List.length_set]; exact h1, by rw [List.length_set]; exact own_turned h2 hm hg, h3, fun j b' r' hb' hr' => ?_, h5.turned hm hg⟩
  by_cases hji : i = j
  · subst hji
    rw [hi] at hb'
    obtain rfl := Option.some.inj hb'
    have hlt : i < rs.length := by rw [← h1]; exact (List.getElem?_eq_some_iff.1 hi).1
    rw [List.getElem?_set_self hlt] at hr'
    obtain rfl := Option.some.inj hr'
    exact hr
  · rw [List.getElem?_set_ne hji] at hr'
    refine (h4 j b' r' hb' hr').other hm hg (fun e => hji ?_)
    subst e
    exact (List.getElem?_inj (by have := (List.getElem?_eq_some_iff.1 hi).1; omega) h3).1 (hi.trans hb'.symm)
theorem OdW.odM (h : OdW B O v bs w rs) : OdM w O rs := by
  obtain ⟨h1, h2, h3, h4, h5⟩ := h
  obtain ⟨R, c, rfl, hs⟩ := Sl.own h2
  exact ⟨R, rs.length, c, bs, h5, rfl, h1, (own_cap h2).1, hs, h3, fun i b r hb hr => (h4 i b r hb hr).row⟩
theorem gb_asd {g : Nat} (hb : Below B w w') (ha : Asd g w w') : w.grownBy w' (some g) := ⟨hb.os, hb.tape, hb.output, ha.1, fun k hk hne => ha.2 k (fun e => hne (by rw [e])) hk⟩
theorem Rd.blk {g n c a : Nat} {A : Option Addr} {E : Err} (h : Rd w B g A n c a E) : ∃ cs, Blk w g 150 cs := by
  obtain ⟨_, _, _, ev, h4, _⟩ := h
  exact ⟨_, h4⟩
theorem Rd.turned {g n c a b : Nat} {A : Option Addr} {E : Err} (h : Rd w B g A n c a E) (hm : NC w b) (hg : w.grownBy w' (some b)) : Rd w' B g A n c a E := by
  obtain ⟨h1, h2, h3, ev, h4, h5⟩ := h
  exact ⟨h1, h2, h3, ev, h4.turned hm hg, h5.far h2 fun g cs h => h.turned hm hg⟩
end

set_option maxHeartbeats 4000000 in
theorem fresh_T (n : Nat) (w : World) (h1 : 1 ≤ n) (h8 : n ≤ 8) : Calls Tryz.prog 64 #[.int .i64 (n : Int)] w fun e w' => ∃ p, e = .returned (.tuple #[.pointer (some ⟨p, 0, none⟩), .nilIface]) ∧ (∃ v bs, OdW w.heap.size p v bs w' (List.replicate n []) ∧ ∀ b ∈ bs, w.heap.size ≤ b) ∧ Below w.heap.size w w' := by
  have hmm := @run_makeMap Tryz.prog
  have hn1 : ¬ (n : Int) < 1 := by omega
  have hn8 : ¬ 8 < (n : Int) := by omega
  go_enter Tryz.func64, Tryz.ntmps64
  go_wp2_with fail
  go_loopw [15] (fun i wr => ∃ (k : Nat) (v : Value), k ≤ n ∧ i = .int .i64 k ∧ Hid (Frs w wr v k)) (fun i _ => n - (intOf i).toNat)
  case atStart => exact ⟨0, .slice none 0 0, Nat.zero_le _, rfl, Lib.hid ⟨[], rfl, by simpa [mps] using World.ownsRow_nil _ _ _ _, List.nodup_nil, (fun b hb => by cases hb), Blk.new _ _ _, bel_al (Below.refl _ _) _⟩⟩
  case round =>
    obtain ⟨k, v, hk, rfl, HF⟩ := hrel
    obtain ⟨bs, hbl, hown, hnd, hbs, hblk, hbel⟩ := HF.out
    have c0 := hblk.cell 0
    have f0 := hblk.frozen 0
    simp at c0
    have HO := Lib.hid hown
    have HBl := Lib.hid hblk
    have HBs := Lib.hid hbs
    have HNd := Lib.hid hnd
    have HLn := Lib.hid hbl
    have HB := Lib.hid hbel
    clear hown hblk hbs hnd hbl hbel HF
    by_cases hlt : k < n
    · have hlt' : (k : Int) < (n : Int) := by omega
      go_wp2_with (at_builtin; refine wpList_push_g elemRow _ _ rfl rfl (HO.out.alloc (.map #[] 0)) (bel_al HB.out _) (Nat.le_refl _) rfl (congrArg (fun z => Value.slice (some ⟨z, 0, none⟩) 1 1) (World.size_alloc wr (.map #[] 0)).symm) rfl (by simp [Value.oneCell']) (by unfold lim; omega) (by unfold lim; omega) ?_; intro v' w1 hown1 hb1 hg1; have hsh := Sl.own hown1; obtain ⟨R', c', rfl, _⟩ := hsh; have HO1 := Lib.hid hown1; have HB1 := Lib.hid hb1; have HG1 := Lib.hid hg1; have hk1 := (HBl.out.alloc (.map #[] 0)).others (HO.out.alloc (.map #[] 0)) hg1 (by decide); have HK1 := Lib.hid hk1; have k10 := hk1.cell 0; have f10 := hk1.frozen 0; simp at k10; clear hown1 hb1 hg1 hk1)
      go_roundw
      case rel =>
        have hne : ∀ g, (Value.slice R' (k + 1) c').ownBlock = some g → g ≠ w.heap.size := fun g hg e => own_notBlk HO1.out HK1.out (by decide) (by rw [hg, e])
        refine ⟨k + 1, .slice R' (k + 1) c', by omega, by go_num, Lib.hid ⟨bs ++ [wr.heap.size], by simp [HLn.out], ?_, ?_, fun b hb => ?_, HK1.out.set_ 0 (.slice R' (k + 1) c'), HB1.out.setCell (p := ⟨w.heap.size, 0, none⟩) (Nat.le_refl _) _⟩⟩
        · have h := own_block HO1.out (w' := w1.setCell ⟨w.heap.size, 0, none⟩ (.slice R' (k + 1) c')) fun g hg => Below.heap_setCell _ _ _ _ (hne g hg)
          unfold mps at h ⊢
          rw [List.map_append]
          exact h
        · rw [List.nodup_append]
          refine ⟨HNd.out, by simp, fun b hb g hg e => ?_⟩
          obtain rfl := List.mem_singleton.1 hg
          have := (HBs.out b hb).2.lt
          omega
        · rcases List.mem_append.1 hb with hb | hb
          · have h1 := HBs.out b hb
            refine ⟨h1.1, ((h1.2.emptyKept (gb_alloc _ _ none) (by simp)).emptyKept HG1.out (own_notNC HO.out h1.2.isMap)).emptyKept (gb_set _) (fun e => ?_)⟩
            have e' : b = w.heap.size := Option.some.inj e
            omega
          · obtain rfl := List.mem_singleton.1 hb
            have hlt2 := HBl.out.lt
            refine ⟨hlt2, ((MRow.made wr).emptyKept HG1.out (own_notNC (HO.out.alloc (.map #[] 0)) (MRow.made wr).isMap)).emptyKept (gb_set _) (fun e => ?_)⟩
            have e' : wr.heap.size = w.heap.size := Option.some.inj e
            omega
      case measure => simp [intOf]; omega
    · obtain rfl : k = n := by omega
      have hlt' : ¬ (k : Int) < (k : Int) := by omega
      go_wp2_with fail
      go_ret2
      refine ⟨_, rfl, ⟨v, bs, ⟨by rw [HLn.out]; simp, by rw [List.length_replicate]; exact HO.out, HNd.out, fun i b r hb hr => ?_, HBl.out⟩, fun b hb => Nat.le_of_lt (HBs.out b hb).1⟩, HB.out⟩
      have hr' : r = [] := by
        have := List.mem_of_getElem? hr
        exact (List.mem_replicate.1 this).2
      subst hr'
      obtain ⟨m, k1, k2, k3⟩ := (HBs.out b (List.mem_of_getElem? hb)).2
      obtain rfl : m = [] := List.map_eq_nil_iff.1 k1
      exact ⟨[], rfl, k2, fun e he => by cases he⟩
end Go.Proofs.YtmonepclhbappaaGreatDoor
