/-
  Part 11 of the proof of LoadBytes: GrP, GrN, MapW, RowsL.
-/
import Derived.Test.YtbbmgcdocolakaaGreatDoorLoadBytesM9
import Derived.WalkKit
import Derived.Maps.Ext
import Derived.Maps.OwnOps
import Derived.Maps.RangeWalk
import Derived.Test.YtbbmgcdocolakaaGreatDoorLoadBytesM2
set_option linter.unusedVariables false
/-
  Graphs, plainly: tables by number; the rows of what is beside each vertex, counted.
-/
namespace Go.Proofs.YtbbmgcdocolakaaGreatDoor
open Go.RowKit
set_option linter.unusedVariables false
namespace Gh
/-- A table of N numbers. -/
def tab (N : Nat) (f : Nat → Int) : List Int := (List.range N).map f
theorem tab_len (N : Nat) (f : Nat → Int) : (tab N f).length = N := by simp [tab]
theorem tab_get {N : Nat} (f : Nat → Int) {i : Nat} (h : i < N) : (tab N f)[i]? = some (f i) := by simp [tab, h]
theorem tab_congr {N : Nat} {f g : Nat → Int} (h : ∀ i, i < N → f i = g i) : tab N f = tab N g := by
  unfold tab
  exact List.map_congr_left fun i hi => h i (List.mem_range.1 hi)
theorem tab_set {N : Nat} (f : Nat → Int) (i : Nat) (x : Int) : (tab N f).set i x = tab N (fun j => if j = i then x else f j) := by
  apply List.ext_getElem?
  intro j
  rw [List.getElem?_set]
  by_cases hj : j < N
  · rw [tab_get _ hj, tab_get _ hj, tab_len]
    by_cases hij : i = j
    · subst hij
      simp [hj]
    · rw [if_neg hij]
      simp [show ¬ j = i from fun h => hij h.symm]
  · have h1 : (tab N f)[j]? = none := List.getElem?_eq_none (by rw [tab_len]; omega)
    have h2 : (tab N (fun j => if j = i then x else f j))[j]? = none := List.getElem?_eq_none (by rw [tab_len]; omega)
    rw [h1, h2, tab_len]
    by_cases hij : i = j
    · subst hij
      simp [hj]
    · rw [if_neg hij]
theorem tab_zero (N : Nat) : tab N (fun _ => 0) = List.replicate N 0 := by
  apply List.ext_getElem?
  intro j
  by_cases hj : j < N
  · rw [tab_get _ hj, List.getElem?_replicate, if_pos hj]
  · rw [List.getElem?_eq_none (by rw [tab_len]; omega), List.getElem?_eq_none (by rw [List.length_replicate]; omega)]

theorem deg_snoc (G : List (Int × Int)) (e : Int × Int) (v : Int) : Pt.deg (G ++ [e]) v = Pt.deg G v + if e.1 = v ∨ e.2 = v then 1 else 0 := by
  unfold Pt.deg
  rw [List.filter_append, List.length_append]
  by_cases h : e.1 = v ∨ e.2 = v
  · rw [List.filter_cons_of_pos (by simpa using h), if_pos h]; rfl
  · rw [List.filter_cons_of_neg (by simpa using h), if_neg h]; rfl
/-- How often each vertex stands in some edges, one place on. -/
def cntF (G : List (Int × Int)) (i : Nat) : Int := if i = 0 then 0 else (Pt.deg G ((i - 1 : Nat) : Int) : Nat)
theorem cnt_nil (n : Nat) : tab (n + 1) (cntF []) = List.replicate (n + 1) 0 := by
  rw [← tab_zero]
  refine tab_congr fun i _ => ?_
  unfold cntF
  split <;> rfl
theorem cnt_step (G : List (Int × Int)) (n a b : Nat) (hab : a < b) :
    ((tab (n + 1) (cntF G)).set (a + 1) (cntF G (a + 1) + 1)).set (b + 1) (cntF G (b + 1) + 1) = tab (n + 1) (cntF (G ++ [(((a : Nat) : Int), ((b : Nat) : Int))])) := by
  rw [tab_set, tab_set]
  refine tab_congr fun i _ => ?_
  rcases i with _ | i
  · rfl
  · unfold cntF
    simp only [Nat.add_sub_cancel, Nat.succ_ne_zero, if_false, Nat.add_right_cancel_iff]
    rw [deg_snoc]
    by_cases h1 : i = b
    · subst h1
      simp
    · by_cases h2 : i = a
      · subst h2
        simp [h1]
      · rw [if_neg h1, if_neg h2, if_neg (by simp only; omega)]
        simp
/-- The sums so far. -/
def psF (G : List (Int × Int)) (v i : Nat) : Int := if i ≤ v then (Pt.degs G i : Nat) else (Pt.deg G ((i - 1 : Nat) : Int) : Nat)
theorem ps_zero (G : List (Int × Int)) (n : Nat) : tab (n + 1) (cntF G) = tab (n + 1) (psF G 0) := by
  refine tab_congr fun i _ => ?_
  unfold cntF psF
  rcases i with _ | i
  · rfl
  · simp
theorem ps_step (G : List (Int × Int)) (n v : Nat) : (tab (n + 1) (psF G v)).set (v + 1) (psF G v (v + 1) + psF G v v) = tab (n + 1) (psF G (v + 1)) := by
  rw [tab_set]
  refine tab_congr fun i _ => ?_
  by_cases h : i = v + 1
  · subst h
    rw [if_pos rfl]
    unfold psF
    rw [if_neg (by omega), if_pos (Nat.le_refl _), if_pos (Nat.le_refl _), Nat.add_sub_cancel, Pt.degs]
    omega
  · rw [if_neg h]
    unfold psF
    by_cases h2 : i ≤ v
    · rw [if_pos h2, if_pos (by omega)]
    · rw [if_neg h2, if_neg (by omega)]
def sumF (G : List (Int × Int)) (i : Nat) : Int := (Pt.degs G i : Nat)
theorem ps_all (G : List (Int × Int)) (n : Nat) : tab (n + 1) (psF G n) = tab (n + 1) (sumF G) := by
  refine tab_congr fun i hi => ?_
  unfold psF sumF
  rw [if_pos (by omega)]

/-- How many edges of some end at a vertex; begin there. -/
def endsN (G : List (Int × Int)) (v : Int) : Nat := (G.filter fun e => decide (e.2 = v)).length
def begsN (G : List (Int × Int)) (v : Int) : Nat := (G.filter fun e => decide (e.1 = v)).length
theorem deg_split : ∀ {G : List (Int × Int)} (v : Int), (∀ e ∈ G, e.1 ≠ e.2) → Pt.deg G v = endsN G v + begsN G v
  | [], v, _ => rfl
  | e :: G, v, h => by
    have ih := deg_split (G := G) v fun e he => h e (List.mem_cons_of_mem _ he)
    have hne := h e (List.mem_cons_self ..)
    unfold Pt.deg endsN begsN at ih ⊢
    by_cases h1 : e.1 = v
    · have h2 : e.2 ≠ v := fun h2 => hne (h1.trans h2.symm)
      rw [List.filter_cons_of_pos (by simp [h1]), List.filter_cons_of_neg (by simp [h2]), List.filter_cons_of_pos (by simp [h1]), List.length_cons, List.length_cons, ih]
      omega
    · by_cases h2 : e.2 = v
      · rw [List.filter_cons_of_pos (by simp [h2]), List.filter_cons_of_pos (by simp [h2]), List.filter_cons_of_neg (by simp [h1]), List.length_cons, List.length_cons, ih]
        omega
      · rw [List.filter_cons_of_neg (by simp [h1, h2]), List.filter_cons_of_neg (by simp [h2]), List.filter_cons_of_neg (by simp [h1]), ih]
theorem endsN_snoc (G : List (Int × Int)) (e : Int × Int) (v : Int) : endsN (G ++ [e]) v = endsN G v + if e.2 = v then 1 else 0 := by
  unfold endsN
  rw [List.filter_append, List.length_append]
  by_cases h : e.2 = v
  · rw [List.filter_cons_of_pos (by simpa using h), if_pos h]; rfl
  · rw [List.filter_cons_of_neg (by simpa using h), if_neg h]; rfl
theorem begsN_snoc (G : List (Int × Int)) (e : Int × Int) (v : Int) : begsN (G ++ [e]) v = begsN G v + if e.1 = v then 1 else 0 := by
  unfold begsN
  rw [List.filter_append, List.length_append]
  by_cases h : e.1 = v
  · rw [List.filter_cons_of_pos (by simpa using h), if_pos h]; rfl
  · rw [List.filter_cons_of_neg (by simpa using h), if_neg h]; rfl
theorem take_room {G : List (Int × Int)} {p : Int × Int → Bool} {k : Nat} {e : Int × Int} (h : G[k]? = some e) (hp : p e = true) : ((G.take k).filter p).length < (G.filter p).length := by
  obtain ⟨hk, he⟩ := List.getElem?_eq_some_iff.1 h
  have h1 : G = G.take k ++ e :: G.drop (k + 1) := by rw [← he, List.getElem_cons_drop, List.take_append_drop]
  have h2 : (G.filter p).length = ((G.take k).filter p).length + ((e :: G.drop (k + 1)).filter p).length := by
    conv => lhs; rw [h1]
    rw [List.filter_append, List.length_append]
  rw [List.filter_cons_of_pos hp, List.length_cons] at h2
  omega
theorem degs_mono (G : List (Int × Int)) {i j : Nat} (h : i ≤ j) : Pt.degs G i ≤ Pt.degs G j := by
  induction j with
  | zero =>
    obtain rfl : i = 0 := by omega
    exact Nat.le_refl _
  | succ j ih =>
    rcases Nat.lt_or_ge i (j + 1) with h1 | h1
    · have := ih (by omega)
      rw [Pt.degs]
      omega
    · obtain rfl : i = j + 1 := by omega
      exact Nat.le_refl _
/-- Where the next one beside a vertex goes, in the first round. -/
def nx1 (F : List (Int × Int)) (k i : Nat) : Int := ((Pt.degs F i + endsN (F.take k) ((i : Nat) : Int) : Nat) : Int)
/-- .. in the second one. -/
def nx2 (F : List (Int × Int)) (k i : Nat) : Int := ((Pt.degs F i + endsN F ((i : Nat) : Int) + begsN (F.take k) ((i : Nat) : Int) : Nat) : Int)
section
variable {F : List (Int × Int)} {n : Nat}
theorem nx1_zero : tab (n + 1) (sumF F) = tab (n + 1) (nx1 F 0) := tab_congr fun i _ => by unfold sumF nx1; rfl
theorem nx1_all (k : Nat) (hk : F.length ≤ k) : tab (n + 1) (nx1 F k) = tab (n + 1) (nx2 F 0) := tab_congr fun i _ => by
  unfold nx1 nx2
  rw [List.take_of_length_le hk]
  rfl
theorem nx1_room (hF : ∀ e ∈ F, Pt.EdgeOK n e) {k a b : Nat} (h : F[k]? = some (((a : Nat) : Int), ((b : Nat) : Int))) : Pt.degs F b + endsN (F.take k) ((b : Nat) : Int) < 2 * F.length := by
  have ho := hF _ (List.mem_of_getElem? h)
  have hb : b < n := by have := ho.2.2; simp only at this; omega
  have h1 : endsN (F.take k) ((b : Nat) : Int) < endsN F ((b : Nat) : Int) := take_room h (by simp)
  have h2 := deg_split (G := F) ((b : Nat) : Int) fun e he => by have := (hF e he).2.1; omega
  have h3 := degs_mono F (i := b + 1) (j := n) (by omega)
  rw [Pt.degs_all F hF, Pt.degs] at h3
  omega
theorem nx2_room (hF : ∀ e ∈ F, Pt.EdgeOK n e) {k a b : Nat} (h : F[k]? = some (((a : Nat) : Int), ((b : Nat) : Int))) : Pt.degs F a + endsN F ((a : Nat) : Int) + begsN (F.take k) ((a : Nat) : Int) < 2 * F.length := by
  have ho := hF _ (List.mem_of_getElem? h)
  have ha : a < n := by have h1 := ho.2.1; have h2 := ho.2.2; simp only at h1 h2; omega
  have h1 : begsN (F.take k) ((a : Nat) : Int) < begsN F ((a : Nat) : Int) := take_room h (by simp)
  have h2 := deg_split (G := F) ((a : Nat) : Int) fun e he => by have := (hF e he).2.1; omega
  have h3 := degs_mono F (i := a + 1) (j := n) (by omega)
  rw [Pt.degs_all F hF, Pt.degs] at h3
  omega
theorem nx1_step {k a b : Nat} (h : F[k]? = some (((a : Nat) : Int), ((b : Nat) : Int))) : (tab (n + 1) (nx1 F k)).set b (nx1 F k b + 1) = tab (n + 1) (nx1 F (k + 1)) := by
  obtain ⟨hk, he⟩ := List.getElem?_eq_some_iff.1 h
  rw [tab_set]
  refine tab_congr fun i _ => ?_
  have ht : F.take (k + 1) = F.take k ++ [(((a : Nat) : Int), ((b : Nat) : Int))] := by rw [List.take_succ_eq_append_getElem hk, he]
  unfold nx1
  rw [ht, endsN_snoc]
  by_cases hi : i = b
  · subst hi
    rw [if_pos rfl, if_pos rfl]
    omega
  · rw [if_neg hi, if_neg (by simp only; omega)]
    rfl
theorem nx2_step {k a b : Nat} (h : F[k]? = some (((a : Nat) : Int), ((b : Nat) : Int))) : (tab (n + 1) (nx2 F k)).set a (nx2 F k a + 1) = tab (n + 1) (nx2 F (k + 1)) := by
  obtain ⟨hk, he⟩ := List.getElem?_eq_some_iff.1 h
  rw [tab_set]
  refine tab_congr fun i _ => ?_
  have ht : F.take (k + 1) = F.take k ++ [(((a : Nat) : Int), ((b : Nat) : Int))] := by rw [List.take_succ_eq_append_getElem hk, he]
  unfold nx2
  rw [ht, begsN_snoc]
  by_cases hi : i = a
  · subst hi
    rw [if_pos rfl, if_pos rfl]
    omega
  · rw [if_neg hi, if_neg (by simp only; omega)]
    rfl
end
end Gh
end Go.Proofs.YtbbmgcdocolakaaGreatDoor
/-
  Graphs, plainly: which labels and edges make one, and its edges in their order.
-/
namespace Go.Proofs.YtbbmgcdocolakaaGreatDoor
open Go.RowKit
set_option linter.unusedVariables false
namespace Gh
/-- What is wrong with an edge, ahead of which some are; 0: nothing. -/
def badE (n : Nat) (seen : List (Int × Int)) (e : Int × Int) : Int :=
  if (turnE e).1 < 0 ∨ (n : Int) ≤ (turnE e).2 then 3 else if e.1 = e.2 then 1 else if turnE e ∈ seen then 4 else 0
inductive NewR
  | ok (F : List (Int × Int))
  | big
  | lab (i : Nat)
  | edge (c : Int) (i : Nat)
/-- Edge by edge. -/
def goE (n : Nat) : List (Int × Int) → List (Int × Int) → NewR
  | acc, [] => .ok acc
  | acc, e :: r => if badE n acc e = 0 then goE n (acc ++ [turnE e]) r else .edge (badE n acc e) acc.length
def labBad (x : Int) : Bool := decide (x < 0) || decide (255 < x)
def newR (L : List Int) (E : List (Int × Int)) : NewR :=
  if 4096 < L.length ∨ 16384 < E.length then .big
  else match L.findIdx? labBad with
    | some i => .lab i
    | none => goE L.length [] E

theorem bad_zero {n : Nat} {seen : List (Int × Int)} {e : Int × Int} (h : badE n seen e = 0) : Pt.EdgeOK n (turnE e) ∧ turnE e ∉ seen := by
  unfold badE at h
  split at h
  · cases h
  · rename_i h1
    split at h
    · cases h
    · rename_i h2
      split at h
      · cases h
      · rename_i h3
        refine ⟨?_, h3⟩
        have h4 : 0 ≤ (turnE e).1 ∧ (turnE e).2 < (n : Int) := by omega
        refine ⟨h4.1, ?_, h4.2⟩
        obtain ⟨a, b⟩ := e
        unfold turnE
        simp only at h2 ⊢
        split
        · simp only; omega
        · simp only; omega
theorem bad_of {n : Nat} {seen : List (Int × Int)} {e : Int × Int} (h : Pt.EdgeOK n (turnE e)) (hs : turnE e ∉ seen) : badE n seen e = 0 := by
  unfold badE
  have h1 := h.1
  have h2 := h.2.1
  have h3 := h.2.2
  rw [if_neg (by omega), if_neg ?_, if_neg hs]
  intro he
  obtain ⟨a, b⟩ := e
  simp only at he
  subst he
  unfold turnE at h2
  simp only at h2
  split at h2 <;> simp only at h2 <;> omega
theorem bad_pos {n : Nat} {seen : List (Int × Int)} {e : Int × Int} (h : badE n seen e ≠ 0) : badE n seen e = 3 ∨ badE n seen e = 1 ∨ badE n seen e = 4 := by
  unfold badE at h ⊢
  split
  · exact .inl rfl
  · split
    · exact .inr (.inl rfl)
    · split
      · exact .inr (.inr rfl)
      · rename_i h1 h2 h3
        rw [if_neg h1, if_neg h2, if_neg h3] at h
        exact absurd rfl h
/-- What is had so far. -/
structure Has (n : Nat) (acc : List (Int × Int)) : Prop where
  ok : ∀ e ∈ acc, Pt.EdgeOK n e
  nd : acc.Nodup
theorem Has.nil (n : Nat) : Has n [] := ⟨fun e h => absurd h (List.not_mem_nil), List.nodup_nil⟩
theorem Has.snoc {n : Nat} {acc : List (Int × Int)} {e : Int × Int} (h : Has n acc) (hb : badE n acc e = 0) : Has n (acc ++ [turnE e]) := by
  obtain ⟨h1, h2⟩ := bad_zero hb
  refine ⟨fun x hx => ?_, ?_⟩
  · rcases List.mem_append.1 hx with hx | hx
    · exact h.ok x hx
    · obtain rfl := List.mem_singleton.1 hx
      exact h1
  · refine List.nodup_append.2 ⟨h.nd, by simp, ?_⟩
    rintro a ha b hb rfl
    obtain rfl := List.mem_singleton.1 hb
    exact h2 ha
theorem goE_ok {n : Nat} : ∀ {E acc F : List (Int × Int)}, Has n acc → goE n acc E = .ok F → Has n F ∧ F = acc ++ E.map turnE
  | [], acc, F, h, he => by
    injection he with he
    subst he
    exact ⟨h, by simp⟩
  | e :: E, acc, F, h, he => by
    unfold goE at he
    split at he
    · rename_i hb
      obtain ⟨h1, h2⟩ := goE_ok (h.snoc hb) he
      exact ⟨h1, by rw [h2]; simp⟩
    · cases he
theorem new_ok {L : List Int} {E F : List (Int × Int)} (h : newR L E = .ok F) : L.length ≤ 4096 ∧ E.length ≤ 16384 ∧ (∀ x ∈ L, 0 ≤ x ∧ x ≤ 255) ∧ Has L.length F ∧ F = E.map turnE := by
  unfold newR at h
  split at h
  · cases h
  · rename_i hz
    split at h
    · cases h
    · rename_i hl
      obtain ⟨h1, h2⟩ := goE_ok (Has.nil _) h
      refine ⟨by omega, by omega, fun x hx => ?_, h1, by simpa using h2⟩
      have := List.findIdx?_eq_none_iff.1 hl x hx
      unfold labBad at this
      simp at this
      omega
/-- Put into its place. -/
def insE (e : Int × Int) : List (Int × Int) → List (Int × Int)
  | [] => [e]
  | x :: r => if Pt.ordE x e < 0 then x :: insE e r else e :: x :: r
theorem insE_perm (e : Int × Int) : ∀ F, (insE e F).Perm (e :: F)
  | [] => .refl _
  | x :: r => by
    unfold insE
    split
    · exact ((insE_perm e r).cons x).trans (.swap ..)
    · exact .refl _
theorem insE_rise {e : Int × Int} : ∀ {F : List (Int × Int)}, Pt.Rise F → e ∉ F → Pt.Rise (insE e F)
  | [], _, _ => by unfold insE; exact List.pairwise_singleton ..
  | x :: r, h, hn => by
    obtain ⟨h1, h2⟩ := List.pairwise_cons.1 h
    unfold insE
    split
    · rename_i hx
      refine List.pairwise_cons.2 ⟨fun y hy => ?_, insE_rise h2 fun he => hn (List.mem_cons_of_mem _ he)⟩
      rcases List.mem_cons.1 ((insE_perm e r).subset hy) with rfl | hy
      · exact hx
      · exact h1 y hy
    · rename_i hx
      have hlt : Pt.ordE e x < 0 := by
        have ha := Pt.cp_edge.anti x e
        have hz : Pt.ordE x e ≠ 0 := fun hz => hn (by rw [Pt.ordE_zero hz]; exact List.mem_cons_self ..)
        omega
      refine List.pairwise_cons.2 ⟨fun y hy => ?_, h⟩
      rcases List.mem_cons.1 hy with rfl | hy
      · exact hlt
      · have := h1 y hy
        have ht := Pt.cp_edge.trans e x y
        have ha := Pt.cp_edge.anti e y
        have hle := ht (by omega) (by omega)
        rcases Int.lt_or_lt_of_ne (a := Pt.ordE e y) (b := 0) (fun hz => hn (by rw [Pt.ordE_zero hz]; exact List.mem_cons_of_mem _ hy)) with h | h
        · exact h
        · omega
/-- All edges in their order. -/
def sortG (F : List (Int × Int)) : List (Int × Int) := F.foldl (fun acc e => insE e acc) []
theorem sort_snoc (F : List (Int × Int)) (e : Int × Int) : sortG (F ++ [e]) = insE e (sortG F) := by simp [sortG]
theorem sort_all : ∀ (k : Nat) {F : List (Int × Int)}, F.length = k → F.Nodup → (sortG F).Perm F ∧ Pt.Rise (sortG F)
  | 0, F, hk, _ => by
    obtain rfl := List.eq_nil_of_length_eq_zero hk
    exact ⟨.refl _, List.Pairwise.nil⟩
  | k + 1, F, hk, hd => by
    rcases List.eq_nil_or_concat F with rfl | ⟨G, e, rfl⟩
    · cases hk
    · rw [List.concat_eq_append] at hd hk ⊢
      obtain ⟨h1, _, h3⟩ := List.nodup_append.1 hd
      rw [List.length_append] at hk
      obtain ⟨h4, h5⟩ := sort_all k (F := G) (by simpa using hk) h1
      rw [sort_snoc]
      refine ⟨(insE_perm e _).trans ((h4.cons e).trans (List.perm_append_comm (l₁ := [e]))), insE_rise h5 fun he => ?_⟩
      exact h3 e (h4.subset he) e (List.mem_singleton.2 rfl) rfl
theorem sort_perm {F : List (Int × Int)} (h : F.Nodup) : (sortG F).Perm F := (sort_all _ rfl h).1
theorem sort_rise {F : List (Int × Int)} (h : F.Nodup) : Pt.Rise (sortG F) := (sort_all _ rfl h).2
theorem sort_is {F G : List (Int × Int)} (h : F.Nodup) (hp : G.Perm F) (hr : Pt.Rise G) : G = sortG F := Pt.rise_uniq hr (sort_rise h) (hp.trans (sort_perm h).symm)
/-- Where it goes. -/
def posE (e : Int × Int) : List (Int × Int) → Nat
  | [] => 0
  | x :: r => if Pt.ordE x e < 0 then posE e r + 1 else 0
theorem pos_le (e : Int × Int) : ∀ G, posE e G ≤ G.length
  | [] => Nat.le_refl _
  | x :: r => by
    unfold posE
    have := pos_le e r
    split
    · rw [List.length_cons]; omega
    · omega
theorem insE_take (e : Int × Int) : ∀ G, insE e G = G.take (posE e G) ++ e :: G.drop (posE e G)
  | [] => rfl
  | x :: r => by
    unfold insE posE
    split
    · rw [insE_take e r]; rfl
    · rfl
theorem pos_less (e : Int × Int) : ∀ (G : List (Int × Int)) (j : Nat) (x : Int × Int), j < posE e G → G[j]? = some x → Pt.ordE x e < 0
  | [], j, x, h, _ => by unfold posE at h; omega
  | y :: r, j, x, h, hx => by
    unfold posE at h
    split at h
    · rename_i hy
      rcases j with _ | j
      · obtain rfl := Option.some.inj hx
        exact hy
      · exact pos_less e r j x (by omega) hx
    · omega
theorem pos_stop (e : Int × Int) : ∀ (G : List (Int × Int)) (x : Int × Int), G[posE e G]? = some x → ¬ Pt.ordE x e < 0
  | [], x, h => by cases h
  | y :: r, x, h => by
    unfold posE at h
    split at h
    · exact pos_stop e r x h
    · rename_i hy
      obtain rfl := Option.some.inj h
      exact hy
theorem ord_less (a b : Int × Int) : Pt.ordE a b < 0 ↔ a.1 < b.1 ∨ (a.1 = b.1 ∧ a.2 < b.2) := by
  unfold Pt.ordE Pt.or2 Pt.cmpI
  split <;> split <;> (try split) <;> (try split) <;> (try split) <;> omega
theorem mem_sort {F : List (Int × Int)} (h : F.Nodup) (e : Int × Int) : e ∈ sortG F ↔ e ∈ F := (sort_perm h).mem_iff
theorem goE_step {n : Nat} {acc : List (Int × Int)} {e : Int × Int} {r : List (Int × Int)} (h : badE n acc e = 0) : goE n acc (e :: r) = goE n (acc ++ [turnE e]) r := by rw [goE, if_pos h]
theorem goE_bad {n : Nat} {acc : List (Int × Int)} {e : Int × Int} {r : List (Int × Int)} (h : badE n acc e ≠ 0) : goE n acc (e :: r) = .edge (badE n acc e) acc.length := by rw [goE, if_neg h]
end Gh
end Go.Proofs.YtbbmgcdocolakaaGreatDoor
/-
  Maps keyed by ints, in one word: block b holds these entries, by rising key, whatever their values are; the laws of look-up, store and range in that word.
-/
namespace Go.Proofs.YtbbmgcdocolakaaGreatDoor
open Go.RowKit Go.Maps
set_option linter.unusedVariables false
set_option linter.unusedSectionVars false

def rawR (v : Value) : Option (DataW Value × List MemPlace) := some (.held v, [])
def enK (p : Int × Value) : Lit × DataW Value := (.int .i64 p.1, .held p.2)
def asD (es : List (Int × Value)) : DataW Value := .map (es.map enK)
/-- Block b is a map that holds just the entries es. -/
def MapI (P : Program) (kT : TypeId) (w : World) (b : Nat) (es : List (Int × Value)) : Prop := w.ownsMap P kT rawR b es.length (asD es)
def atI (es : List (Int × Value)) (x : Int) : Option Value := (es.find? fun p => decide (p.1 = x)).map (·.2)
def putI (es : List (Int × Value)) (x : Int) (v : Value) : List (Int × Value) := (es.filter fun p => decide (p.1 < x)) ++ (x, v) :: es.filter fun p => decide (x < p.1)
def IncK (es : List (Int × Value)) : Prop := es.Pairwise fun p q => p.1 < q.1

theorem atI_none {es : List (Int × Value)} {x : Int} : atI es x = none ↔ x ∉ es.map (·.1) := by
  unfold atI
  rw [Option.map_eq_none_iff, List.find?_eq_none]
  constructor
  · intro h hm
    obtain ⟨p, hp, rfl⟩ := List.mem_map.1 hm
    exact h p hp (by simp)
  · intro h p hp hx
    exact h (List.mem_map.2 ⟨p, hp, of_decide_eq_true hx⟩)
theorem atI_mem {es : List (Int × Value)} {x : Int} {v : Value} (h : atI es x = some v) : (x, v) ∈ es := by
  unfold atI at h
  obtain ⟨p, hp, rfl⟩ := Option.map_eq_some_iff.1 h
  have h1 := List.find?_some hp
  have h2 := List.mem_of_find?_eq_some hp
  rw [show (x, p.2) = p from Prod.ext (of_decide_eq_true h1).symm rfl]
  exact h2
theorem inc_key {es : List (Int × Value)} (hI : IncK es) : ∀ {p q : Int × Value}, p ∈ es → q ∈ es → p.1 = q.1 → p = q := by
  induction es with
  | nil => intro p q hp; cases hp
  | cons e es ih =>
    obtain ⟨h1, h2⟩ := List.pairwise_cons.1 hI
    intro p q hp hq he
    rcases List.mem_cons.1 hp with e1 | hp'
    · rcases List.mem_cons.1 hq with e2 | hq'
      · rw [e1, e2]
      · have := h1 q hq'; rw [e1] at he; omega
    · rcases List.mem_cons.1 hq with e2 | hq'
      · have := h1 p hp'; rw [e2] at he; omega
      · exact ih h2 hp' hq' he
theorem atI_of_mem {es : List (Int × Value)} (hI : IncK es) {p : Int × Value} (hp : p ∈ es) : atI es p.1 = some p.2 := by
  cases h : atI es p.1 with
  | none => exact absurd (List.mem_map.2 ⟨p, hp, rfl⟩) (atI_none.1 h)
  | some v =>
    have := inc_key hI (atI_mem h) hp rfl
    rw [← this]

theorem lit_i64 {x : Int} (h1 : -9223372036854775808 ≤ x) (h2 : x ≤ 9223372036854775807) : (Lit.int .i64 x).wf = true := WalkArith.wf_i64 (by omega)

section
variable {P : Program} {kT : TypeId} {w w' : World} {b : Nat} {es : List (Int × Value)}

theorem has_asD (x : Int) : Maps.has (asD es) (.int .i64 x) = (atI es x).isSome := by
  unfold asD atI
  rw [Maps.has_eq, List.any_map, Option.isSome_map]
  induction es with
  | nil => rfl
  | cons p r ih =>
    rw [List.any_cons, List.find?_cons, ih]
    by_cases h : p.1 = x
    · simp [enK, Lit.sameKey, h]
    · simp [enK, Lit.sameKey, h]
theorem atKey_asD (x : Int) (z : Value) : (asD es).atKey (.int .i64 x) (.held z) = .held ((atI es x).getD z) := by
  unfold asD atI DataW.atKey
  simp only
  induction es with
  | nil => rfl
  | cons p r ih =>
    rw [List.map_cons, List.find?_cons, List.find?_cons]
    by_cases h : p.1 = x
    · simp [enK, Lit.sameKey, h]
    · have e1 : (enK p).1.sameKey (.int .i64 x) = false := by simp [enK, Lit.sameKey, h]
      rw [e1]
      simp only [h, decide_false]
      exact ih
theorem ins_asD (x : Int) (v : Value) : ∀ {es : List (Int × Value)}, IncK es → DataW.insert (enK (x, v)) ((es.map enK).filter fun p => !p.1.sameKey (.int .i64 x)) = (putI es x v).map enK
  | [], _ => rfl
  | p :: r, hI => by
    obtain ⟨h1, h2⟩ := List.pairwise_cons.1 hI
    have ih := ins_asD x v h2
    rcases Int.lt_trichotomy p.1 x with h | h | h
    · have e1 : (!(enK p).1.sameKey (.int .i64 x)) = true := by simp [enK, Lit.sameKey]; omega
      have e2 : (enK (x, v)).1.before (enK p).1 = false := by simp [enK, Lit.before]; omega
      have e3 : ¬ x < p.1 := by omega
      have e4 : putI (p :: r) x v = p :: putI r x v := by simp [putI, h, e3]
      rw [List.map_cons, List.filter_cons_of_pos (p := fun q : Lit × DataW Value => !q.1.sameKey (.int .i64 x)) e1, DataW.insert, e2, e4, List.map_cons]
      simp only [Bool.false_eq_true, if_false]
      rw [ih]
    · have e1 : ¬ (!(enK p).1.sameKey (.int .i64 x)) = true := by simp [enK, Lit.sameKey]; omega
      have e4 : putI (p :: r) x v = putI r x v := by
        have a1 : ¬ p.1 < x := by omega
        have a2 : ¬ x < p.1 := by omega
        simp [putI, a1, a2]
      rw [List.map_cons, List.filter_cons_of_neg (p := fun q : Lit × DataW Value => !q.1.sameKey (.int .i64 x)) e1, ih, e4]
    · have e1 : (!(enK p).1.sameKey (.int .i64 x)) = true := by simp [enK, Lit.sameKey]; omega
      have e2 : (enK (x, v)).1.before (enK p).1 = true := by simp [enK, Lit.before]; omega
      have hf1 : (r.map enK).filter (fun q => !q.1.sameKey (.int .i64 x)) = r.map enK := List.filter_eq_self.2 fun q hq => by
        obtain ⟨s, hs, rfl⟩ := List.mem_map.1 hq
        have := h1 s hs
        simp [enK, Lit.sameKey]; omega
      have hf2 : r.filter (fun q => decide (q.1 < x)) = [] := List.filter_eq_nil_iff.2 fun s hs => by
        have := h1 s hs
        simp; omega
      have hf3 : r.filter (fun q => decide (x < q.1)) = r := List.filter_eq_self.2 fun s hs => by
        have := h1 s hs
        simp; omega
      have a1 : ¬ p.1 < x := by omega
      have e4 : putI (p :: r) x v = (x, v) :: p :: r := by simp [putI, h, a1, hf2, hf3]
      rw [List.map_cons, List.filter_cons_of_pos (p := fun q : Lit × DataW Value => !q.1.sameKey (.int .i64 x)) e1, hf1, DataW.insert, e2, e4]
      simp
theorem put_asD (hI : IncK es) (x : Int) (v : Value) : (asD es).put (.int .i64 x) (.held v) = asD (putI es x v) := by
  unfold asD DataW.put
  exact congrArg DataW.map (ins_asD x v hI)

theorem MapI.of_owns {n : Nat} (h : w.ownsMap P kT rawR b n (asD es)) : MapI P kT w b es := by
  obtain ⟨es', clock, hb, F, hs, hD⟩ := h
  refine ⟨es', clock, hb, F, ?_, hD⟩
  have h1 : (es.map enK) = _ := DataW.map.inj hD
  have h2 := congrArg List.length h1
  rw [List.length_map, length_read] at h2
  omega
theorem MapI.made (P : Program) (kT : TypeId) (w : World) : MapI P kT (w.alloc (.map #[] 0)) w.heap.size [] := World.ownsMap_made w P kT rawR
theorem MapI.inc (hk : P.underlying kT = some (.int .i64)) (h : MapI P kT w b es) : IncK es := by
  obtain ⟨es', h1, h2, _⟩ := World.ownsMap.canon h (int_keyed hk)
  obtain rfl : es.map enK = es' := DataW.map.inj h1
  exact (List.pairwise_map.1 h2).imp fun {p q} hpq => by simpa [enK, Lit.before] using hpq
theorem MapI.kept {row : Option Nat} (h : MapI P kT w b es) (hg : w.grownBy w' row) (hne : some b ≠ row) : MapI P kT w' b es := World.ownsMap.kept h hg hne
theorem MapI.keep (h : MapI P kT w b es) (hb : Below w.heap.size w w') : MapI P kT w' b es := by
  have hlt := World.ownsMap.lt h
  obtain ⟨es', clock, h1, F, hs, hD⟩ := h
  exact ⟨es', clock, (hb.block b hlt).trans h1, F, hs, hD⟩
theorem MapI.lt (h : MapI P kT w b es) : b < w.heap.size := World.ownsMap.lt h
theorem MapI.isMap (h : MapI P kT w b es) : ∃ es' clock, w.heap[b]? = some (.map es' clock) := by
  obtain ⟨es', clock, h1, _⟩ := h
  exact ⟨es', clock, h1⟩
end

section
variable {P : Program} (w : World) {ops : Array Oper} {rest : List Oper} {o : Oper} {a : Act} {Q : Exit → Act → World → Prop} {kT : TypeId}

/-- 'm[k]'. -/
theorem wpList_lookI (hg : o.guard = none) (m x : Operand) (t : TypeId) (hop : o.op = Op.lookup t m x false) (e : TypeId) (hk : P.underlying kT = some (.int .i64)) (ht : P.underlying t = some (.map kT e))
    (z : Value) (hz : (zeroValue e).run P w = .ok z w) (b : Nat) (es : List (Int × Value)) (hm : a.eval m = .map (some b)) (hown : MapI P kT w b es) (y : Int) (hx : a.eval x = .int .i64 y) (h1 : -9223372036854775808 ≤ y) (h2 : y ≤ 9223372036854775807)
    (hK : wpList P ops Q rest (a.put o.dst ((atI es y).getD z)) w) :
    wpList P ops Q (o :: rest) a w := by
  refine wpList_plain hg fun K' hK' => ?_
  obtain ⟨v, ps, hrun, hv⟩ := World.ownsMap.lookup hown (int_keyed hk) ht hz (zd := .held z) (zp := []) rfl (keyOf_int_mk hk (lit_i64 h1 h2))
  rw [atKey_asD] at hv
  obtain rfl : v = (atI es y).getD z := by
    have := (Prod.mk.inj (Option.some.inj hv)).1
    exact DataW.held.inj this
  unfold Oper.wp
  simp [execOp, hop, hm, hx, hrun, Result.andThen]
  exact hK' _ _ hK

/-- 'm[k] = v'. -/
theorem wpList_putI (hg : o.guard = none) (m x v : Operand) (t : TypeId) (hop : o.op = Op.mapUpdate t m x v) (e : TypeId) (hk : P.underlying kT = some (.int .i64)) (ht : P.underlying t = some (.map kT e))
    (b : Nat) (es : List (Int × Value)) (hm : a.eval m = .map (some b)) (hown : MapI P kT w b es) (hn : es.length < maxLen) (y : Int) (val : Value) (hx : a.eval x = .int .i64 y) (hv : a.eval v = val) (h1 : -9223372036854775808 ≤ y) (h2 : y ≤ 9223372036854775807)
    (hK : ∀ w', MapI P kT w' b (putI es y val) → w.grownBy w' (some b) → wpList P ops Q rest (a.put o.dst undef) w') :
    wpList P ops Q (o :: rest) a w := by
  refine wpList_mapUpdate_own w hg m x v t hop kT e (int_keyed hk) ht rawR b es.length (asD es) hm hown hn _ val _ hx hv (keyOf_int_mk hk (lit_i64 h1 h2)) (.held val) [] rfl fun w' hw' hgr => ?_
  rw [put_asD (MapI.inc hk hown)] at hw'
  exact hK w' (MapI.of_owns hw') hgr
end

section
/-- A range over the map in block b, its iterator in block r: done: what has come so far. -/
def RangesI (P : Program) (kT : TypeId) (w : World) (b r : Nat) (es done : List (Int × Value)) : Prop :=
  ∃ left cnt, w.ranges P kT rawR b r es.length (asD es) left cnt ∧ (∀ p ∈ es, (left (.int .i64 p.1) = true ↔ p ∉ done)) ∧ (∀ p ∈ done, p ∈ es) ∧ done.Nodup
variable {P : Program} {kT : TypeId} {w w' : World} {b r : Nat} {es done : List (Int × Value)}
theorem RangesI.map (h : RangesI P kT w b r es done) : MapI P kT w b es := by
  obtain ⟨left, cnt, h1, _⟩ := h
  exact h1.owns
theorem RangesI.kept {row : Option Nat} (h : RangesI P kT w b r es done) (hg : w.grownBy w' row) (hb : some b ≠ row) (hr : some r ≠ row) : RangesI P kT w' b r es done := by
  obtain ⟨left, cnt, h1, h2⟩ := h
  exact ⟨left, cnt, h1.kept hg hb hr, h2⟩
theorem RangesI.keep (h : RangesI P kT w b r es done) (hb : Below w.heap.size w w') : RangesI P kT w' b r es done := by
  obtain ⟨left, cnt, h1, h2⟩ := h
  have l1 := h1.owns.lt
  have l2 := h1.lt
  obtain ⟨es', clock, since, seen, c0, g1, F, hs, hD, g2, rest⟩ := h1
  exact ⟨left, cnt, ⟨es', clock, since, seen, c0, (hb.block b l1).trans g1, F, hs, hD, (hb.block r l2).trans g2, rest⟩, h2⟩
theorem RangesI.ltr (h : RangesI P kT w b r es done) : r < w.heap.size := by
  obtain ⟨left, cnt, h1, _⟩ := h
  exact h1.lt
theorem RangesI.done_perm (h : RangesI P kT w b r es done) (hk : P.underlying kT = some (.int .i64)) (hall : ∀ p ∈ es, p ∈ done) : done.Perm es := by
  have hI := h.map.inc hk
  obtain ⟨left, cnt, _, _, h3, h4⟩ := h
  have hes : es.Nodup := hI.imp fun {p q} hpq e => by subst e; omega
  exact (List.perm_ext_iff_of_nodup h4 hes).2 fun p => ⟨h3 p, hall p⟩
end

section
variable {P : Program} (w : World) {ops : Array Oper} {rest : List Oper} {o : Oper} {a : Act} {Q : Exit → Act → World → Prop} {kT : TypeId}
/-- 'range m'. -/
theorem wpList_rangeI (hg : o.guard = none) (m : Operand) (t : TypeId) (hop : o.op = Op.range t m) (e : TypeId) (hk : P.underlying kT = some (.int .i64)) (ht : P.underlying t = some (.map kT e)) (b : Nat) (es : List (Int × Value))
    (hm : a.eval m = .map (some b)) (hown : MapI P kT w b es)
    (hK : ∀ w', RangesI P kT w' b w.heap.size es [] → w.grownBy w' none → w'.heap.size = w.heap.size + 1 → wpList P ops Q rest (a.put o.dst (.pointer (some ⟨w.heap.size, 0, none⟩))) w') :
    wpList P ops Q (o :: rest) a w := by
  refine wpList_range_own w hg m t hop kT e (int_keyed hk) ht rawR b es.length (asD es) hm hown fun w' h1 h2 h3 => hK w' ⟨_, _, h1, (fun p hp => ?_), (fun p hp => absurd hp (by simp)), List.nodup_nil⟩ h2 h3
  rw [has_asD, atI_of_mem (MapI.inc hk hown) hp]
  simp

/-- The step. -/
theorem wpList_nextI (hg : o.guard = none) (it : Operand) (hop : o.op = Op.next it false) (hk : P.underlying kT = some (.int .i64)) (b r : Nat) (es done : List (Int × Value))
    (hit : a.eval it = .pointer (some ⟨r, 0, none⟩)) (h : RangesI P kT w b r es done)
    (hDone : done.Perm es → wpList P ops Q rest (a.put o.dst (.tuple #[.bool false])) w)
    (hMore : ∀ (p : Int × Value) (w' : World), p ∈ es → p ∉ done → RangesI P kT w' b r es (done ++ [p]) → w'.rangeLeft b r < w.rangeLeft b r → w.grownBy w' (some r) → w'.heap.size = w.heap.size →
      (Instr.entry (.pointer (some ⟨r, 0, none⟩))).run P w' = .ok (.tuple #[.int .i64 p.1, p.2]) w' → wpList P ops Q rest (a.put o.dst (.tuple #[.bool true, .int .i64 p.1, p.2])) w') :
    wpList P ops Q (o :: rest) a w := by
  have hI := h.map.inc hk
  have hperm := fun hall => h.done_perm hk hall
  obtain ⟨left, cnt, hrg, hleft, hsub, hnd⟩ := h
  refine wpList_next_ranges w hg it hop kT (int_keyed hk) rawR (Value.int .i64) id (fun key kl hkey => by obtain ⟨x, rfl, _⟩ := Maps.keyOf_int_inv hk hkey; exact ⟨x, rfl⟩) (fun v y hv => ⟨v, rfl⟩) b r es.length (asD es) left cnt hit hrg (fun _ hl => hDone (hperm fun p hp => ?_)) (fun x c kl y w' cnt' hkey hlk hv hat hrg' hlt hgr hsz hen => ?_)
  · have := hleft p hp
    rw [hl] at this
    simpa using this
  · obtain ⟨x', ex, rfl, hwx⟩ := Maps.keyOf_int_inv hk hkey
    cases ex
    have hhas : (atI es x).isSome = true := by rw [← has_asD]; exact Maps.has_true_of_atKey hat
    obtain ⟨v, hv'⟩ := Option.isSome_iff_exists.1 hhas
    have hc : c = v := by
      have h1 := hat (.held (.bool false))
      rw [atKey_asD, hv'] at h1
      have h2 := (Prod.mk.inj (Option.some.inj hv)).1
      rw [← h1] at h2
      exact DataW.held.inj h2
    subst hc
    have hp := atI_mem hv'
    have hnot : (x, c) ∉ done := fun hm => by
      exact (hleft _ hp).1 hlk hm
    refine hMore (x, c) w' hp hnot ⟨_, cnt', hrg', fun p hp' => ?_, fun p hp' => ?_, ?_⟩ (by rw [hrg'.left_eq, hrg.left_eq]; exact hlt) hgr hsz hen
    · show (left (.int .i64 p.1) && !(Lit.int .i64 p.1).sameKey (.int .i64 x)) = true ↔ _
      rw [Bool.and_eq_true, hleft p hp']
      by_cases hpx : p.1 = x
      · obtain rfl := inc_key hI hp' hp hpx
        simp [Lit.sameKey]
      · have hne : p ≠ (x, c) := fun e => hpx (by rw [e])
        simp [Lit.sameKey, hpx, hne]
    · rcases List.mem_append.1 hp' with h1 | h1
      · exact hsub p h1
      · obtain rfl := List.mem_singleton.1 h1
        exact hp
    · rw [List.nodup_append]
      exact ⟨hnd, by simp, fun p hp1 q hq => by obtain rfl := List.mem_singleton.1 hq; exact fun e => hnot (e ▸ hp1)⟩
end
end Go.Proofs.YtbbmgcdocolakaaGreatDoor
/-
  Rows of rows of ints: each inner list lies so.
-/
namespace Go.Proofs.YtbbmgcdocolakaaGreatDoor
open Go.RowKit
set_option maxRecDepth 100000
set_option linter.unusedVariables false

/-- A row's value; its list lies so. -/
def rv (t : Option Addr × Nat × List Int) : Value := .slice t.1 t.2.2.length t.2.1
def RowOK (w : World) (t : Option Addr × Nat × List Int) : Prop := Sl w 1 t.1 t.2.2.length (t.2.2.map (Value.int .i64)) ∧ t.2.2.length ≤ t.2.1 ∧ t.2.1 ≤ 9223372036854775807
theorem RowOK.keep {w w' : World} {t : Option Addr × Nat × List Int} (h : RowOK w t) (hb : Below w.heap.size w w') : RowOK w' t := ⟨h.1.keep hb, h.2⟩
theorem Sl.grownQ {w w' : World} {A : Option Addr} {n : Nat} {xs : List Value} {row : Option Nat} (h : Sl w 1 A n xs) (hg : w.grownBy w' row) (hA : ∀ x : Addr, A = some x → x.block < w.heap.size ∧ some x.block ≠ row) : Sl w' 1 A n xs := by
  refine ⟨h.1, fun hn => ?_⟩
  obtain ⟨b0, off, rfl, h2⟩ := h.2 hn
  refine ⟨b0, off, rfl, fun j v hj => ?_⟩
  exact (World.cell?_of_block (w := w) (a := ⟨b0, off + j, none⟩) (hg.block b0 (hA _ rfl).1 (hA _ rfl).2)).trans (h2 j v hj)
/-- The rows of a row of rows: each lies so, apart from the row itself. -/
def RowsOK (w : World) (nv : Value) (its : List (Option Addr × Nat × List Int)) : Prop := ∀ t ∈ its, RowOK w t ∧ ∀ x : Addr, t.1 = some x → x.block < w.heap.size ∧ some x.block ≠ nv.ownBlock
theorem RowsOK.keep {w w' : World} {nv : Value} {its : List (Option Addr × Nat × List Int)} (h : RowsOK w nv its) (hb : Below w.heap.size w w') : RowsOK w' nv its := fun t ht => ⟨(h t ht).1.keep hb, fun x hx => ⟨Nat.lt_of_lt_of_le ((h t ht).2 x hx).1 hb.size, ((h t ht).2 x hx).2⟩⟩
theorem RowsOK.grow {w w' : World} {nv nv' : Value} {its : List (Option Addr × Nat × List Int)} (h : RowsOK w nv its) (hg : Gr w w' nv nv') : RowsOK w' nv' its := fun t ht => by
  refine ⟨⟨(h t ht).1.1.grownQ hg.g (h t ht).2, (h t ht).1.2⟩, fun x hx => ?_⟩
  have h1 := (h t ht).2 x hx
  refine ⟨Nat.lt_of_lt_of_le h1.1 hg.size, fun e => ?_⟩
  rcases hg.at_ x.block e.symm with h3 | h3
  · exact h1.2 h3.symm
  · omega
theorem RowsOK.snoc {w : World} {nv : Value} {its : List (Option Addr × Nat × List Int)} {t : Option Addr × Nat × List Int} (h : RowsOK w nv its) (ht : RowOK w t ∧ ∀ x : Addr, t.1 = some x → x.block < w.heap.size ∧ some x.block ≠ nv.ownBlock) : RowsOK w nv (its ++ [t]) := fun u hu => by
  rcases List.mem_append.1 hu with hu | hu
  · exact h u hu
  · obtain rfl : u = t := by simpa using hu
    exact ht/-- Rows, each of which lies so. -/
def AllRows (w : World) (its : List (Option Addr × Nat × List Int)) : Prop := ∀ t ∈ its, RowOK w t
theorem AllRows.keep {w w' : World} {its : List (Option Addr × Nat × List Int)} (h : AllRows w its) (hb : Below w.heap.size w w') : AllRows w' its := fun t ht => (h t ht).keep hb
theorem its_row {its : List (Option Addr × Nat × List Int)} {k : Nat} (h : k < its.length) : ∃ D d l, its[k]? = some (D, d, l) ∧ (its.map (·.2.2))[k]? = some l :=
  ⟨its[k].1, its[k].2.1, its[k].2.2, by rw [List.getElem?_eq_getElem h], by rw [List.getElem?_map, List.getElem?_eq_getElem h]; rfl⟩
/-- A row of rows with one row more: a new one. -/
theorem rows_more {wr w5 w6 : World} {B j : Nat} {nv nv' : Value} {jts : List (Option Addr × Nat × List Int)} {g c : Nat} {l : List Int} {et : TypeId} (HO : wr.ownsRow B et 1 nv j (jts.map rv)) (HJ : RowsOK wr nv jts) (hb5 : Below wr.heap.size wr w5)
    (hit : RowOK w5 (some ⟨g, 0, none⟩, c, l)) (hg : wr.heap.size ≤ g) (hg5 : g < w5.heap.size) (hown6 : w6.ownsRow B et 1 nv' (j + 1) (jts.map rv ++ [rv (some ⟨g, 0, none⟩, c, l)])) (hgr : Gr w5 w6 nv nv') :
    w6.ownsRow B et 1 nv' (j + 1) ((jts ++ [((some ⟨g, 0, none⟩ : Option Addr), c, l)]).map rv) ∧ RowsOK w6 nv' (jts ++ [((some ⟨g, 0, none⟩ : Option Addr), c, l)]) := by
  refine ⟨by rw [List.map_append]; exact hown6, RowsOK.grow (RowsOK.snoc (HJ.keep hb5) ⟨hit, fun x hx => ?_⟩) hgr⟩
  cases hx
  refine ⟨hg5, fun (e : some g = nv.ownBlock) => ?_⟩
  have := (HO.lt g (Eq.symm e)).2
  omega
end Go.Proofs.YtbbmgcdocolakaaGreatDoor
