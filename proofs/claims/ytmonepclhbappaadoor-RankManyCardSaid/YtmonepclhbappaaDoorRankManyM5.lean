/-
  Part 5 of the proof of RankMany: SetsRef, SetsP, SetsOf, CmpS, SetsC, SetsD.
-/
import Derived.Test.YtmonepclhbappaaDoorRankManyM2
import Derived.Lib.SlicesCompact
import Derived.Shelf.Sort.Plain
import Derived.Shelf.Slices.In.SortNone
import Derived.Shelf.Slices.CompactI
import Derived.Sort.OwnSortedInts
import Derived.Lib.RowBridge
import Derived.Test.YtmonepclhbappaaDoorRankManyM4
/-
  The document's sets: Has, Add, Of.
-/
namespace Go.Proofs.YtmonepclhbappaaDoor
open Go.RowKit
set_option maxRecDepth 100000

set_option maxHeartbeats 1000000 in
theorem Has_any (l : List Int) (x : Int) (A : Option Addr) (n c : Nat) (w : World) (hn : n ≤ 9223372036854775807) (hl : l.length = n) (hs : Sl w 1 A n (l.map (Value.int .i64))) :
    Calls Tryd.prog 107 #[.slice A n c, .int .i64 x] w fun e w' => e = .returned (.bool (decide (x ∈ l))) ∧ w = w' := by
  go_enter Tryd.func107, Tryd.ntmps107
  go_wp2
  go_loop [5] (fun i => ∃ k : Nat, k ≤ n ∧ i = .int .i64 k ∧ x ∉ l.take k) (fun i => n - (intOf i).toNat)
  case atStart => exact ⟨0, Nat.zero_le _, rfl, by simp⟩
  case round =>
    obtain ⟨k, hk, rfl, hx⟩ := hrel
    by_cases hlt : k < n
    · have hj : k < l.length := by omega
      obtain ⟨b, off, u, rfl, e1, c1⟩ := hs.one hlt
      rw [List.getElem?_map, List.getElem?_eq_getElem hj] at e1
      obtain rfl := Option.some.inj e1
      have HM := Lib.hid (List.getElem_mem hj)
      have HT := Lib.hid (List.take_succ_eq_append_getElem hj)
      have HX := Lib.hid hx
      generalize l[k] = y at *
      clear e1 hx hs
      by_cases hxy : y = x
      · subst hxy
        go_wp2
        go_ret
        exact ⟨ret_bool (decide_eq_true HM.out).symm, rfl⟩
      · have hb1 : (y == x) = false := by simpa using hxy
        go_wp2
        go_round
        case rel =>
          refine ⟨k + 1, by omega, by go_num, ?_⟩
          rw [HT.out]
          simp only [List.mem_append, List.mem_singleton]
          rintro (h | h)
          · exact HX.out h
          · exact hxy h.symm
        case measure => simp [intOf]; omega
    · obtain rfl : k = n := by omega
      rw [List.take_of_length_le (by omega)] at hx
      have HX := Lib.hid hx
      clear hx hs
      go_wp2
      go_ret
      exact ⟨ret_bool (decide_eq_false HX.out).symm, rfl⟩

theorem one_ints (l : List Int) : ∀ u ∈ l.map (Value.int .i64), u.oneCell' = true := by
  intro u hu
  obtain ⟨x, _, rfl⟩ := List.mem_map.1 hu
  rfl
/-- Where a number stands among rising ones. -/
def rise (x : Int) : List Int → Nat
  | [] => 0
  | y :: l => if y < x then rise x l + 1 else 0
/-- With a number. -/
def addL (l : List Int) (x : Int) : List Int := if x ∈ l then l else l.take (rise x l) ++ [x] ++ l.drop (rise x l)
def setL (l : List Int) : List Int := l.foldl addL []
theorem rise_le (x : Int) : ∀ l : List Int, rise x l ≤ l.length
  | [] => Nat.le_refl _
  | y :: l => by rw [rise]; split; have := rise_le x l; simp; omega; exact Nat.zero_le _
theorem rise_all (x : Int) : ∀ (l : List Int) (k : Nat), k < rise x l → ∃ y, l[k]? = some y ∧ y < x
  | y :: l, 0, h => by
    rw [rise] at h
    split at h
    · exact ⟨y, rfl, ‹_›⟩
    · omega
  | y :: l, k + 1, h => by
    rw [rise] at h
    split at h
    · exact rise_all x l k (by omega)
    · omega
  | [], k, h => by simp [rise] at h
theorem rise_at (x : Int) : ∀ (l : List Int), rise x l < l.length → ∃ y, l[rise x l]? = some y ∧ ¬ y < x
  | [], h => by simp at h
  | y :: l, h => by
    rw [rise] at h ⊢
    split
    · rw [if_pos ‹_›] at h
      exact rise_at x l (by simpa using h)
    · exact ⟨y, rfl, ‹_›⟩

set_option maxHeartbeats 2000000 in
theorem Add_any (l : List Int) (x : Int) (A : Option Addr) (n c : Nat) (w : World) (hn : n ≤ 4294967296) (hnc : n ≤ c) (hcm : c ≤ 9223372036854775807) (hl : l.length = n) (hs : Sl w 1 A n (l.map (Value.int .i64))) :
    Calls Tryd.prog 94 #[.slice A n c, .int .i64 x] w fun e w' => ∃ D k, e = .returned (.slice D (addL l x).length k) ∧ (addL l x).length ≤ k ∧ k ≤ 9223372036854775807 ∧ Sl w' 1 D (addL l x).length ((addL l x).map (Value.int .i64)) ∧ Below w.heap.size w w' := by
  have HH := Lib.hid (Has_any l x A n c w (by omega) hl hs)
  have HS := Lib.hid hs
  clear hs
  go_enter Tryd.func94, Tryd.ntmps94
  by_cases hm : x ∈ l
  · rw [decide_eq_true hm] at HH
    have hA : addL l x = l := if_pos hm
    have HA := Lib.hid hA
    clear hA hm
    go_wp2_with fail
    refine HH.out.mono ?_
    rintro e w1 ⟨rfl, rfl⟩
    go_wp2_with fail
    go_ret
    exact ⟨A, c, ret_eq (show Value.slice A n c = _ by rw [HA.out, hl]), by rw [HA.out]; omega, hcm, by rw [HA.out, hl]; exact HS.out, Below.refl _ _⟩
  · rw [decide_eq_false hm] at HH
    have hA : addL l x = l.take (rise x l) ++ [x] ++ l.drop (rise x l) := if_neg hm
    have HA := Lib.hid hA
    have hrl := rise_le x l
    have HRA := Lib.hid (rise_all x l)
    have HRT := Lib.hid (rise_at x l)
    generalize hr : rise x l = r at hA HA hrl HRA HRT
    clear hA hm hr
    go_wp2_with fail
    refine HH.out.mono ?_
    rintro e w1 ⟨rfl, rfl⟩
    clear HH
    go_wp2_with fail
    go_loop [5] (fun i => ∃ k : Nat, k ≤ r ∧ i = .int .i64 k) (fun i => r - (intOf i).toNat)
    case atStart => exact ⟨0, Nat.zero_le _, rfl⟩
    case round =>
      obtain ⟨k, hk, rfl⟩ := hrel
      by_cases hlt : k < r
      · obtain ⟨b, off, u, rfl, e1, c1⟩ := HS.out.one (show k < n by omega)
        obtain ⟨y, hy, hyx⟩ := HRA.out k hlt
        rw [List.getElem?_map, hy] at e1
        obtain rfl := Option.some.inj e1
        clear hy e1
        go_wp2_with fail
        go_round
        case rel => exact ⟨k + 1, by omega, by go_num⟩
        case measure => simp [intOf]; omega
      · obtain rfl : k = r := by omega
        have hb0 := bel_al (Below.refl w.heap.size w) (.cells #[] 3)
        have hown0 : (w.alloc (.cells #[] 3)).ownsRow w.heap.size 3 1 (.slice (some ⟨w.heap.size, 0, none⟩) 0 0) 0 [] := by
          have := World.ownsRow_made (base := w.heap.size) (size := 1) (e := 3) w #[] 0 (Nat.le_refl _) (by unfold maxLen; omega) rfl
          simpa using this
        have HY2 := fun b off (h : A = some ⟨b, off, none⟩) W (hW : Below w.heap.size w W) => (show Sl W 1 (some ⟨b, off + k, none⟩) (n - k) ((l.drop k).map (Value.int .i64)) by rw [List.map_drop]; subst h; exact (HS.out.drop (show k ≤ n by omega)).keep hW)
        have HY2 := Lib.hid HY2
        have hy1 := (HS.out.take (show k ≤ n by omega)).keep hb0
        rw [← List.map_take] at hy1
        have HY1 := Lib.hid hy1
        clear hy1
        have HO1 := Lib.hid (one_ints (l.take k))
        have HO2 := Lib.hid (one_ints (l.drop k))
        by_cases hkn : k < n
        · obtain ⟨b, off, u, rfl, e1, c1⟩ := HS.out.one hkn
          obtain ⟨y, hy, hyx⟩ := HRT.out (by omega)
          rw [List.getElem?_map, hy] at e1
          obtain rfl := Option.some.inj e1
          clear hy e1
          go_wp2_with (first | (at_builtin; refine wpList_cat elemInt (w0 := w) _ _ rfl rfl hown0 hb0 (Nat.le_refl _) HY1.out rfl rfl HO1.out (by unfold lim; omega) (by unfold lim; omega) ?_; intro v1 w3 hown1 hb1 _) | (at_builtin; refine wpList_push elemInt (w0 := w) _ _ rfl rfl hown1 hb1 (Nat.le_refl _) rfl rfl rfl (by simp [Value.oneCell']) (by unfold lim; omega) (by unfold lim; omega) ?_; intro v2 w5 hown2 hb2) | (at_builtin; refine wpList_cat elemInt (w0 := w) _ _ rfl rfl hown2 hb2 (Nat.le_refl _) (HY2.out b off rfl w5 hb2) rfl rfl HO2.out (by unfold lim; omega) (by unfold lim; omega) ?_; intro v3 w6 hown3 hb3 _))
          go_ret
          obtain ⟨D, c3, rfl, hsl⟩ := Sl.own hown3
          have hcap := own_cap hown3
          refine ⟨D, c3, ret_eq (by rw [HA.out]; simp; omega), ?_, hcap.2, ?_, hb3⟩
          · rw [HA.out]; simp; omega
          · rw [HA.out, List.map_append, List.map_append]
            have : (l.take k ++ [x] ++ l.drop k).length = 0 + k + 1 + (n - k) := by simp; omega
            rw [this]
            simpa using hsl
        · have hkn' : k = n := by omega
          have hd : l.drop k = [] := List.drop_eq_nil_of_le (by omega)
          have HD := Lib.hid hd
          clear hd
          subst hkn'
          rcases A with _ | a
          · have hk0 : k = 0 := by
              rcases Nat.eq_zero_or_pos k with h | h
              · exact h
              · obtain ⟨_, _, _, hA, _⟩ := HS.out.one h
                cases hA
            subst hk0
            go_wp2_with (first | (at_builtin; refine wpList_cat elemInt (w0 := w) _ _ rfl rfl hown0 hb0 (Nat.le_refl _) HY1.out rfl rfl HO1.out (by unfold lim; omega) (by unfold lim; omega) ?_; intro v1 w3 hown1 hb1 _) | (at_builtin; refine wpList_push elemInt (w0 := w) _ _ rfl rfl hown1 hb1 (Nat.le_refl _) rfl rfl rfl (by simp [Value.oneCell']) (by unfold lim; omega) (by unfold lim; omega) ?_; intro v2 w5 hown2 hb2) | (at_builtin; refine wpList_cat elemInt (w0 := w) _ _ rfl rfl hown2 hb2 (Nat.le_refl _) (Sl.nil _ _ _) rfl rfl (by simp) (by unfold lim; omega) (by unfold lim; omega) ?_; intro v3 w6 hown3 hb3 _))
            all_goals
              go_ret
              obtain ⟨D, c3, rfl, hsl⟩ := Sl.own hown3
              have hcap := own_cap hown3
              refine ⟨D, c3, ret_eq (by rw [HA.out, HD.out]; simp), ?_, hcap.2, ?_, hb3⟩
              · rw [HA.out, HD.out]; simp; omega
              · rw [HA.out, HD.out, List.append_nil, List.map_append]
                have : (l.take 0 ++ [x]).length = 0 + 0 + 1 + 0 := by simp
                rw [this]
                simpa using hsl
          · go_wp2_with (first | (at_builtin; refine wpList_cat elemInt (w0 := w) _ _ rfl rfl hown0 hb0 (Nat.le_refl _) HY1.out rfl rfl HO1.out (by unfold lim; omega) (by unfold lim; omega) ?_; intro v1 w3 hown1 hb1 _) | (at_builtin; refine wpList_push elemInt (w0 := w) _ _ rfl rfl hown1 hb1 (Nat.le_refl _) rfl rfl rfl (by simp [Value.oneCell']) (by unfold lim; omega) (by unfold lim; omega) ?_; intro v2 w5 hown2 hb2) | (at_builtin; refine wpList_cat elemInt (w0 := w) _ _ rfl rfl hown2 hb2 (Nat.le_refl _) (Sl.nil _ _ _) rfl rfl (by simp) (by unfold lim; omega) (by unfold lim; omega) ?_; intro v3 w6 hown3 hb3 _))
            all_goals
              go_ret
              obtain ⟨D, c3, rfl, hsl⟩ := Sl.own hown3
              have hcap := own_cap hown3
              refine ⟨D, c3, ret_eq (by rw [HA.out, HD.out]; simp; omega), ?_, hcap.2, ?_, hb3⟩
              · rw [HA.out, HD.out]; simp; omega
              · rw [HA.out, HD.out, List.append_nil, List.map_append]
                have : (l.take k ++ [x]).length = 0 + k + 1 + 0 := by simp; omega
                rw [this]
                simpa using hsl

theorem addL_len (l : List Int) (x : Int) : (addL l x).length ≤ l.length + 1 := by
  unfold addL
  split
  · omega
  · have := rise_le x l
    simp
    omega
theorem addL_mem (l : List Int) (x y : Int) : y ∈ addL l x ↔ y ∈ l ∨ y = x := by
  unfold addL
  split
  · constructor
    · exact .inl
    · rintro (h | rfl)
      · exact h
      · assumption
  · have : y ∈ l ↔ y ∈ l.take (rise x l) ∨ y ∈ l.drop (rise x l) := by rw [← List.mem_append, List.take_append_drop]
    simp only [List.mem_append, List.mem_singleton, this]
    constructor
    · rintro ((h | h) | h) <;> simp [h]
    · rintro ((h | h) | h) <;> simp [h]
theorem rise_cut (x : Int) : ∀ l : List Int, (∀ y ∈ l.take (rise x l), y < x) ∧ (l.Pairwise (· < ·) → ∀ y ∈ l.drop (rise x l), ¬ y < x)
  | [] => by simp
  | z :: l => by
    have ih := rise_cut x l
    by_cases h : z < x
    · rw [rise, if_pos h, List.take_succ_cons, List.drop_succ_cons]
      exact ⟨fun y hy => by rcases List.mem_cons.1 hy with rfl | hy; exact h; exact ih.1 y hy, fun hp => ih.2 (List.pairwise_cons.1 hp).2⟩
    · rw [rise, if_neg h, List.take_zero, List.drop_zero]
      refine ⟨by simp, fun hp y hy => ?_⟩
      rcases List.mem_cons.1 hy with rfl | hy
      · exact h
      · have := (List.pairwise_cons.1 hp).1 y hy
        omega
theorem addL_inc (l : List Int) (x : Int) (h : l.Pairwise (· < ·)) : (addL l x).Pairwise (· < ·) := by
  unfold addL
  split
  · exact h
  · rename_i hm
    have hc := rise_cut x l
    have hd := hc.2 h
    have h' : (l.take (rise x l) ++ l.drop (rise x l)).Pairwise (· < ·) := by rw [List.take_append_drop]; exact h
    rw [List.pairwise_append] at h'
    rw [List.append_assoc, List.pairwise_append]
    refine ⟨h'.1, ?_, ?_⟩
    · rw [List.singleton_append, List.pairwise_cons]
      refine ⟨fun y hy => ?_, h'.2.1⟩
      have h1 := hd y hy
      have h2 : y ≠ x := fun e => hm (e ▸ List.mem_of_mem_drop hy)
      omega
    · intro a ha b hb
      rw [List.singleton_append] at hb
      rcases List.mem_cons.1 hb with rfl | hb
      · exact hc.1 a ha
      · exact h'.2.2 a ha b hb
theorem setL_snoc (l : List Int) (x : Int) : setL (l ++ [x]) = addL (setL l) x := by unfold setL; rw [List.foldl_append]; rfl
theorem foldl_inc : ∀ (l out : List Int), out.Pairwise (· < ·) → (l.foldl addL out).Pairwise (· < ·) ∧ ∀ y, y ∈ l.foldl addL out ↔ y ∈ out ∨ y ∈ l
  | [], out, h => ⟨h, by simp⟩
  | x :: l, out, h => by
    obtain ⟨h1, h2⟩ := foldl_inc l (addL out x) (addL_inc out x h)
    refine ⟨h1, fun y => ?_⟩
    rw [List.foldl_cons, h2, addL_mem, List.mem_cons, or_assoc]
theorem setL_inc (l : List Int) : (setL l).Pairwise (· < ·) := (foldl_inc l [] List.Pairwise.nil).1
theorem setL_mem (l : List Int) (y : Int) : y ∈ setL l ↔ y ∈ l := by have := (foldl_inc l [] List.Pairwise.nil).2 y; simpa [setL] using this
theorem setL_len : ∀ (l out : List Int), (l.foldl addL out).length ≤ out.length + l.length
  | [], _ => Nat.le_refl _
  | x :: l, out => by
    rw [List.foldl_cons]
    have := setL_len l (addL out x)
    have := addL_len out x
    simp
    omega
theorem inc_ext : ∀ {a b : List Int}, a.Pairwise (· < ·) → b.Pairwise (· < ·) → (∀ y, y ∈ a ↔ y ∈ b) → a = b
  | [], [], _, _, _ => rfl
  | [], y :: b, _, _, h => by have := (h y).2 (List.mem_cons_self ..); simp at this
  | x :: a, [], _, _, h => by have := (h x).1 (List.mem_cons_self ..); simp at this
  | x :: a, y :: b, ha, hb, h => by
    obtain ⟨ha1, ha2⟩ := List.pairwise_cons.1 ha
    obtain ⟨hb1, hb2⟩ := List.pairwise_cons.1 hb
    have hxy : x = y := by
      rcases List.mem_cons.1 ((h x).1 (List.mem_cons_self ..)) with e | e
      · exact e
      · rcases List.mem_cons.1 ((h y).2 (List.mem_cons_self ..)) with e' | e'
        · exact e'.symm
        · have := hb1 x e; have := ha1 y e'; omega
    subst hxy
    rw [inc_ext ha2 hb2 (fun z => ?_)]
    constructor
    · intro hz
      rcases List.mem_cons.1 ((h z).1 (List.mem_cons_of_mem _ hz)) with e | e
      · have := ha1 z hz; omega
      · exact e
    · intro hz
      rcases List.mem_cons.1 ((h z).2 (List.mem_cons_of_mem _ hz)) with e | e
      · have := hb1 z hz; omega
      · exact e
theorem setL_same {a b : List Int} (h : ∀ y, y ∈ a ↔ y ∈ b) : setL a = setL b := inc_ext (setL_inc a) (setL_inc b) (fun y => by rw [setL_mem, setL_mem]; exact h y)

end Go.Proofs.YtmonepclhbappaaDoor
/-
  Sets of numbers, plainly: the sorted list without its doubles is the document's set.
-/
namespace Go.Proofs.YtmonepclhbappaaDoor
open Go.Lib
set_option linter.unusedVariables false

theorem compact_upto (zs : List Int) (hs : zs.Pairwise (· ≤ ·)) : ∀ m, m ≤ zs.length → (compactUpTo zs.toArray m).Pairwise (· < ·) ∧ ∀ y, y ∈ compactUpTo zs.toArray m ↔ y ∈ zs.take m
  | 0, _ => ⟨by simp [compactUpTo], by simp [compactUpTo]⟩
  | m + 1, h => by
    obtain ⟨ih1, ih2⟩ := compact_upto zs hs m (by omega)
    have hm : m < zs.length := by omega
    have hd : ∀ j, j < zs.length → zs.toArray[j]! = zs.getD j 0 := fun j hj => by
      rw [getElem!_pos _ _ (by simpa using hj)]
      simp [List.getD_eq_getElem?_getD, List.getElem?_eq_getElem hj]
    have hT := List.take_succ_eq_append_getElem hm
    have hg : zs.getD m 0 = zs[m] := by simp [List.getD_eq_getElem?_getD, List.getElem?_eq_getElem hm]
    rw [compactUpTo_succ, hT]
    by_cases hk : keeps zs.toArray m = true
    · rw [if_pos hk, hd m hm, hg]
      refine ⟨List.pairwise_append.2 ⟨ih1, List.pairwise_singleton _ _, fun a ha b hb => ?_⟩, fun y => ?_⟩
      · obtain rfl : b = zs[m] := by simpa using hb
        have ha' := (ih2 a).1 ha
        unfold keeps at hk
        have hk' := of_decide_eq_true hk
        obtain ⟨i, hi, rfl⟩ := List.getElem_of_mem ha'
        rw [List.length_take] at hi
        have him : i < m := by omega
        rw [List.getElem_take]
        rcases hk' with h0 | hne
        · omega
        · have h1 : zs[m - 1]'(by omega) ≤ zs[m] := (List.pairwise_iff_getElem.1 hs) (m - 1) m (by omega) hm (by omega)
          have h2 : zs[i]'(by omega) ≤ zs[m - 1]'(by omega) := by
            by_cases e : i = m - 1
            · subst e; exact Int.le_refl _
            · exact (List.pairwise_iff_getElem.1 hs) i (m - 1) (by omega) (by omega) (by omega)
          rw [hd m hm, hd (m - 1) (by omega), hg] at hne
          have hg2 : zs.getD (m - 1) 0 = zs[m - 1]'(by omega) := by simp [List.getD_eq_getElem?_getD, List.getElem?_eq_getElem (show m - 1 < zs.length by omega)]
          rw [hg2] at hne
          have : zs[m - 1]'(by omega) < zs[m] := by omega
          omega
      · rw [List.mem_append, List.mem_append, ih2]
    · rw [if_neg hk, List.append_nil]
      refine ⟨ih1, fun y => ?_⟩
      rw [ih2, List.mem_append]
      refine ⟨.inl, fun h => h.elim id fun h => ?_⟩
      obtain rfl : y = zs[m] := by simpa using h
      unfold keeps at hk
      have hk' := of_decide_eq_false (Bool.eq_false_iff.2 hk)
      have h0 : ¬ m = 0 := fun e => hk' (.inl e)
      have h1 : zs.toArray[m]! = zs.toArray[m - 1]! := Classical.not_not.1 fun e => hk' (.inr e)
      rw [hd m hm, hd (m - 1) (by omega), hg] at h1
      rw [h1, List.getD_eq_getElem?_getD, List.getElem?_eq_getElem (show m - 1 < zs.length by omega)]
      exact List.mem_take_iff_getElem.2 ⟨m - 1, by omega, rfl⟩

theorem compact_sorted (l : List Int) : compact (l.mergeSort fun x y => decide (x ≤ y)) = setL l := by
  have hs : (l.mergeSort fun x y => decide (x ≤ y)).Pairwise (· ≤ ·) := by
    have := List.pairwise_mergeSort (le := fun (x y : Int) => decide (x ≤ y)) (fun a b c h1 h2 => by simp at *; omega) (fun a b => by simp; omega) l
    exact this.imp fun h => by simpa using h
  obtain ⟨h1, h2⟩ := compact_upto _ hs _ (Nat.le_refl _)
  refine inc_ext h1 (setL_inc l) (fun y => ?_)
  refine Iff.trans (h2 y) ?_
  rw [List.take_of_length_le (Nat.le_refl _), setL_mem]
  exact (List.mergeSort_perm l _).mem_iff
theorem setL_le (l : List Int) : (setL l).length ≤ l.length := by have := setL_len l []; simpa [setL] using this
end Go.Proofs.YtmonepclhbappaaDoor
/-
  slices.Sorted, slices.Compact, sets.Of.
-/
namespace Go.Proofs.YtmonepclhbappaaDoor
open Go.RowKit Go.Shelf
set_option maxRecDepth 100000
set_option linter.unusedVariables false

def sort_ren : Go.Shelf.Ren := ⟨fun | 125 => 126 | 128 => 145 | 129 => 132 | 189 => 105 | 215 => 80 | 216 => 112 | 257 => 125 | 294 => 137 | 295 => 138 | 296 => 139 | 297 => 140 | 298 => 141 | 299 => 142 | 300 => 143 | 301 => 144 | 328 => 148 | 329 => 149 | 330 => 150 | 331 => 151 | 332 => 152 | 343 => 153 | n => n, fun | 0 => 0 | 3 => 3 | 4 => 4 | 5 => 5 | 9 => 9 | 28 => 22 | 46 => 151 | 51 => 212 | 53 => 79 | 131 => 135 | 182 => 215 | 183 => 216 | 218 => 222 | 222 => 226 | 228 => 230 | 229 => 231 | n => n, fun | n => n⟩
theorem sort_lays : Go.Proofs.Lays.n189 Tryd.prog sort_ren := {
  mixed := by kernel_rfl
  f125 := Tryd.func126.trans (congrArg some (by kernel_rfl))
  f128 := Tryd.func145.trans (congrArg some (by kernel_rfl))
  f129 := Tryd.func132.trans (congrArg some (by kernel_rfl))
  f189 := Tryd.func105.trans (congrArg some (by kernel_rfl))
  f215 := Tryd.func80.trans (congrArg some (by kernel_rfl))
  f216 := Tryd.func112.trans (congrArg some (by kernel_rfl))
  f257 := Tryd.func125.trans (congrArg some (by kernel_rfl))
  f294 := Tryd.func137.trans (congrArg some (by kernel_rfl))
  f295 := Tryd.func138.trans (congrArg some (by kernel_rfl))
  f296 := Tryd.func139.trans (congrArg some (by kernel_rfl))
  f297 := Tryd.func140.trans (congrArg some (by kernel_rfl))
  f298 := Tryd.func141.trans (congrArg some (by kernel_rfl))
  f299 := Tryd.func142.trans (congrArg some (by kernel_rfl))
  f300 := Tryd.func143.trans (congrArg some (by kernel_rfl))
  f301 := Tryd.func144.trans (congrArg some (by kernel_rfl))
  f328 := Tryd.func148.trans (congrArg some (by kernel_rfl))
  f329 := Tryd.func149.trans (congrArg some (by kernel_rfl))
  f330 := Tryd.func150.trans (congrArg some (by kernel_rfl))
  f331 := Tryd.func151.trans (congrArg some (by kernel_rfl))
  f332 := Tryd.func152.trans (congrArg some (by kernel_rfl))
  f343 := Tryd.func153.trans (congrArg some (by kernel_rfl))
  t0 := Tryd.underlying0
  a0 := Tryd.isAgg0
  z0 := Tryd.sizeOf0
  v0 := Tryd.zeroValue0
  t3 := Tryd.underlying3
  a3 := Tryd.isAgg3
  z3 := Tryd.sizeOf3
  v3 := Tryd.zeroValue3
  t4 := Tryd.underlying4
  a4 := Tryd.isAgg4
  z4 := Tryd.sizeOf4
  v4 := Tryd.zeroValue4
  t5 := Tryd.underlying5
  a5 := Tryd.isAgg5
  z5 := Tryd.sizeOf5
  v5 := Tryd.zeroValue5
  t9 := Tryd.underlying9
  a9 := Tryd.isAgg9
  z9 := Tryd.sizeOf9
  v9 := Tryd.zeroValue9
  t28 := Tryd.underlying22
  a28 := Tryd.isAgg22
  z28 := Tryd.sizeOf22
  v28 := Tryd.zeroValue22
  t46 := Tryd.underlying151
  a46 := Tryd.isAgg151
  z46 := Tryd.sizeOf151
  v46 := Tryd.zeroValue151
  t51 := Tryd.underlying212
  a51 := Tryd.isAgg212
  z51 := Tryd.sizeOf212
  v51 := Tryd.zeroValue212
  t53 := Tryd.underlying79
  a53 := Tryd.isAgg79
  z53 := Tryd.sizeOf79
  v53 := Tryd.zeroValue79
  t131 := Tryd.underlying135
  a131 := Tryd.isAgg135
  z131 := Tryd.sizeOf135
  v131 := Tryd.zeroValue135
  t182 := Tryd.underlying215
  a182 := Tryd.isAgg215
  z182 := Tryd.sizeOf215
  v182 := Tryd.zeroValue215
  t183 := Tryd.underlying216
  a183 := Tryd.isAgg216
  z183 := Tryd.sizeOf216
  v183 := Tryd.zeroValue216
  t218 := Tryd.underlying222
  a218 := Tryd.isAgg222
  z218 := Tryd.sizeOf222
  v218 := Tryd.zeroValue222
  t222 := Tryd.underlying226
  a222 := Tryd.isAgg226
  z222 := Tryd.sizeOf226
  v222 := Tryd.zeroValue226
  t228 := Tryd.underlying230
  a228 := Tryd.isAgg230
  z228 := Tryd.sizeOf230
  v228 := Tryd.zeroValue230
  t229 := Tryd.underlying231
  a229 := Tryd.isAgg231
  z229 := Tryd.sizeOf231
  v229 := Tryd.zeroValue231 }

def comp_ren : Go.Shelf.Ren := ⟨fun | 20 => 121 | n => n, fun | 0 => 0 | 3 => 3 | 4 => 4 | 22 => 22 | n => n, fun | n => n⟩
theorem comp_lays : Go.Proofs.Lays2.n20 Tryd.prog comp_ren := {
  mixed := by kernel_rfl
  f20 := Tryd.func121.trans (congrArg some (by kernel_rfl))
  t0 := Tryd.underlying0
  a0 := Tryd.isAgg0
  z0 := Tryd.sizeOf0
  v0 := Tryd.zeroValue0
  t3 := Tryd.underlying3
  a3 := Tryd.isAgg3
  z3 := Tryd.sizeOf3
  v3 := Tryd.zeroValue3
  t4 := Tryd.underlying4
  a4 := Tryd.isAgg4
  z4 := Tryd.sizeOf4
  v4 := Tryd.zeroValue4
  t22 := Tryd.underlying22
  a22 := Tryd.isAgg22
  z22 := Tryd.sizeOf22
  v22 := Tryd.zeroValue22
  i3 := by kernel_rfl }

/-- The head of an own row. -/
theorem own_head {w : World} {B g n k c : Nat} {e : TypeId} {xs : List Value} (h : w.ownsRow B e 1 (.slice (some ⟨g, 0, none⟩) n c) n xs) (hk : k ≤ n) : w.ownsRow B e 1 (.slice (some ⟨g, 0, none⟩) k c) k (xs.take k) := by
  rcases h.2 with ⟨h0, _⟩ | ⟨g', cap', cur, hv, hg, hgb, hn, hcap, hsz, ht⟩
  · cases h0
  cases hv
  have hx := h.1
  refine ⟨by rw [List.length_take]; omega, .inr ⟨g, c, cur, rfl, hg, hgb, by omega, hcap, hsz, ?_⟩⟩
  rw [Nat.mul_one] at ht ⊢
  rw [← ht, List.take_take, Nat.min_eq_left hk]

set_option maxHeartbeats 2000000 in
theorem Sorted_any (l : List Int) (A : Option Addr) (n c : Nat) (Bs : Nat) (w : World) (hsB : w.cell? ⟨Bs, 0, none⟩ = some (.slice A n c)) (hBs : Bs < w.heap.size)
    (hl : l.length = n) (hn : n ≤ 1048576) (hA : Sl w 1 A n (l.map (Value.int .i64))) (hAQ : 0 < n → ∀ x : Addr, A = some x → x.block < w.heap.size) :
    Calls Tryd.prog 92 #[.func (.func 136) #[] #[.pointer (some ⟨Bs, 0, none⟩)]] w fun e w' => ∃ v, e = .returned v ∧ w'.ownsRow w.heap.size 3 1 v n ((l.mergeSort fun x y => decide (x ≤ y)).map (Value.int .i64)) ∧ Below w.heap.size w w' := by
  have HC := Lib.hid (Collect_any l A n c Bs w hsB hBs hl hn hA hAQ)
  clear hsB hBs hA hAQ
  go_enter Tryd.func92, Tryd.ntmps92
  go_wp2_with fail
  refine HC.out.mono ?_
  rintro e W ⟨v, rfl, hrow, hb⟩
  have hlm : (l.mergeSort fun x y => decide (x ≤ y)).length = l.length := List.length_mergeSort _
  rcases hrow.2 with ⟨rfl, hz⟩ | ⟨gb, cap, cur, rfl, hbase, hgb, r1, r2, r3, r4⟩
  · subst hz
    have hle : l = [] := List.eq_nil_of_length_eq_zero hl
    have HO := Lib.hid hrow
    have HB := Lib.hid hb
    have HS := Lib.hid (Go.Proofs.Any.slices_Sort_int_none sort_lays none 0 W)
    clear hrow hb HC
    go_wp2_with fail
    refine HS.out.mono ?_
    rintro e w' ⟨rfl, rfl⟩
    go_wp2_with fail
    go_ret
    refine ⟨_, rfl, ?_, HB.out⟩
    rw [hle, List.mergeSort_nil]
    exact World.ownsRow_nil _ _ _ _
  · have hH : Go.Sort.Holds (Value.int .i64) W gb 0 l.toArray := holds_of_blockI hgb (by rw [hl]; simpa using r4)
    have hgl : gb < W.heap.size := (Array.getElem?_eq_some_iff.1 hgb).1
    have hs := Go.Proofs.Any.slices_Sort_int sort_lays gb 0 cap l W hH hgl (by omega)
    rw [hl] at hs
    have HS := Lib.hid hs
    have HO := Lib.hid (fun (nn : Nat) (os : Array Obj) => ownsRow_sortedI (n := nn) (os := os) (ss := l) (ts := l.mergeSort fun x y => decide (x ≤ y)) hlm hbase hgb (by omega) r2 r3)
    have HB := Lib.hid hb
    have HH := Lib.hid hbase
    clear hs hH hrow hb HC hgb r1 r2 r3 r4 hgl hbase
    go_wp2_with fail
    refine HS.out.mono ?_
    rintro e w' ⟨rfl, nn, os, hw'⟩
    have HW := Lib.hid hw'
    clear hw'
    go_wp2_with fail
    go_ret
    have ho := HO.out nn os
    rw [hl] at ho
    rw [HW.out]
    exact ⟨_, rfl, ho, HB.out.grown (grownBy_sortedI _) HB.out.size (fun j hj => by cases hj; exact HH.out)⟩

set_option maxHeartbeats 2000000 in
theorem CompactI_any (l : List Int) (v : Value) (n B : Nat) (w : World) (hl : l.length = n) (hn : n ≤ 1048576) (hrow : w.ownsRow B 3 1 v n (l.map (Value.int .i64))) (hB : B ≤ w.heap.size) :
    Calls Tryd.prog 121 #[v] w fun e w' => ∃ v', e = .returned v' ∧ w'.ownsRow B 3 1 v' (Go.Lib.compact l).length ((Go.Lib.compact l).map (Value.int .i64)) ∧ Below B w w' := by
  rcases hrow.2 with ⟨rfl, hz⟩ | ⟨gb, cap, cur, rfl, hbase, hgb, r1, r2, r3, r4⟩
  · subst hz
    have hle : l = [] := List.eq_nil_of_length_eq_zero hl
    subst hle
    refine (Go.Proofs.Any.slices_Compact_int_empty comp_lays none 0 w).mono ?_
    rintro e w' ⟨rfl, rfl⟩
    exact ⟨_, rfl, World.ownsRow_nil _ _ _ _, Below.refl _ _⟩
  · have hH : Go.Sort.Holds (Value.int .i64) w gb 0 l.toArray := holds_of_blockI hgb (by rw [hl]; simpa using r4)
    have hs := Go.Proofs.Any.slices_Compact_int comp_lays gb 0 cap l w hH (by omega) (by omega)
    rw [hl] at hs
    refine hs.mono ?_
    rintro e w' ⟨rfl, q, rfl⟩
    have hle := Go.Lib.compact_length_le l
    generalize Go.Lib.compact l = ts at *
    have ho := ownsRow_sortedI (n := q) (os := #[]) (ss := l) (ts := ts ++ List.replicate (n - ts.length) 0) (by simp; omega) hbase hgb (by omega) r2 r3
    rw [Go.Sort.grow_empty, hl] at ho
    have hg := grownBy_sortedI (w := w) (g := gb) (n := q) (os := #[]) (ts ++ List.replicate (n - ts.length) 0).toArray
    rw [Go.Sort.grow_empty] at hg
    have h2 := own_head ho (k := ts.length) (by omega)
    rw [← List.map_take, List.take_left' rfl] at h2
    exact ⟨_, rfl, h2, (Below.refl B w).grown hg hB (fun j hj => by cases hj; exact hbase)⟩

set_option maxHeartbeats 2000000 in
/-- sets.Of: the document's set, in a new row. -/
theorem Of_any (l : List Int) (A : Option Addr) (n c : Nat) (w : World) (hl : l.length = n) (hn : n ≤ 1048576) (hA : Sl w 1 A n (l.map (Value.int .i64))) (hAQ : 0 < n → ∀ x : Addr, A = some x → x.block < w.heap.size) :
    Calls Tryd.prog 102 #[.slice A n c] w fun e w' => ∃ v, e = .returned v ∧ w'.ownsRow w.heap.size 3 1 v (setL l).length ((setL l).map (Value.int .i64)) ∧ Below w.heap.size w w' := by
  have hb0 := bel_al (Below.refl w.heap.size w) (.cells #[.slice A n c] 22)
  have hbx := Boxed.new w 22 (.slice A n c)
  have hsz : (w.alloc (.cells #[.slice A n c] 22)).heap.size = w.heap.size + 1 := by simp
  have HV := Lib.hid (Values_any A n c w)
  have HS := Lib.hid (Sorted_any l A n c w.heap.size (w.alloc (.cells #[.slice A n c] 22)) hbx.cell hbx.lt hl hn (hA.keep hb0) (fun h x hx => by rw [hsz]; have := hAQ h x hx; omega))
  have HB0 := Lib.hid hb0
  have HZ := Lib.hid hsz
  clear hA hAQ hbx hb0 hsz
  go_enter Tryd.func102, Tryd.ntmps102
  go_wp2_with fail
  refine HV.out.mono ?_
  rintro e w1 ⟨rfl, rfl⟩
  clear HV
  go_wp2_with fail
  refine HS.out.mono ?_
  rintro e w2 ⟨v, rfl, hrow, hb⟩
  have hrow' := own_mono hrow (show w.heap.size ≤ _ from by rw [HZ.out]; omega)
  have hb2 := HB0.out.andThen hb
  have HC := Lib.hid (CompactI_any (l.mergeSort fun x y => decide (x ≤ y)) v n w.heap.size w2 ((List.length_mergeSort _).trans hl) hn hrow' hb2.size)
  rw [compact_sorted] at HC
  have HB := Lib.hid hb2
  clear hrow hrow' hb hb2 HS
  go_wp2_with fail
  refine HC.out.mono ?_
  rintro e w3 ⟨v', rfl, hrow3, hb3⟩
  have HR := Lib.hid hrow3
  have HB3 := Lib.hid (HB.out.trans hb3)
  clear hrow3 hb3 HC
  go_wp2_with fail
  go_ret
  exact ⟨_, rfl, HR.out, HB3.out⟩
end Go.Proofs.YtmonepclhbappaaDoor
/-
  cmp.Compare and slices.Compare at ints.
-/
namespace Go.Proofs.YtmonepclhbappaaDoor
open Go.RowKit
set_option maxRecDepth 100000
set_option linter.unusedVariables false

def cmpI (x y : Int) : Int := if x < y then -1 else if y < x then 1 else 0
def cmpL : List Int → List Int → Int
  | [], [] => 0
  | [], _ :: _ => -1
  | _ :: _, [] => 1
  | x :: a, y :: b => if x < y then -1 else if y < x then 1 else cmpL a b
theorem cmpL_range : ∀ a b : List Int, cmpL a b = -1 ∨ cmpL a b = 0 ∨ cmpL a b = 1
  | [], [] => .inr (.inl rfl)
  | [], _ :: _ => .inl rfl
  | _ :: _, [] => .inr (.inr rfl)
  | x :: a, y :: b => by
    rw [cmpL]
    split
    · exact .inl rfl
    · split
      · exact .inr (.inr rfl)
      · exact cmpL_range a b
theorem cmpL_neg : ∀ a b : List Int, cmpL b a = - cmpL a b
  | [], [] => rfl
  | [], _ :: _ => rfl
  | _ :: _, [] => rfl
  | x :: a, y :: b => by
    rw [cmpL, cmpL]
    by_cases h : x < y
    · rw [if_neg (by omega), if_pos h, if_pos h]; rfl
    · by_cases h2 : y < x
      · rw [if_pos h2, if_neg h, if_pos h2]
      · rw [if_neg h2, if_neg h, if_neg h, if_neg h2]
        exact cmpL_neg a b
theorem cmpL_zero : ∀ {a b : List Int}, cmpL a b = 0 ↔ a = b
  | [], [] => by simp [cmpL]
  | [], _ :: _ => by simp [cmpL]
  | _ :: _, [] => by simp [cmpL]
  | x :: a, y :: b => by
    rw [cmpL]
    split
    · rename_i h
      simp
      omega
    · split
      · rename_i h1 h
        simp
        omega
      · rename_i h1 h2
        rw [cmpL_zero]
        simp
        omega
theorem cmpL_drop {a b : List Int} {i : Nat} {x y : Int} (ha : a[i]? = some x) (hb : b[i]? = some y) : cmpL (a.drop i) (b.drop i) = if x < y then -1 else if y < x then 1 else cmpL (a.drop (i + 1)) (b.drop (i + 1)) := by
  obtain ⟨h1, h2⟩ := List.getElem?_eq_some_iff.1 ha
  obtain ⟨h3, h4⟩ := List.getElem?_eq_some_iff.1 hb
  rw [List.drop_eq_getElem_cons h1, List.drop_eq_getElem_cons h3, h2, h4, cmpL]

theorem CmpI_any (x y : Int) (w : World) : Calls Tryd.prog 47 #[.int .i64 x, .int .i64 y] w fun e w' => e = .returned (.int .i64 (cmpI x y)) ∧ w = w' := by
  have HN := Lib.hid (show ∀ (z : Int) W, Calls Tryd.prog 80 #[.int .i64 z] W fun e w' => e = .returned (.bool false) ∧ W = w' from fun z W => by
    go_enter Tryd.func80, Tryd.ntmps80
    have hb : (z != z) = false := by simp
    go_wp2_with fail
    go_ret
    exact ⟨rfl, rfl⟩)
  by_cases h : x < y
  · have hE := Lib.hid (show cmpI x y = -1 from if_pos h)
    go_enter Tryd.func47, Tryd.ntmps47
    go_wp2_with (go_at_call 80; refine (HN.out _ _).mono ?_; rintro e w' ⟨rfl, rfl⟩)
    go_ret
    exact ⟨ret_int hE.out.symm, rfl⟩
  · by_cases h2 : y < x
    · have hE := Lib.hid (show cmpI x y = 1 by unfold cmpI; rw [if_neg h, if_pos h2])
      go_enter Tryd.func47, Tryd.ntmps47
      go_wp2_with (go_at_call 80; refine (HN.out _ _).mono ?_; rintro e w' ⟨rfl, rfl⟩)
      go_ret
      exact ⟨ret_int hE.out.symm, rfl⟩
    · have hE := Lib.hid (show cmpI x y = 0 by unfold cmpI; rw [if_neg h, if_neg h2])
      go_enter Tryd.func47, Tryd.ntmps47
      go_wp2_with (go_at_call 80; refine (HN.out _ _).mono ?_; rintro e w' ⟨rfl, rfl⟩)
      go_ret
      exact ⟨ret_int hE.out.symm, rfl⟩

set_option maxHeartbeats 2000000 in
theorem CompareI_any (a b : List Int) (A B : Option Addr) (n m c d : Nat) (w : World) (hl : a.length = n) (hm : b.length = m) (hs : Sl w 1 A n (a.map (Value.int .i64))) (ht : Sl w 1 B m (b.map (Value.int .i64))) (hn : n ≤ 9223372036854775806) :
    Calls Tryd.prog 48 #[.slice A n c, .slice B m d] w fun e w' => e = .returned (.int .i64 (cmpL a b)) ∧ w = w' := by
  have HS := Lib.hid hs
  have HT := Lib.hid ht
  have HL := Lib.hid hl
  have HM := Lib.hid hm
  clear hs ht hl hm
  go_enter Tryd.func48, Tryd.ntmps48
  go_wp2_with fail
  go_loop [11] (fun i => ∃ k : Nat, k ≤ n ∧ k ≤ m ∧ i = .int .i64 k ∧ cmpL (a.drop k) (b.drop k) = cmpL a b) (fun i => n - (intOf i).toNat)
  case atStart => exact ⟨0, Nat.zero_le _, Nat.zero_le _, rfl, rfl⟩
  case round =>
    obtain ⟨k, hk, hkm, rfl, hd⟩ := hrel
    have HD := Lib.hid hd
    clear hd
    by_cases hlt : k < n
    · have hlt' : (k : Int) < (n : Int) := by omega
      obtain ⟨x, hx⟩ : ∃ x, a[k]? = some x := ⟨_, List.getElem?_eq_getElem (by rw [HL.out]; exact hlt)⟩
      obtain ⟨b1, off1, rfl, _⟩ := HS.out.at_ (show 0 < n by omega)
      have c1 := HS.out.again hlt (show (a.map (Value.int .i64))[k]? = some (.int .i64 x) by rw [List.getElem?_map, hx]; rfl)
      by_cases hlm : k < m
      · have hlm' : (k : Int) < (m : Int) := by omega
        have hlm2 : ¬ (m : Int) ≤ (k : Int) := by omega
        obtain ⟨y, hy⟩ : ∃ y, b[k]? = some y := ⟨_, List.getElem?_eq_getElem (by rw [HM.out]; exact hlm)⟩
        obtain ⟨b2, off2, rfl, _⟩ := HT.out.at_ (show 0 < m by omega)
        have c2 := HT.out.again hlm (show (b.map (Value.int .i64))[k]? = some (.int .i64 y) by rw [List.getElem?_map, hy]; rfl)
        have HE := Lib.hid (HD.out.symm.trans (cmpL_drop hx hy))
        clear hx hy
        by_cases hxy : x < y
        · rw [if_pos hxy] at HE
          have hc : cmpI x y = -1 := if_pos hxy
          have hne : (cmpI x y == 0) = false := by rw [hc]; rfl
          have HC := Lib.hid (hc.trans HE.out.symm)
          clear hc
          go_wp2_with (go_at_call 47; refine (CmpI_any x y _).mono ?_; rintro e w' ⟨rfl, rfl⟩)
          go_ret
          exact ⟨ret_int HC.out, rfl⟩
        · rw [if_neg hxy] at HE
          by_cases hyx : y < x
          · rw [if_pos hyx] at HE
            have hc : cmpI x y = 1 := by unfold cmpI; rw [if_neg hxy, if_pos hyx]
            have hne : (cmpI x y == 0) = false := by rw [hc]; rfl
            have HC := Lib.hid (hc.trans HE.out.symm)
            clear hc
            go_wp2_with (go_at_call 47; refine (CmpI_any x y _).mono ?_; rintro e w' ⟨rfl, rfl⟩)
            go_ret
            exact ⟨ret_int HC.out, rfl⟩
          · rw [if_neg hyx] at HE
            have hc : cmpI x y = 0 := by unfold cmpI; rw [if_neg hxy, if_neg hyx]
            go_wp2_with (go_at_call 47; refine (CmpI_any x y _).mono ?_; rintro e w' ⟨rfl, rfl⟩)
            go_round
            case rel => exact ⟨k + 1, by omega, by omega, by go_num, HE.out.symm⟩
            case measure => simp [intOf]; omega
      · obtain rfl : k = m := by omega
        have hlm2 : (k : Int) ≤ (k : Int) := by omega
        have HE := Lib.hid (show 1 = cmpL a b by
          rw [← HD.out]
          obtain ⟨h1, h2⟩ := List.getElem?_eq_some_iff.1 hx
          rw [List.drop_eq_getElem_cons h1, List.drop_of_length_le (l := b) (by rw [HM.out]; exact Nat.le_refl _)]; rfl)
        clear hx
        go_wp2_with fail
        go_ret
        exact ⟨ret_int HE.out, rfl⟩
    · obtain rfl : k = n := by omega
      have hlt' : ¬ (k : Int) < (k : Int) := by omega
      by_cases hkm' : k < m
      · have hkm2 : (k : Int) < (m : Int) := by omega
        have HE := Lib.hid (show -1 = cmpL a b by
          rw [← HD.out, List.drop_of_length_le (l := a) (by rw [HL.out]; exact Nat.le_refl _), List.drop_eq_getElem_cons (l := b) (by rw [HM.out]; exact hkm')]; rfl)
        go_wp2_with fail
        go_ret
        exact ⟨ret_int HE.out, rfl⟩
      · obtain rfl : k = m := by omega
        have HE := Lib.hid (show 0 = cmpL a b by
          rw [← HD.out, List.drop_of_length_le (l := a) (by rw [HL.out]; exact Nat.le_refl _), List.drop_of_length_le (l := b) (by rw [HM.out]; exact Nat.le_refl _)]; rfl)
        go_wp2_with fail
        go_ret
        exact ⟨ret_int HE.out, rfl⟩
end Go.Proofs.YtmonepclhbappaaDoor
/-
  Lists held against each other; which lists rise: the given program's and the document's.
-/
namespace Go.Proofs.YtmonepclhbappaaDoor
open Go.RowKit
set_option maxRecDepth 100000
set_option linter.unusedVariables false

end Go.Proofs.YtmonepclhbappaaDoor
/-
  sets.Right; the document's Compare.
-/
namespace Go.Proofs.YtmonepclhbappaaDoor
open Go.RowKit
set_option maxRecDepth 100000
set_option linter.unusedVariables false

abbrev Inc (l : List Int) : Prop := l.Pairwise (· < ·)
theorem inc_take {l : List Int} {k : Nat} {x y : Int} (hx : l[k]? = some x) (hy : l[k + 1]? = some y) : Inc (l.take (k + 2)) ↔ Inc (l.take (k + 1)) ∧ x < y := by
  obtain ⟨h1, h2⟩ := List.getElem?_eq_some_iff.1 hx
  obtain ⟨h3, h4⟩ := List.getElem?_eq_some_iff.1 hy
  rw [List.take_succ_eq_append_getElem h3, h4]
  unfold Inc
  rw [List.pairwise_append]
  constructor
  · rintro ⟨ha, _, hb⟩
    refine ⟨ha, hb x ?_ y (by simp)⟩
    rw [List.take_succ_eq_append_getElem h1, h2]; simp
  · rintro ⟨ha, hb⟩
    refine ⟨ha, List.pairwise_singleton _ _, fun a ha' b hb' => ?_⟩
    obtain rfl : b = y := by simpa using hb'
    rw [List.take_succ_eq_append_getElem h1, h2] at ha ha'
    rcases List.mem_append.1 ha' with h | h
    · have := (List.pairwise_append.1 ha).2.2 a h x (by simp)
      omega
    · obtain rfl : a = x := by simpa using h
      exact hb
theorem inc_one (l : List Int) : Inc (l.take 1) := by cases l <;> simp [Inc]
theorem inc_prefix {l : List Int} {k : Nat} (h : Inc l) : Inc (l.take k) := h.sublist (List.take_sublist _ _)

set_option maxHeartbeats 2000000 in
theorem RefCompare_any (a b : List Int) (A B : Option Addr) (n m c d : Nat) (w : World) (hl : a.length = n) (hm : b.length = m) (hs : Sl w 1 A n (a.map (Value.int .i64))) (ht : Sl w 1 B m (b.map (Value.int .i64))) (hn : n ≤ 9223372036854775806) :
    Calls Tryd.prog 27 #[.slice A n c, .slice B m d] w fun e w' => e = .returned (.int .i64 (cmpL a b)) ∧ Below w.heap.size w w' := by
  have HS := Lib.hid hs
  have HT := Lib.hid ht
  have HL := Lib.hid hl
  have HM := Lib.hid hm
  clear hs ht hl hm
  go_enter Tryd.func27, Tryd.ntmps27
  go_wp2_with fail
  go_loopw [5] (fun i wr => ∃ k : Nat, k ≤ n ∧ k ≤ m ∧ i = .int .i64 k ∧ cmpL (a.drop k) (b.drop k) = cmpL a b ∧ Below w.heap.size w wr) (fun i _ => n - (intOf i).toNat)
  case atStart => exact ⟨0, Nat.zero_le _, Nat.zero_le _, rfl, rfl, Below.refl _ _⟩
  case round =>
    obtain ⟨k, hk, hkm, rfl, hd, hb⟩ := hrel
    have HD := Lib.hid hd
    have HB := Lib.hid hb
    clear hd hb
    by_cases hlt : k < n
    · have hlt' : (k : Int) < (n : Int) := by omega
      obtain ⟨x, hx⟩ : ∃ x, a[k]? = some x := ⟨_, List.getElem?_eq_getElem (by rw [HL.out]; exact hlt)⟩
      obtain ⟨b1, off1, rfl, _⟩ := HS.out.at_ (show 0 < n by omega)
      have c1 := (HS.out.keep HB.out).again hlt (show (a.map (Value.int .i64))[k]? = some (.int .i64 x) by rw [List.getElem?_map, hx]; rfl)
      by_cases hlm : k < m
      · have hlm' : (k : Int) < (m : Int) := by omega
        obtain ⟨y, hy⟩ : ∃ y, b[k]? = some y := ⟨_, List.getElem?_eq_getElem (by rw [HM.out]; exact hlm)⟩
        obtain ⟨b2, off2, rfl, _⟩ := HT.out.at_ (show 0 < m by omega)
        have c2 := (HT.out.keep HB.out).again hlm (show (b.map (Value.int .i64))[k]? = some (.int .i64 y) by rw [List.getElem?_map, hy]; rfl)
        have HE := Lib.hid (HD.out.symm.trans (cmpL_drop hx hy))
        clear hx hy
        have h0k : (0 : Int) ≤ (k : Int) := by omega
        have hwi : IntKind.i64.wrap ((k : Int) + 1) = ((k + 1 : Nat) : Int) := by rw [IntKind.wrap_i64]; omega
        by_cases hxy : x < y
        · rw [if_pos hxy] at HE
          go_wp2_with fail
          go_quiet (fail)
          go_wp2_with fail
          go_ret
          exact ⟨ret_int HE.out.symm, bel_drewN HB.out _⟩
        · rw [if_neg hxy] at HE
          by_cases hyx : y < x
          · rw [if_pos hyx] at HE
            go_wp2_with fail
            go_quiet (fail)
            obtain ⟨w1, hw1⟩ : ∃ w1, w1 = wr.drewN nq := ⟨_, rfl⟩
            rw [← hw1]
            have HW1 := Lib.hid (show Below w.heap.size w w1 from by rw [hw1]; exact bel_drewN HB.out _)
            have c1' : w1.cell? ⟨b1, off1 + k, none⟩ = some (.int .i64 x) := by rw [hw1]; exact c1
            have c2' : w1.cell? ⟨b2, off2 + k, none⟩ = some (.int .i64 y) := by rw [hw1]; exact c2
            clear hw1
            go_wp2_with fail
            go_quiet (fail)
            go_wp2_with fail
            go_ret
            exact ⟨ret_int HE.out.symm, bel_drewN HW1.out _⟩
          · rw [if_neg hyx] at HE
            go_wp2_with fail
            go_quiet (fail)
            obtain ⟨w1, hw1⟩ : ∃ w1, w1 = wr.drewN nq := ⟨_, rfl⟩
            rw [← hw1]
            have HW1 := Lib.hid (show Below w.heap.size w w1 from by rw [hw1]; exact bel_drewN HB.out _)
            have c1' : w1.cell? ⟨b1, off1 + k, none⟩ = some (.int .i64 x) := by rw [hw1]; exact c1
            have c2' : w1.cell? ⟨b2, off2 + k, none⟩ = some (.int .i64 y) := by rw [hw1]; exact c2
            clear hw1
            go_wp2_with fail
            go_quiet (fail)
            go_wp2_with fail
            go_roundw
            case rel => exact ⟨k + 1, by omega, by omega, by go_num, HE.out.symm, bel_drewN HW1.out _⟩
            case measure => simp [intOf]; omega
      · obtain rfl : k = m := by omega
        have hlm2 : ¬ (k : Int) < (k : Int) := by omega
        have hnk : ¬ (n : Int) < (k : Int) := by omega
        have HE := Lib.hid (show 1 = cmpL a b by
          rw [← HD.out]
          obtain ⟨h1, h2⟩ := List.getElem?_eq_some_iff.1 hx
          rw [List.drop_eq_getElem_cons h1, List.drop_of_length_le (l := b) (by rw [HM.out]; exact Nat.le_refl _)]; rfl)
        clear hx
        go_wp2_with fail
        go_ret
        exact ⟨ret_int HE.out, HB.out⟩
    · obtain rfl : k = n := by omega
      have hlt' : ¬ (k : Int) < (k : Int) := by omega
      by_cases hkm' : k < m
      · have hkm2 : (k : Int) < (m : Int) := by omega
        have HE := Lib.hid (show -1 = cmpL a b by
          rw [← HD.out, List.drop_of_length_le (l := a) (by rw [HL.out]; exact Nat.le_refl _), List.drop_eq_getElem_cons (l := b) (by rw [HM.out]; exact hkm')]; rfl)
        go_wp2_with fail
        go_ret
        exact ⟨ret_int HE.out, HB.out⟩
      · obtain rfl : k = m := by omega
        have HE := Lib.hid (show 0 = cmpL a b by
          rw [← HD.out, List.drop_of_length_le (l := a) (by rw [HL.out]; exact Nat.le_refl _), List.drop_of_length_le (l := b) (by rw [HM.out]; exact Nat.le_refl _)]; rfl)
        go_wp2_with fail
        go_ret
        exact ⟨ret_int HE.out, HB.out⟩
end Go.Proofs.YtmonepclhbappaaDoor
