/-
  The document's sets: Has, Add, Of.
-/
import Derived.Test.YtmonepclhbappaaDoorSame
import Derived.Test.YtmonepclhbappaaDoorWords3
namespace Go.Proofs.YtmonepclhbappaaDoor
open Go.RowKit
set_option maxRecDepth 100000

set_option maxHeartbeats 1000000 in
theorem Has_any (l : List Int) (x : Int) (A : Option Addr) (n c : Nat) (w : World) (hn : n ≤ 9223372036854775807) (hl : l.length = n) (hs : Sl w 1 A n (l.map (Value.int .i64))) :
    Calls Tryd.prog 107 #[.slice A n c, .int .i64 x] w fun e w' => e = .returned (.bool (decide (x ∈ l))) ∧ w = w' := by
  go_enter Tryd.func107, Tryd.ntmps107
  go_wp2
  go_loop [5] (fun i => ∃ k : Nat, k ≤ n ∧ i = .int .i64 k ∧ x ∉ l.take k) (fun i => n - (intOf i).toNat)
  case atStart => exact ⟨0, Nat.zero_le _, rfl, by simp⟩
  case round =>
    obtain ⟨k, hk, rfl, hx⟩ := hrel
    by_cases hlt : k < n
    · have hj : k < l.length := by omega
      obtain ⟨b, off, u, rfl, e1, c1⟩ := hs.one hlt
      rw [List.getElem?_map, List.getElem?_eq_getElem hj] at e1
      obtain rfl := Option.some.inj e1
      have HM := Lib.hid (List.getElem_mem hj)
      have HT := Lib.hid (List.take_succ_eq_append_getElem hj)
      have HX := Lib.hid hx
      generalize l[k] = y at *
      clear e1 hx hs
      by_cases hxy : y = x
      · subst hxy
        go_wp2
        go_ret
        exact ⟨ret_bool (decide_eq_true HM.out).symm, rfl⟩
      · have hb1 : (y == x) = false := by simpa using hxy
        go_wp2
        go_round
        case rel =>
          refine ⟨k + 1, by omega, by go_num, ?_⟩
          rw [HT.out]
          simp only [List.mem_append, List.mem_singleton]
          rintro (h | h)
          · exact HX.out h
          · exact hxy h.symm
        case measure => simp [intOf]; omega
    · obtain rfl : k = n := by omega
      rw [List.take_of_length_le (by omega)] at hx
      have HX := Lib.hid hx
      clear hx hs
      go_wp2
      go_ret
      exact ⟨ret_bool (decide_eq_false HX.out).symm, rfl⟩

theorem one_ints (l : List Int) : ∀ u ∈ l.map (Value.int .i64), u.oneCell' = true := by
  intro u hu
  obtain ⟨x, _, rfl⟩ := List.mem_map.1 hu
  rfl
/-- Where a number stands among rising ones. -/
def rise (x : Int) : List Int → Nat
  | [] => 0
  | y :: l => if y < x then rise x l + 1 else 0
/-- With a number. -/
def addL (l : List Int) (x : Int) : List Int := if x ∈ l then l else l.take (rise x l) ++ [x] ++ l.drop (rise x l)
def setL (l : List Int) : List Int := l.foldl addL []
theorem rise_le (x : Int) : ∀ l : List Int, rise x l ≤ l.length
  | [] => Nat.le_refl _
  | y :: l => by rw [rise]; split; have := rise_le x l; simp; omega; exact Nat.zero_le _
theorem rise_all (x : Int) : ∀ (l : List Int) (k : Nat), k < rise x l → ∃ y, l[k]? = some y ∧ y < x
  | y :: l, 0, h => by
    rw [rise] at h
    split at h
    · exact ⟨y, rfl, ‹_›⟩
    · omega
  | y :: l, k + 1, h => by
    rw [rise] at h
    split at h
    · exact rise_all x l k (by omega)
    · omega
  | [], k, h => by simp [rise] at h
theorem rise_at (x : Int) : ∀ (l : List Int), rise x l < l.length → ∃ y, l[rise x l]? = some y ∧ ¬ y < x
  | [], h => by simp at h
  | y :: l, h => by
    rw [rise] at h ⊢
    split
    · rw [if_pos ‹_›] at h
      exact rise_at x l (by simpa using h)
    · exact ⟨y, rfl, ‹_›⟩

set_option maxHeartbeats 2000000 in
theorem Add_any (l : List Int) (x : Int) (A : Option Addr) (n c : Nat) (w : World) (hn : n ≤ 4294967296) (hnc : n ≤ c) (hcm : c ≤ 9223372036854775807) (hl : l.length = n) (hs : Sl w 1 A n (l.map (Value.int .i64))) :
    Calls Tryd.prog 94 #[.slice A n c, .int .i64 x] w fun e w' => ∃ D k, e = .returned (.slice D (addL l x).length k) ∧ (addL l x).length ≤ k ∧ k ≤ 9223372036854775807 ∧ Sl w' 1 D (addL l x).length ((addL l x).map (Value.int .i64)) ∧ Below w.heap.size w w' := by
  have HH := Lib.hid (Has_any l x A n c w (by omega) hl hs)
  have HS := Lib.hid hs
  clear hs
  go_enter Tryd.func94, Tryd.ntmps94
  by_cases hm : x ∈ l
  · rw [decide_eq_true hm] at HH
    have hA : addL l x = l := if_pos hm
    have HA := Lib.hid hA
    clear hA hm
    go_wp2_with fail
    refine HH.out.mono ?_
    rintro e w1 ⟨rfl, rfl⟩
    go_wp2_with fail
    go_ret
    exact ⟨A, c, ret_eq (show Value.slice A n c = _ by rw [HA.out, hl]), by rw [HA.out]; omega, hcm, by rw [HA.out, hl]; exact HS.out, Below.refl _ _⟩
  · rw [decide_eq_false hm] at HH
    have hA : addL l x = l.take (rise x l) ++ [x] ++ l.drop (rise x l) := if_neg hm
    have HA := Lib.hid hA
    have hrl := rise_le x l
    have HRA := Lib.hid (rise_all x l)
    have HRT := Lib.hid (rise_at x l)
    generalize hr : rise x l = r at hA HA hrl HRA HRT
    clear hA hm hr
    go_wp2_with fail
    refine HH.out.mono ?_
    rintro e w1 ⟨rfl, rfl⟩
    clear HH
    go_wp2_with fail
    go_loop [5] (fun i => ∃ k : Nat, k ≤ r ∧ i = .int .i64 k) (fun i => r - (intOf i).toNat)
    case atStart => exact ⟨0, Nat.zero_le _, rfl⟩
    case round =>
      obtain ⟨k, hk, rfl⟩ := hrel
      by_cases hlt : k < r
      · obtain ⟨b, off, u, rfl, e1, c1⟩ := HS.out.one (show k < n by omega)
        obtain ⟨y, hy, hyx⟩ := HRA.out k hlt
        rw [List.getElem?_map, hy] at e1
        obtain rfl := Option.some.inj e1
        clear hy e1
        go_wp2_with fail
        go_round
        case rel => exact ⟨k + 1, by omega, by go_num⟩
        case measure => simp [intOf]; omega
      · obtain rfl : k = r := by omega
        have hb0 := bel_al (Below.refl w.heap.size w) (.cells #[] 3)
        have hown0 : (w.alloc (.cells #[] 3)).ownsRow w.heap.size 3 1 (.slice (some ⟨w.heap.size, 0, none⟩) 0 0) 0 [] := by
          have := World.ownsRow_made (base := w.heap.size) (size := 1) (e := 3) w #[] 0 (Nat.le_refl _) (by unfold maxLen; omega) rfl
          simpa using this
        have HY2 := fun b off (h : A = some ⟨b, off, none⟩) W (hW : Below w.heap.size w W) => (show Sl W 1 (some ⟨b, off + k, none⟩) (n - k) ((l.drop k).map (Value.int .i64)) by rw [List.map_drop]; subst h; exact (HS.out.drop (show k ≤ n by omega)).keep hW)
        have HY2 := Lib.hid HY2
        have hy1 := (HS.out.take (show k ≤ n by omega)).keep hb0
        rw [← List.map_take] at hy1
        have HY1 := Lib.hid hy1
        clear hy1
        have HO1 := Lib.hid (one_ints (l.take k))
        have HO2 := Lib.hid (one_ints (l.drop k))
        by_cases hkn : k < n
        · obtain ⟨b, off, u, rfl, e1, c1⟩ := HS.out.one hkn
          obtain ⟨y, hy, hyx⟩ := HRT.out (by omega)
          rw [List.getElem?_map, hy] at e1
          obtain rfl := Option.some.inj e1
          clear hy e1
          go_wp2_with (first | (at_builtin; refine wpList_cat elemInt (w0 := w) _ _ rfl rfl hown0 hb0 (Nat.le_refl _) HY1.out rfl rfl HO1.out (by unfold lim; omega) (by unfold lim; omega) ?_; intro v1 w3 hown1 hb1 _) | (at_builtin; refine wpList_push elemInt (w0 := w) _ _ rfl rfl hown1 hb1 (Nat.le_refl _) rfl rfl rfl (by simp [Value.oneCell']) (by unfold lim; omega) (by unfold lim; omega) ?_; intro v2 w5 hown2 hb2) | (at_builtin; refine wpList_cat elemInt (w0 := w) _ _ rfl rfl hown2 hb2 (Nat.le_refl _) (HY2.out b off rfl w5 hb2) rfl rfl HO2.out (by unfold lim; omega) (by unfold lim; omega) ?_; intro v3 w6 hown3 hb3 _))
          go_ret
          obtain ⟨D, c3, rfl, hsl⟩ := Sl.own hown3
          have hcap := own_cap hown3
          refine ⟨D, c3, ret_eq (by rw [HA.out]; simp; omega), ?_, hcap.2, ?_, hb3⟩
          · rw [HA.out]; simp; omega
          · rw [HA.out, List.map_append, List.map_append]
            have : (l.take k ++ [x] ++ l.drop k).length = 0 + k + 1 + (n - k) := by simp; omega
            rw [this]
            simpa using hsl
        · have hkn' : k = n := by omega
          have hd : l.drop k = [] := List.drop_eq_nil_of_le (by omega)
          have HD := Lib.hid hd
          clear hd
          subst hkn'
          rcases A with _ | a
          · have hk0 : k = 0 := by
              rcases Nat.eq_zero_or_pos k with h | h
              · exact h
              · obtain ⟨_, _, _, hA, _⟩ := HS.out.one h
                cases hA
            subst hk0
            go_wp2_with (first | (at_builtin; refine wpList_cat elemInt (w0 := w) _ _ rfl rfl hown0 hb0 (Nat.le_refl _) HY1.out rfl rfl HO1.out (by unfold lim; omega) (by unfold lim; omega) ?_; intro v1 w3 hown1 hb1 _) | (at_builtin; refine wpList_push elemInt (w0 := w) _ _ rfl rfl hown1 hb1 (Nat.le_refl _) rfl rfl rfl (by simp [Value.oneCell']) (by unfold lim; omega) (by unfold lim; omega) ?_; intro v2 w5 hown2 hb2) | (at_builtin; refine wpList_cat elemInt (w0 := w) _ _ rfl rfl hown2 hb2 (Nat.le_refl _) (Sl.nil _ _ _) rfl rfl (by simp) (by unfold lim; omega) (by unfold lim; omega) ?_; intro v3 w6 hown3 hb3 _))
            all_goals
              go_ret
              obtain ⟨D, c3, rfl, hsl⟩ := Sl.own hown3
              have hcap := own_cap hown3
              refine ⟨D, c3, ret_eq (by rw [HA.out, HD.out]; simp), ?_, hcap.2, ?_, hb3⟩
              · rw [HA.out, HD.out]; simp; omega
              · rw [HA.out, HD.out, List.append_nil, List.map_append]
                have : (l.take 0 ++ [x]).length = 0 + 0 + 1 + 0 := by simp
                rw [this]
                simpa using hsl
          · go_wp2_with (first | (at_builtin; refine wpList_cat elemInt (w0 := w) _ _ rfl rfl hown0 hb0 (Nat.le_refl _) HY1.out rfl rfl HO1.out (by unfold lim; omega) (by unfold lim; omega) ?_; intro v1 w3 hown1 hb1 _) | (at_builtin; refine wpList_push elemInt (w0 := w) _ _ rfl rfl hown1 hb1 (Nat.le_refl _) rfl rfl rfl (by simp [Value.oneCell']) (by unfold lim; omega) (by unfold lim; omega) ?_; intro v2 w5 hown2 hb2) | (at_builtin; refine wpList_cat elemInt (w0 := w) _ _ rfl rfl hown2 hb2 (Nat.le_refl _) (Sl.nil _ _ _) rfl rfl (by simp) (by unfold lim; omega) (by unfold lim; omega) ?_; intro v3 w6 hown3 hb3 _))
            all_goals
              go_ret
              obtain ⟨D, c3, rfl, hsl⟩ := Sl.own hown3
              have hcap := own_cap hown3
              refine ⟨D, c3, ret_eq (by rw [HA.out, HD.out]; simp; omega), ?_, hcap.2, ?_, hb3⟩
              · rw [HA.out, HD.out]; simp; omega
              · rw [HA.out, HD.out, List.append_nil, List.map_append]
                have : (l.take k ++ [x]).length = 0 + k + 1 + 0 := by simp; omega
                rw [this]
                simpa using hsl

theorem addL_len (l : List Int) (x : Int) : (addL l x).length ≤ l.length + 1 := by
  unfold addL
  split
  · omega
  · have := rise_le x l
    simp
    omega
theorem addL_mem (l : List Int) (x y : Int) : y ∈ addL l x ↔ y ∈ l ∨ y = x := by
  unfold addL
  split
  · constructor
    · exact .inl
    · rintro (h | rfl)
      · exact h
      · assumption
  · have : y ∈ l ↔ y ∈ l.take (rise x l) ∨ y ∈ l.drop (rise x l) := by rw [← List.mem_append, List.take_append_drop]
    simp only [List.mem_append, List.mem_singleton, this]
    constructor
    · rintro ((h | h) | h) <;> simp [h]
    · rintro ((h | h) | h) <;> simp [h]
theorem rise_cut (x : Int) : ∀ l : List Int, (∀ y ∈ l.take (rise x l), y < x) ∧ (l.Pairwise (· < ·) → ∀ y ∈ l.drop (rise x l), ¬ y < x)
  | [] => by simp
  | z :: l => by
    have ih := rise_cut x l
    by_cases h : z < x
    · rw [rise, if_pos h, List.take_succ_cons, List.drop_succ_cons]
      exact ⟨fun y hy => by rcases List.mem_cons.1 hy with rfl | hy; exact h; exact ih.1 y hy, fun hp => ih.2 (List.pairwise_cons.1 hp).2⟩
    · rw [rise, if_neg h, List.take_zero, List.drop_zero]
      refine ⟨by simp, fun hp y hy => ?_⟩
      rcases List.mem_cons.1 hy with rfl | hy
      · exact h
      · have := (List.pairwise_cons.1 hp).1 y hy
        omega
theorem addL_inc (l : List Int) (x : Int) (h : l.Pairwise (· < ·)) : (addL l x).Pairwise (· < ·) := by
  unfold addL
  split
  · exact h
  · rename_i hm
    have hc := rise_cut x l
    have hd := hc.2 h
    have h' : (l.take (rise x l) ++ l.drop (rise x l)).Pairwise (· < ·) := by rw [List.take_append_drop]; exact h
    rw [List.pairwise_append] at h'
    rw [List.append_assoc, List.pairwise_append]
    refine ⟨h'.1, ?_, ?_⟩
    · rw [List.singleton_append, List.pairwise_cons]
      refine ⟨fun y hy => ?_, h'.2.1⟩
      have h1 := hd y hy
      have h2 : y ≠ x := fun e => hm (e ▸ List.mem_of_mem_drop hy)
      omega
    · intro a ha b hb
      rw [List.singleton_append] at hb
      rcases List.mem_cons.1 hb with rfl | hb
      · exact hc.1 a ha
      · exact h'.2.2 a ha b hb
theorem setL_snoc (l : List Int) (x : Int) : setL (l ++ [x]) = addL (setL l) x := by unfold setL; rw [List.foldl_append]; rfl
theorem foldl_inc : ∀ (l out : List Int), out.Pairwise (· < ·) → (l.foldl addL out).Pairwise (· < ·) ∧ ∀ y, y ∈ l.foldl addL out ↔ y ∈ out ∨ y ∈ l
  | [], out, h => ⟨h, by simp⟩
  | x :: l, out, h => by
    obtain ⟨h1, h2⟩ := foldl_inc l (addL out x) (addL_inc out x h)
    refine ⟨h1, fun y => ?_⟩
    rw [List.foldl_cons, h2, addL_mem, List.mem_cons, or_assoc]
theorem setL_inc (l : List Int) : (setL l).Pairwise (· < ·) := (foldl_inc l [] List.Pairwise.nil).1
theorem setL_mem (l : List Int) (y : Int) : y ∈ setL l ↔ y ∈ l := by have := (foldl_inc l [] List.Pairwise.nil).2 y; simpa [setL] using this
theorem setL_len : ∀ (l out : List Int), (l.foldl addL out).length ≤ out.length + l.length
  | [], _ => Nat.le_refl _
  | x :: l, out => by
    rw [List.foldl_cons]
    have := setL_len l (addL out x)
    have := addL_len out x
    simp
    omega
theorem inc_ext : ∀ {a b : List Int}, a.Pairwise (· < ·) → b.Pairwise (· < ·) → (∀ y, y ∈ a ↔ y ∈ b) → a = b
  | [], [], _, _, _ => rfl
  | [], y :: b, _, _, h => by have := (h y).2 (List.mem_cons_self ..); simp at this
  | x :: a, [], _, _, h => by have := (h x).1 (List.mem_cons_self ..); simp at this
  | x :: a, y :: b, ha, hb, h => by
    obtain ⟨ha1, ha2⟩ := List.pairwise_cons.1 ha
    obtain ⟨hb1, hb2⟩ := List.pairwise_cons.1 hb
    have hxy : x = y := by
      rcases List.mem_cons.1 ((h x).1 (List.mem_cons_self ..)) with e | e
      · exact e
      · rcases List.mem_cons.1 ((h y).2 (List.mem_cons_self ..)) with e' | e'
        · exact e'.symm
        · have := hb1 x e; have := ha1 y e'; omega
    subst hxy
    rw [inc_ext ha2 hb2 (fun z => ?_)]
    constructor
    · intro hz
      rcases List.mem_cons.1 ((h z).1 (List.mem_cons_of_mem _ hz)) with e | e
      · have := ha1 z hz; omega
      · exact e
    · intro hz
      rcases List.mem_cons.1 ((h z).2 (List.mem_cons_of_mem _ hz)) with e | e
      · have := hb1 z hz; omega
      · exact e
theorem setL_same {a b : List Int} (h : ∀ y, y ∈ a ↔ y ∈ b) : setL a = setL b := inc_ext (setL_inc a) (setL_inc b) (fun y => by rw [setL_mem, setL_mem]; exact h y)

end Go.Proofs.YtmonepclhbappaaDoor
