/-
  Part 10 of the proof of LwProgParts: TsA, TsB, TsF.
-/
import Derived.BigQuiet
import Derived.Test.YtapledphhfiimaaGreatDoorLwProgPartsM9
/-
  Tests of patterns: the walks of holds (kinds 1 to 5, and 7), Test, First, Keeps.
-/
namespace Go.Proofs.YtapledphhfiimaaGreatDoor
open Go.RowKit Go.Proofs.YtapledphhfiimaaGreatDoor.Pg
attribute [local go_sem ↓] Go.wp_at_zero Go.wp_at_succ
set_option maxRecDepth 100000
set_option linter.unusedVariables false

theorem Over_1 (x k N : Int) (g : Nat) (w : World) (hK : Blk w g 40 #[.int .i64 k, .int .i64 N]) : Calls Tryz.prog 97 #[.int .i64 x, .pointer (some ⟨g, 0, none⟩)] w fun e w' => e = .returned (.bool (decide (N < x))) ∧ w = w' := by
  have c1 := hK.cell 1
  simp at c1
  clear hK
  go_enter Tryz.func97, Tryz.ntmps97
  go_wp2_with fail
  go_ret
  exact ⟨rfl, rfl⟩
theorem Over_2 (x k N : Int) (g : Nat) (w : World) (hK : Blk w g 40 #[.int .i64 k, .int .i64 N]) : Calls Tryz.prog 102 #[.int .i64 x, .pointer (some ⟨g, 0, none⟩)] w fun e w' => e = .returned (.bool (!decide (x = N))) ∧ w = w' := by
  have c1 := hK.cell 1
  simp at c1
  clear hK
  by_cases h : x = N
  · subst h
    have HD := Lib.hid (show (!decide (x = x)) = false from by simp)
    go_enter Tryz.func102, Tryz.ntmps102
    go_wp2_with fail
    go_ret
    exact ⟨ret_bool HD.out.symm, rfl⟩
  · have HD := Lib.hid (show (!decide (x = N)) = true from by simp [h])
    have h1 : (x == N) = false := by simpa using h
    have h2 : (x != N) = true := by simpa using h
    clear h
    go_enter Tryz.func102, Tryz.ntmps102
    go_wp2_with fail
    go_ret
    exact ⟨ret_bool HD.out.symm, rfl⟩
set_option maxHeartbeats 1000000 in
theorem IndexL_1 (l : List Int) (A : Option Addr) (n c g : Nat) (k0 N : Int) (w : World) (hl : l.length = n) (hn : n ≤ 1000000) (hs : Sl w 1 A n (l.map (Value.int .i64))) (hK : Blk w g 40 #[.int .i64 k0, .int .i64 N]) :
    Calls Tryz.prog 134 #[.slice A n c, .func (.func 97) #[] #[.pointer (some ⟨g, 0, none⟩)]] w fun e w' => ∃ r : Int, e = .returned (.int .i64 r) ∧ decide (0 ≤ r) = (l.any fun x => decide (N < x)) ∧ w = w' := by
  have HC := Lib.hid (fun x => Over_1 x k0 N g w hK)
  have HS := Lib.hid hs
  have HL := Lib.hid hl
  clear hs hK hl
  go_enter Tryz.func134, Tryz.ntmps134
  go_wp2_with fail
  go_loop [8] (fun i => ∃ k : Nat, k ≤ n ∧ i = .int .i64 (k : Int) ∧ Hid (∀ x ∈ l.take k, (decide (N < x)) = false)) (fun i => n - (intOf i).toNat)
  case atStart => exact ⟨0, Nat.zero_le _, rfl, Lib.hid (fun x hx => by simp at hx)⟩
  case round =>
    obtain ⟨k, hk, rfl, HD⟩ := hrel
    by_cases hlt : k < n
    · have hlt' : (k : Int) < (n : Int) := by omega
      have hk0 : (0 : Int) ≤ (k : Int) := by omega
      obtain ⟨x, hx⟩ : ∃ x, l[k]? = some x := ⟨_, List.getElem?_eq_getElem (by rw [HL.out]; exact hlt)⟩
      obtain ⟨b, off, u, rfl, e1, c0⟩ := HS.out.one hlt
      rw [List.getElem?_map, hx] at e1
      obtain rfl : Value.int .i64 x = u := Option.some.inj e1
      have HX := Lib.hid hx
      clear hx e1
      have HCx := Lib.hid (HC.out x)
      cases hq : (decide (N < x)) with
      | true =>
        rw [hq] at HCx
        have HA := Lib.hid (show decide ((0 : Int) ≤ (k : Int)) = (l.any fun x => decide (N < x)) from by
          rw [decide_eq_true hk0]
          exact (List.any_eq_true.2 ⟨x, List.mem_of_getElem? HX.out, hq⟩).symm)
        clear hq
        go_wp2_with (go_at_call 97; refine HCx.out.mono ?_; rintro e w' ⟨rfl, rfl⟩)
        go_ret
        exact ⟨(k : Int), rfl, HA.out, rfl⟩
      | false =>
        rw [hq] at HCx
        have HD2 := Lib.hid (show ∀ y ∈ l.take (k + 1), (decide (N < y)) = false from fun y hy => by
          obtain ⟨h1, h2⟩ := List.getElem?_eq_some_iff.1 HX.out
          rw [List.take_succ_eq_append_getElem h1, h2] at hy
          rcases List.mem_append.1 hy with h | h
          · exact HD.out y h
          · rw [List.mem_singleton.1 h]; exact hq)
        clear hq
        go_wp2_with (go_at_call 97; refine HCx.out.mono ?_; rintro e w' ⟨rfl, rfl⟩)
        go_round
        case rel => exact ⟨k + 1, by omega, by go_num, HD2⟩
        case measure => simp [intOf]; omega
    · obtain rfl : k = n := by omega
      have hlt' : ¬ (k : Int) < (k : Int) := by omega
      have HA := Lib.hid (show decide ((0 : Int) ≤ -1) = (l.any fun x => decide (N < x)) from by
        have h := HD.out
        rw [List.take_of_length_le (by rw [HL.out]; exact Nat.le_refl _)] at h
        cases ha : l.any fun x => decide (N < x) with
        | false => rfl
        | true =>
          obtain ⟨x, hx, hq⟩ := List.any_eq_true.1 ha
          rw [h x hx] at hq
          cases hq)
      go_wp2_with fail
      go_ret
      exact ⟨-1, rfl, HA.out, rfl⟩
theorem ContainsL_1 (l : List Int) (A : Option Addr) (n c g : Nat) (k0 N : Int) (w : World) (hl : l.length = n) (hn : n ≤ 1000000) (hs : Sl w 1 A n (l.map (Value.int .i64))) (hK : Blk w g 40 #[.int .i64 k0, .int .i64 N]) :
    Calls Tryz.prog 96 #[.slice A n c, .func (.func 97) #[] #[.pointer (some ⟨g, 0, none⟩)]] w fun e w' => e = .returned (.bool (l.any fun x => decide (N < x))) ∧ w = w' := by
  have HC := Lib.hid (IndexL_1 l A n c g k0 N w hl hn hs hK)
  clear hs hK hl hn
  go_enter Tryz.func96, Tryz.ntmps96
  go_wp2_with (go_at_call 134; refine HC.out.mono ?_; rintro e w' ⟨r, rfl, hr, rfl⟩; have HR := Lib.hid hr; clear hr)
  go_ret
  exact ⟨ret_bool HR.out, rfl⟩
set_option maxHeartbeats 1000000 in
theorem IndexL_2 (l : List Int) (A : Option Addr) (n c g : Nat) (k0 N : Int) (w : World) (hl : l.length = n) (hn : n ≤ 1000000) (hs : Sl w 1 A n (l.map (Value.int .i64))) (hK : Blk w g 40 #[.int .i64 k0, .int .i64 N]) :
    Calls Tryz.prog 134 #[.slice A n c, .func (.func 102) #[] #[.pointer (some ⟨g, 0, none⟩)]] w fun e w' => ∃ r : Int, e = .returned (.int .i64 r) ∧ decide (0 ≤ r) = (l.any fun x => !decide (x = N)) ∧ w = w' := by
  have HC := Lib.hid (fun x => Over_2 x k0 N g w hK)
  have HS := Lib.hid hs
  have HL := Lib.hid hl
  clear hs hK hl
  go_enter Tryz.func134, Tryz.ntmps134
  go_wp2_with fail
  go_loop [8] (fun i => ∃ k : Nat, k ≤ n ∧ i = .int .i64 (k : Int) ∧ Hid (∀ x ∈ l.take k, (!decide (x = N)) = false)) (fun i => n - (intOf i).toNat)
  case atStart => exact ⟨0, Nat.zero_le _, rfl, Lib.hid (fun x hx => by simp at hx)⟩
  case round =>
    obtain ⟨k, hk, rfl, HD⟩ := hrel
    by_cases hlt : k < n
    · have hlt' : (k : Int) < (n : Int) := by omega
      have hk0 : (0 : Int) ≤ (k : Int) := by omega
      obtain ⟨x, hx⟩ : ∃ x, l[k]? = some x := ⟨_, List.getElem?_eq_getElem (by rw [HL.out]; exact hlt)⟩
      obtain ⟨b, off, u, rfl, e1, c0⟩ := HS.out.one hlt
      rw [List.getElem?_map, hx] at e1
      obtain rfl : Value.int .i64 x = u := Option.some.inj e1
      have HX := Lib.hid hx
      clear hx e1
      have HCx := Lib.hid (HC.out x)
      cases hq : (!decide (x = N)) with
      | true =>
        rw [hq] at HCx
        have HA := Lib.hid (show decide ((0 : Int) ≤ (k : Int)) = (l.any fun x => !decide (x = N)) from by
          rw [decide_eq_true hk0]
          exact (List.any_eq_true.2 ⟨x, List.mem_of_getElem? HX.out, hq⟩).symm)
        clear hq
        go_wp2_with (go_at_call 102; refine HCx.out.mono ?_; rintro e w' ⟨rfl, rfl⟩)
        go_ret
        exact ⟨(k : Int), rfl, HA.out, rfl⟩
      | false =>
        rw [hq] at HCx
        have HD2 := Lib.hid (show ∀ y ∈ l.take (k + 1), (!decide (y = N)) = false from fun y hy => by
          obtain ⟨h1, h2⟩ := List.getElem?_eq_some_iff.1 HX.out
          rw [List.take_succ_eq_append_getElem h1, h2] at hy
          rcases List.mem_append.1 hy with h | h
          · exact HD.out y h
          · rw [List.mem_singleton.1 h]; exact hq)
        clear hq
        go_wp2_with (go_at_call 102; refine HCx.out.mono ?_; rintro e w' ⟨rfl, rfl⟩)
        go_round
        case rel => exact ⟨k + 1, by omega, by go_num, HD2⟩
        case measure => simp [intOf]; omega
    · obtain rfl : k = n := by omega
      have hlt' : ¬ (k : Int) < (k : Int) := by omega
      have HA := Lib.hid (show decide ((0 : Int) ≤ -1) = (l.any fun x => !decide (x = N)) from by
        have h := HD.out
        rw [List.take_of_length_le (by rw [HL.out]; exact Nat.le_refl _)] at h
        cases ha : l.any fun x => !decide (x = N) with
        | false => rfl
        | true =>
          obtain ⟨x, hx, hq⟩ := List.any_eq_true.1 ha
          rw [h x hx] at hq
          cases hq)
      go_wp2_with fail
      go_ret
      exact ⟨-1, rfl, HA.out, rfl⟩
theorem ContainsL_2 (l : List Int) (A : Option Addr) (n c g : Nat) (k0 N : Int) (w : World) (hl : l.length = n) (hn : n ≤ 1000000) (hs : Sl w 1 A n (l.map (Value.int .i64))) (hK : Blk w g 40 #[.int .i64 k0, .int .i64 N]) :
    Calls Tryz.prog 96 #[.slice A n c, .func (.func 102) #[] #[.pointer (some ⟨g, 0, none⟩)]] w fun e w' => e = .returned (.bool (l.any fun x => !decide (x = N))) ∧ w = w' := by
  have HC := Lib.hid (IndexL_2 l A n c g k0 N w hl hn hs hK)
  clear hs hK hl hn
  go_enter Tryz.func96, Tryz.ntmps96
  go_wp2_with (go_at_call 134; refine HC.out.mono ?_; rintro e w' ⟨r, rfl, hr, rfl⟩; have HR := Lib.hid hr; clear hr)
  go_ret
  exact ⟨ret_bool HR.out, rfl⟩
set_option maxHeartbeats 1000000 in
theorem Degrees_any (L : List Int) (E : List (Int × Int)) (A B : Option Addr) (n c m d : Nat) (N : Int) (w : World) (hl : L.length = n) (hn : n ≤ 1000000) (hm : m ≤ 1000000) (ht : Sl w 2 B m (Rk.cells E)) :
    Calls Tryz.prog 98 #[pv A n c B m d, .int .i64 N] w fun e w' => e = .returned (.bool ((List.range n).all fun v => decide ((Pt.deg E (v : Nat) : Int) ≤ N))) ∧ Below w.heap.size w w' := by
  have HB0 := Lib.hid (bel_al (Below.refl w.heap.size w) (.cells #[.slice A n c, .slice B m d] 30))
  have HK := Lib.hid (Blk.new w 30 #[.slice A n c, .slice B m d])
  have HT := Lib.hid ht
  have HD := Lib.hid (fun (v : Int) (W : World) (hW : Below w.heap.size w W) => Degree_any E A B n c m d v W hm (ht.keep hW))
  clear ht
  go_enter Tryz.func98, Tryz.ntmps98
  go_wp2_with fail
  go_loopw [9] (fun i wr => ∃ k : Nat, k ≤ n ∧ i = .int .i64 (k : Int) ∧ Hid (∀ v, v < k → decide ((Pt.deg E (v : Nat) : Int) ≤ N) = true) ∧ Hid (Below w.heap.size w wr) ∧ Hid (Blk wr w.heap.size 30 #[.slice A n c, .slice B m d])) (fun i _ => n - (intOf i).toNat)
  case atStart => exact ⟨0, Nat.zero_le _, rfl, Lib.hid (fun v hv => by omega), HB0, HK⟩
  case round =>
    obtain ⟨k, hk, rfl, HA, HB, HKr⟩ := hrel
    by_cases hlt : k < n
    · have hlt' : (k : Int) < (n : Int) := by omega
      have k0 := HKr.out.cell 0
      have k1 := HKr.out.cell 1
      simp at k0 k1
      have HDk := Lib.hid (HD.out (k : Int) wr HB.out)
      obtain ⟨z, hz⟩ : ∃ z : Int, z = (Pt.deg E (k : Int) : Nat) := ⟨_, rfl⟩
      rw [← hz] at HDk
      by_cases hq : z ≤ N
      · have hq' : ¬ N < z := by omega
        have HA2 := Lib.hid (show ∀ v, v < k + 1 → decide ((Pt.deg E (v : Nat) : Int) ≤ N) = true from fun v hv => by
          rcases Nat.lt_or_ge v k with h | h
          · exact HA.out v h
          · obtain rfl : v = k := by omega
            exact decide_eq_true (by rw [← hz]; exact hq))
        clear hz hq
        go_wp2_with (go_at_call 28; refine HDk.out.mono ?_; clear HDk; rintro e w2 ⟨rfl, hb2⟩; have HB2 := Lib.hid (HB.out.andThen hb2); have HK2 := Lib.hid (HKr.out.keep hb2); clear hb2)
        go_roundw
        case rel => exact ⟨k + 1, by omega, by go_num, HA2, HB2, HK2⟩
        case measure => simp [intOf]; omega
      · have hq' : N < z := by omega
        have HF := Lib.hid (show ((List.range n).all fun v => decide ((Pt.deg E (v : Nat) : Int) ≤ N)) = false from by
          rw [List.all_eq_false]
          exact ⟨k, List.mem_range.2 hlt, by rw [decide_eq_true_eq, ← hz]; exact hq⟩)
        clear hz hq
        go_wp2_with (go_at_call 28; refine HDk.out.mono ?_; clear HDk; rintro e w2 ⟨rfl, hb2⟩; have HB2 := Lib.hid (HB.out.andThen hb2); clear hb2)
        go_ret
        exact ⟨ret_bool HF.out.symm, HB2.out⟩
    · obtain rfl : k = n := by omega
      have hlt' : ¬ (k : Int) < (k : Int) := by omega
      have HF := Lib.hid (show ((List.range k).all fun v => decide ((Pt.deg E (v : Nat) : Int) ≤ N)) = true from by
        rw [List.all_eq_true]
        exact fun v hv => HA.out v (List.mem_range.1 hv))
      go_wp2_with fail
      go_ret
      exact ⟨ret_bool HF.out.symm, HB.out⟩
/-- holds answers what the plain test says. -/
def HoldsOK (o : Int × Int) (L : List Int) (E : List (Int × Int)) : Prop :=
  ∀ (A B : Option Addr) (n c m d : Nat) (w : World), L.length = n → m ≤ 1000000 → Sl w 1 A n (L.map (Value.int .i64)) → Sl w 2 B m (Rk.cells E) →
    Calls Tryz.prog 72 #[.agg #[.int .i64 o.1, .int .i64 o.2], pv A n c B m d] w fun e w' => e = .returned (.bool (Ts.holdsB o L E)) ∧ Below w.heap.size w w'
set_option maxHeartbeats 1000000 in
theorem holds_2 (N : Int) (L : List Int) (E : List (Int × Int)) (h8 : L.length ≤ 8) : HoldsOK (2, N) L E := by
  intro A B n c m d w hl hm hs ht
  have HB0 := Lib.hid (bel_al (bel_al (Below.refl w.heap.size w) (.cells #[.int .i64 2, .int .i64 N] 40)) (.cells #[.slice A n c, .slice B m d] 30))
  have HK1 := Lib.hid ((Blk.new w 40 #[.int .i64 2, .int .i64 N]).alloc (.cells #[.slice A n c, .slice B m d] 30))
  have HMl := Lib.hid ht.len2
  have hn8 : n ≤ 8 := by omega
  have HC := Lib.hid (ContainsL_1 L A n c w.heap.size 2 N ((w.alloc (.cells #[.int .i64 2, .int .i64 N] 40)).alloc (.cells #[.slice A n c, .slice B m d] 30)) hl (by omega) (hs.keep HB0.out) HK1.out)
  have HR := Lib.hid (show Ts.holdsB (2, N) L E = !(L.any fun x => decide (N < x)) from rfl)
  clear hs ht
  go_enter Tryz.func72, Tryz.ntmps72
  go_wp2_with (go_at_call 96; refine HC.out.mono ?_; rintro e w' ⟨rfl, rfl⟩)
  go_ret
  exact ⟨ret_bool HR.out.symm, HB0.out⟩
set_option maxHeartbeats 1000000 in
theorem holds_3 (N : Int) (L : List Int) (E : List (Int × Int)) (h8 : L.length ≤ 8) : HoldsOK (3, N) L E := by
  intro A B n c m d w hl hm hs ht
  have HB0 := Lib.hid (bel_al (bel_al (Below.refl w.heap.size w) (.cells #[.int .i64 3, .int .i64 N] 40)) (.cells #[.slice A n c, .slice B m d] 30))
  have HK1 := Lib.hid ((Blk.new w 40 #[.int .i64 3, .int .i64 N]).alloc (.cells #[.slice A n c, .slice B m d] 30))
  have HMl := Lib.hid ht.len2
  have hn8 : n ≤ 8 := by omega
  have HC := Lib.hid (Degrees_any L E A B n c m d N ((w.alloc (.cells #[.int .i64 3, .int .i64 N] 40)).alloc (.cells #[.slice A n c, .slice B m d] 30)) hl (by omega) hm (ht.keep HB0.out))
  have HR := Lib.hid (show Ts.holdsB (3, N) L E = (List.range n).all fun v => decide ((Pt.deg E (v : Nat) : Int) ≤ N) from by rw [← hl]; rfl)
  clear hs ht
  go_enter Tryz.func72, Tryz.ntmps72
  go_wp2_with (go_at_call 98; refine HC.out.mono ?_; rintro e w2 ⟨rfl, hb2⟩; have HB2 := Lib.hid (HB0.out.andThen hb2); clear hb2)
  go_ret
  exact ⟨ret_bool HR.out.symm, HB2.out⟩
set_option maxHeartbeats 1000000 in
theorem holds_4 (N : Int) (L : List Int) (E : List (Int × Int)) (h8 : L.length ≤ 8) : HoldsOK (4, N) L E := by
  intro A B n c m d w hl hm hs ht
  have HB0 := Lib.hid (bel_al (bel_al (Below.refl w.heap.size w) (.cells #[.int .i64 4, .int .i64 N] 40)) (.cells #[.slice A n c, .slice B m d] 30))
  have HK1 := Lib.hid ((Blk.new w 40 #[.int .i64 4, .int .i64 N]).alloc (.cells #[.slice A n c, .slice B m d] 30))
  have HMl := Lib.hid ht.len2
  have hn8 : n ≤ 8 := by omega
  have HR := Lib.hid (show Ts.holdsB (4, N) L E = decide ((n : Int) ≤ N) from by rw [← hl]; rfl)
  clear hs ht
  go_enter Tryz.func72, Tryz.ntmps72
  go_wp2_with fail
  go_ret
  exact ⟨ret_bool HR.out.symm, HB0.out⟩
set_option maxHeartbeats 1000000 in
theorem holds_5 (N : Int) (L : List Int) (E : List (Int × Int)) (h8 : L.length ≤ 8) : HoldsOK (5, N) L E := by
  intro A B n c m d w hl hm hs ht
  have HB0 := Lib.hid (bel_al (bel_al (Below.refl w.heap.size w) (.cells #[.int .i64 5, .int .i64 N] 40)) (.cells #[.slice A n c, .slice B m d] 30))
  have HK1 := Lib.hid ((Blk.new w 40 #[.int .i64 5, .int .i64 N]).alloc (.cells #[.slice A n c, .slice B m d] 30))
  have HMl := Lib.hid ht.len2
  have hn8 : n ≤ 8 := by omega
  have HR := Lib.hid (show Ts.holdsB (5, N) L E = decide ((m : Int) ≤ N) from by rw [← HMl.out]; rfl)
  clear hs ht
  go_enter Tryz.func72, Tryz.ntmps72
  go_wp2_with fail
  go_ret
  exact ⟨ret_bool HR.out.symm, HB0.out⟩
set_option maxHeartbeats 1000000 in
theorem holds_7 (N : Int) (L : List Int) (E : List (Int × Int)) (h8 : L.length ≤ 8) : HoldsOK (7, N) L E := by
  intro A B n c m d w hl hm hs ht
  have HB0 := Lib.hid (bel_al (bel_al (Below.refl w.heap.size w) (.cells #[.int .i64 7, .int .i64 N] 40)) (.cells #[.slice A n c, .slice B m d] 30))
  have HK1 := Lib.hid ((Blk.new w 40 #[.int .i64 7, .int .i64 N]).alloc (.cells #[.slice A n c, .slice B m d] 30))
  have HMl := Lib.hid ht.len2
  have hn8 : n ≤ 8 := by omega
  have HC := Lib.hid (ContainsL_2 L A n c w.heap.size 7 N ((w.alloc (.cells #[.int .i64 7, .int .i64 N] 40)).alloc (.cells #[.slice A n c, .slice B m d] 30)) hl (by omega) (hs.keep HB0.out) HK1.out)
  have HR := Lib.hid (show Ts.holdsB (7, N) L E = !(L.any fun x => !decide (x = N)) from rfl)
  clear hs ht
  go_enter Tryz.func72, Tryz.ntmps72
  go_wp2_with (go_at_call 96; refine HC.out.mono ?_; rintro e w' ⟨rfl, rfl⟩)
  go_ret
  exact ⟨ret_bool HR.out.symm, HB0.out⟩
end Go.Proofs.YtapledphhfiimaaGreatDoor
/-
  Tests of patterns: the walks of Test, First, Keeps, of any program whose tests' walks are known.
-/
namespace Go.Proofs.YtapledphhfiimaaGreatDoor
open Go.RowKit Go.Proofs.YtapledphhfiimaaGreatDoor.Pg
attribute [local go_sem ↓] Go.wp_at_zero Go.wp_at_succ
set_option maxRecDepth 100000
set_option linter.unusedVariables false

section
variable {L : List Int} {E : List (Int × Int)} {A B : Option Addr} {n c m d : Nat}
theorem right_t {o : Int × Int} (ho : opOK o) (w : World) : Calls Tryz.prog 34 #[.agg #[.int .i64 o.1, .int .i64 o.2], .int .i64 0] w fun e w' => e = .returned .nilIface ∧ Below w.heap.size w w' :=
  (right_any o.1 o.2 0 w).mono fun e w' h => by
    rcases h with ⟨_, h1, h2⟩ | ⟨h, _⟩
    · exact ⟨h1, h2⟩
    · exact absurd ho h
theorem right_f {o : Int × Int} (ho : ¬ opOK o) (w : World) : Calls Tryz.prog 34 #[.agg #[.int .i64 o.1, .int .i64 o.2], .int .i64 0] w fun e w' => ∃ g, e = .returned (.iface 111 (.pointer (some ⟨g, 0, none⟩))) ∧ Below w.heap.size w w' :=
  (right_any o.1 o.2 0 w).mono fun e w' h => by
    rcases h with ⟨h, _⟩ | h
    · exact absurd h ho
    · obtain ⟨_, _, _, _, g, h1, _, h2, _⟩ := h
      exact ⟨g, h1, h2⟩
theorem PatR_t (h : rightP L E) (w : World) (hl : L.length = n) (hn : n ≤ 1000000) (hm : m ≤ 1000000) (hs : Sl w 1 A n (L.map (Value.int .i64))) (ht : Sl w 2 B m (Rk.cells E)) : Calls Tryz.prog 10 #[pv A n c B m d] w fun e w' => e = .returned .nilIface ∧ Below w.heap.size w w' :=
  (PatRight_any L E A B n c m d w hl hn hm hs ht).mono fun e w' hr => by
    rcases hr with ⟨_, h1, h2⟩ | ⟨h0, _⟩
    · exact ⟨h1, h2⟩
    · exact absurd h h0
theorem PatR_f (h : ¬ rightP L E) (w : World) (hl : L.length = n) (hn : n ≤ 1000000) (hm : m ≤ 1000000) (hs : Sl w 1 A n (L.map (Value.int .i64))) (ht : Sl w 2 B m (Rk.cells E)) : Calls Tryz.prog 10 #[pv A n c B m d] w fun e w' => ∃ g, e = .returned (.iface 111 (.pointer (some ⟨g, 0, none⟩))) ∧ Below w.heap.size w w' :=
  (PatRight_any L E A B n c m d w hl hn hm hs ht).mono fun e w' hr => by
    rcases hr with ⟨h0, _⟩ | ⟨_, c, a, s, v, rfl, ⟨g, rfl, _⟩, hb, _⟩
    · exact absurd h0 h
    · exact ⟨g, rfl, hb⟩
set_option maxHeartbeats 1000000 in
theorem Test_any (o : Int × Int) (w : World) (hh : opOK o → rightP L E → HoldsOK o L E) (hl : L.length = n) (hn : n ≤ 1000000) (hm : m ≤ 1000000) (hs : Sl w 1 A n (L.map (Value.int .i64))) (ht : Sl w 2 B m (Rk.cells E)) :
    Calls Tryz.prog 40 #[.agg #[.int .i64 o.1, .int .i64 o.2], pv A n c B m d] w fun e w' => e = .returned (.bool (Ts.testB L E o)) ∧ Below w.heap.size w w' := by
  have HB := Lib.hid (bel_al (bel_al (Below.refl w.heap.size w) (.cells #[.int .i64 o.1, .int .i64 o.2] 40)) (.cells #[.slice A n c, .slice B m d] 30))
  have HK1 := Lib.hid ((Blk.new w 40 #[.int .i64 o.1, .int .i64 o.2]).alloc (.cells #[.slice A n c, .slice B m d] 30))
  have HK2 := Lib.hid (Blk.new (w.alloc (.cells #[.int .i64 o.1, .int .i64 o.2] 40)) 30 #[.slice A n c, .slice B m d])
  rw [World.size_alloc] at HK2
  have HS := Lib.hid hs
  have HT := Lib.hid ht
  by_cases hO : opOK o
  · have HR := Lib.hid (fun W => right_t hO W)
    by_cases hP : rightP L E
    · have HPr := Lib.hid (fun W (hW : Below w.heap.size w W) => PatR_t (A := A) (B := B) (n := n) (c := c) (m := m) (d := d) hP W hl hn hm (HS.out.keep hW) (HT.out.keep hW))
      have HH := Lib.hid (fun W (hW : Below w.heap.size w W) => hh hO hP A B n c m d W hl hm (HS.out.keep hW) (HT.out.keep hW))
      have HF := Lib.hid (Ts.testB_of hO hP)
      clear hs ht hh hO hP
      obtain ⟨x, y⟩ := o
      simp only at HB HR HK1 HK2 HH ⊢
      go_enter Tryz.func40, Tryz.ntmps40
      go_wp2_with (first
        | (go_at_call 34; refine (HR.out _).mono ?_; clear HR; rintro e w2 ⟨rfl, hb2⟩; have HB2 := Lib.hid (HB.out.andThen hb2); have HKa := Lib.hid (HK1.out.keep hb2); have HKb := Lib.hid (HK2.out.keep hb2); have k0 := HKa.out.cell 0; have k1 := HKa.out.cell 1; have k2 := HKb.out.cell 0; have k3 := HKb.out.cell 1; simp at k0 k1 k2 k3; clear hb2)
        | (go_at_call 10; refine (HPr.out _ HB2.out).mono ?_; clear HPr; rintro e w3 ⟨rfl, hb3⟩; have HB3 := Lib.hid (HB2.out.andThen hb3); clear k0 k1 k2 k3; have k0 := (HKa.out.keep hb3).cell 0; have k1 := (HKa.out.keep hb3).cell 1; have k2 := (HKb.out.keep hb3).cell 0; have k3 := (HKb.out.keep hb3).cell 1; simp at k0 k1 k2 k3; clear hb3)
        | (go_at_call 72; refine (HH.out _ HB3.out).mono ?_; clear HH; rintro e w4 ⟨rfl, hb4⟩; have HB4 := Lib.hid (HB3.out.andThen hb4); clear hb4))
      go_ret
      exact ⟨ret_bool HF.out.symm, HB4.out⟩
    · have HPr := Lib.hid (fun W (hW : Below w.heap.size w W) => PatR_f (A := A) (B := B) (n := n) (c := c) (m := m) (d := d) hP W hl hn hm (HS.out.keep hW) (HT.out.keep hW))
      have HF := Lib.hid (show Ts.testB L E o = false from by unfold Ts.testB; rw [if_neg fun h => hP h.2])
      clear hs ht hh hO hP
      obtain ⟨x, y⟩ := o
      simp only at HB HR HK1 HK2 ⊢
      go_enter Tryz.func40, Tryz.ntmps40
      go_wp2_with (first
        | (go_at_call 34; refine (HR.out _).mono ?_; clear HR; rintro e w2 ⟨rfl, hb2⟩; have HB2 := Lib.hid (HB.out.andThen hb2); have HKb := Lib.hid (HK2.out.keep hb2); have k2 := HKb.out.cell 0; have k3 := HKb.out.cell 1; simp at k2 k3; clear hb2)
        | (go_at_call 10; refine (HPr.out _ HB2.out).mono ?_; clear HPr; rintro e w3 ⟨g, rfl, hb3⟩; have HB3 := Lib.hid (HB2.out.andThen hb3); clear hb3))
      go_ret
      exact ⟨ret_bool HF.out.symm, HB3.out⟩
  · have HR := Lib.hid (fun W => right_f hO W)
    have HF := Lib.hid (show Ts.testB L E o = false from by unfold Ts.testB; rw [if_neg fun h => hO h.1])
    clear hs ht hh hO
    obtain ⟨x, y⟩ := o
    simp only at HB HR HK1 HK2 ⊢
    go_enter Tryz.func40, Tryz.ntmps40
    go_wp2_with (go_at_call 34; refine (HR.out _).mono ?_; clear HR; rintro e w2 ⟨g, rfl, hb2⟩; have HB2 := Lib.hid (HB.out.andThen hb2); clear hb2)
    go_ret
    exact ⟨ret_bool HF.out.symm, HB2.out⟩
set_option maxHeartbeats 1000000 in
theorem First1_any (o : Int × Int) (g : Nat) (w : World) (hh : opOK o → rightP L E → HoldsOK o L E) (hl : L.length = n) (hn : n ≤ 1000000) (hm : m ≤ 1000000) (hs : Sl w 1 A n (L.map (Value.int .i64))) (ht : Sl w 2 B m (Rk.cells E)) (hK : Blk w g 30 #[.slice A n c, .slice B m d]) :
    Calls Tryz.prog 39 #[.agg #[.int .i64 o.1, .int .i64 o.2], .pointer (some ⟨g, 0, none⟩)] w fun e w' => e = .returned (.bool (!Ts.testB L E o)) ∧ Below w.heap.size w w' := by
  have HB := Lib.hid (bel_al (Below.refl w.heap.size w) (.cells #[.int .i64 o.1, .int .i64 o.2] 40))
  have HT := Lib.hid (Test_any (c := c) (d := d) o (w.alloc (.cells #[.int .i64 o.1, .int .i64 o.2] 40)) hh hl hn hm (hs.keep HB.out) (ht.keep HB.out))
  have hk0 := (hK.alloc (.cells #[.int .i64 o.1, .int .i64 o.2] 40)).cell 0
  have hk1 := (hK.alloc (.cells #[.int .i64 o.1, .int .i64 o.2] 40)).cell 1
  have hkl := hK.lt
  obtain ⟨t, ht9⟩ : ∃ t, t = Ts.testB L E o := ⟨_, rfl⟩
  rw [← ht9] at HT ⊢
  simp at hk0 hk1
  clear hs ht hh hK ht9
  go_enter Tryz.func39, Tryz.ntmps39
  go_wp2_with (go_at_call 40; refine HT.out.mono ?_; clear HT; rintro e w4 ⟨rfl, hb4⟩; have HB4 := Lib.hid (HB.out.andThen hb4); clear hb4)
  go_ret
  exact ⟨rfl, HB4.out⟩
set_option maxHeartbeats 1000000 in
theorem IndexP_any (p : List (Int × Int)) (P : Option Addr) (k c' g : Nat) (w : World) (hh : ∀ o ∈ p, opOK o → rightP L E → HoldsOK o L E) (hk : k ≤ 1000000) (hp : Sl w 2 P k (Rk.cells p)) (hl : L.length = n) (hn : n ≤ 1000000) (hm : m ≤ 1000000) (hs : Sl w 1 A n (L.map (Value.int .i64))) (ht : Sl w 2 B m (Rk.cells E)) (hK : Blk w g 30 #[.slice A n c, .slice B m d]) :
    Calls Tryz.prog 38 #[.slice P k c', .func (.func 39) #[] #[.pointer (some ⟨g, 0, none⟩)]] w fun e w' => e = .returned (.int .i64 (Ts.firstZ (fun o => !Ts.testB L E o) p 0)) ∧ Below w.heap.size w w' := by
  have HF := Lib.hid (fun (o : Int × Int) (ho : o ∈ p) (W : World) (hW : Below w.heap.size w W) => First1_any (A := A) (B := B) (n := n) (c := c) (m := m) (d := d) o g W (hh o ho) hl hn hm (hs.keep hW) (ht.keep hW) (hK.keep hW))
  have HP := Lib.hid hp
  have HL := Lib.hid hp.len2
  clear hs ht hK hh hp
  go_enter Tryz.func38, Tryz.ntmps38
  go_wp2_with fail
  go_loopw [8] (fun i wr => ∃ j : Nat, j ≤ k ∧ i = .int .i64 (j : Int) ∧ Hid (∀ o ∈ p.take j, (!Ts.testB L E o) = false) ∧ Hid (Below w.heap.size w wr)) (fun i _ => k - (intOf i).toNat)
  case atStart => exact ⟨0, Nat.zero_le _, rfl, Lib.hid (fun o ho => by simp at ho), Lib.hid (Below.refl _ _)⟩
  case round =>
    obtain ⟨j, hj, rfl, HD, HB⟩ := hrel
    by_cases hlt : j < k
    · have hlt' : (j : Int) < (k : Int) := by omega
      have hj0 : (0 : Int) ≤ (j : Int) := by omega
      obtain ⟨⟨x, y⟩, he⟩ : ∃ e, p[j]? = some e := ⟨_, List.getElem?_eq_getElem (by rw [HL.out]; exact hlt)⟩
      obtain ⟨b1, off1, rfl, c0, c1⟩ := (HP.out.keep HB.out).edge hlt he
      simp only at c0 c1
      have HX := Lib.hid he
      have HFx := Lib.hid (HF.out (x, y) (List.mem_of_getElem? he) wr HB.out)
      simp only at HFx
      clear he
      cases hq : (!Ts.testB L E (x, y)) with
      | true =>
        rw [hq] at HFx
        have HZ := Lib.hid (show Ts.firstZ (fun o => !Ts.testB L E o) p 0 = (j : Int) from by
          have := Ts.firstZ_at (q := fun o => !Ts.testB L E o) (i := 0) HD.out HX.out hq
          rw [this, Nat.zero_add])
        clear hq
        go_wp2_with (go_at_call 39; refine HFx.out.mono ?_; rintro e w' ⟨rfl, hb2⟩; have HB2 := Lib.hid (HB.out.andThen hb2); clear hb2)
        go_ret
        exact ⟨ret_int HZ.out.symm, HB2.out⟩
      | false =>
        rw [hq] at HFx
        have HD2 := Lib.hid (show ∀ o ∈ p.take (j + 1), (!Ts.testB L E o) = false from fun o ho => by
          obtain ⟨h1, h2⟩ := List.getElem?_eq_some_iff.1 HX.out
          rw [List.take_succ_eq_append_getElem h1, h2] at ho
          rcases List.mem_append.1 ho with h | h
          · exact HD.out o h
          · rw [List.mem_singleton.1 h]; exact hq)
        clear hq
        go_wp2_with (go_at_call 39; refine HFx.out.mono ?_; rintro e w' ⟨rfl, hb2⟩; have HB2 := Lib.hid (HB.out.andThen hb2); clear hb2)
        go_roundw
        case rel => exact ⟨j + 1, by omega, by go_num, HD2, HB2⟩
        case measure => simp [intOf]; omega
    · obtain rfl : j = k := by omega
      have hlt' : ¬ (j : Int) < (j : Int) := by omega
      have HZ := Lib.hid (show Ts.firstZ (fun o => !Ts.testB L E o) p 0 = -1 from by
        have h := HD.out
        rw [List.take_of_length_le (by rw [HL.out]; exact Nat.le_refl _)] at h
        exact Ts.firstZ_none h)
      go_wp2_with fail
      go_ret
      exact ⟨ret_int HZ.out.symm, HB.out⟩
theorem First_any (p : List (Int × Int)) (P : Option Addr) (k c' : Nat) (w : World) (hh : ∀ o ∈ p, opOK o → rightP L E → HoldsOK o L E) (hk : k ≤ 1000000) (hp : Sl w 2 P k (Rk.cells p)) (hl : L.length = n) (hn : n ≤ 1000000) (hm : m ≤ 1000000) (hs : Sl w 1 A n (L.map (Value.int .i64))) (ht : Sl w 2 B m (Rk.cells E)) :
    Calls Tryz.prog 12 #[.slice P k c', pv A n c B m d] w fun e w' => e = .returned (.int .i64 (Ts.firstZ (fun o => !Ts.testB L E o) p 0)) ∧ Below w.heap.size w w' := by
  have HB := Lib.hid (bel_al (Below.refl w.heap.size w) (.cells #[.slice A n c, .slice B m d] 30))
  have HI := Lib.hid (IndexP_any (A := A) (B := B) (n := n) (c := c) (m := m) (d := d) p P k c' w.heap.size (w.alloc (.cells #[.slice A n c, .slice B m d] 30)) hh hk (hp.keep HB.out) hl hn hm (hs.keep HB.out) (ht.keep HB.out) (Blk.new w 30 #[.slice A n c, .slice B m d]))
  clear hs ht hh hp
  go_enter Tryz.func12, Tryz.ntmps12
  go_wp2_with (go_at_call 38; refine HI.out.mono ?_; clear HI; rintro e w4 ⟨rfl, hb4⟩; have HB4 := Lib.hid (HB.out.andThen hb4); clear hb4)
  go_ret
  exact ⟨rfl, HB4.out⟩
set_option maxHeartbeats 1000000 in
theorem Keeps_any (p : List (Int × Int)) (P : Option Addr) (k c' : Nat) (w : World) (hh : ∀ o ∈ p, opOK o → rightP L E → HoldsOK o L E) (hk : k ≤ 1000000) (hp : Sl w 2 P k (Rk.cells p)) (hl : L.length = n) (hn : n ≤ 1000000) (hm : m ≤ 1000000) (hs : Sl w 1 A n (L.map (Value.int .i64))) (ht : Sl w 2 B m (Rk.cells E)) :
    Calls Tryz.prog 11 #[.slice P k c', pv A n c B m d] w fun e w' => e = .returned (.bool (Ts.keepsB p L E)) ∧ Below w.heap.size w w' := by
  have HB := Lib.hid (bel_al (Below.refl w.heap.size w) (.cells #[.slice A n c, .slice B m d] 30))
  have HK2 := Lib.hid (Blk.new w 30 #[.slice A n c, .slice B m d])
  have HRr := Lib.hid (ProgRight_any p P k c' (w.alloc (.cells #[.slice A n c, .slice B m d] 30)) hk (hp.keep HB.out))
  have HF := Lib.hid (fun W (hW : Below w.heap.size w W) => First_any (A := A) (B := B) (n := n) (c := c) (m := m) (d := d) p P k c' W hh hk (hp.keep hW) hl hn hm (hs.keep hW) (ht.keep hW))
  have HS := Lib.hid hs
  have HT := Lib.hid ht
  clear hs ht hh hp
  by_cases hG : rightG p
  · have HR := Lib.hid (show Calls Tryz.prog 9 #[.slice P k c'] (w.alloc (.cells #[.slice A n c, .slice B m d] 30)) fun e w' => e = .returned .nilIface ∧ Below (w.alloc (.cells #[.slice A n c, .slice B m d] 30)).heap.size (w.alloc (.cells #[.slice A n c, .slice B m d] 30)) w' from HRr.out.mono fun e w' h => by
      rcases h with ⟨_, h1, h2⟩ | ⟨h, _⟩
      · exact ⟨h1, h2⟩
      · exact absurd hG h)
    by_cases hP : rightP L E
    · have HPr := Lib.hid (fun W (hW : Below w.heap.size w W) => PatR_t (A := A) (B := B) (n := n) (c := c) (m := m) (d := d) hP W hl hn hm (HS.out.keep hW) (HT.out.keep hW))
      have HZ := Lib.hid (show decide (Ts.firstZ (fun o => !Ts.testB L E o) p 0 < 0) = Ts.keepsB p L E from by
        unfold Ts.keepsB
        rw [if_pos ⟨hG, hP⟩]
        cases ha : p.all (Ts.testB L E) with
        | true => exact decide_eq_true (Ts.first_keeps.2 ha)
        | false => exact decide_eq_false fun h => by rw [Ts.first_keeps.1 h] at ha; cases ha)
      obtain ⟨z, hz⟩ : ∃ z, z = Ts.firstZ (fun o => !Ts.testB L E o) p 0 := ⟨_, rfl⟩
      rw [← hz] at HF HZ
      clear hG hP HRr hz
      go_enter Tryz.func11, Tryz.ntmps11
      go_wp2_with (first
        | (go_at_call 9; refine HR.out.mono ?_; clear HR; rintro e w2 ⟨rfl, hb2⟩; have HB2 := Lib.hid (HB.out.andThen hb2); have HKb := Lib.hid (HK2.out.keep hb2); have k2 := HKb.out.cell 0; have k3 := HKb.out.cell 1; simp at k2 k3; clear hb2)
        | (go_at_call 10; refine (HPr.out _ HB2.out).mono ?_; clear HPr; rintro e w3 ⟨rfl, hb3⟩; have HB3 := Lib.hid (HB2.out.andThen hb3); clear k2 k3; have k2 := (HKb.out.keep hb3).cell 0; have k3 := (HKb.out.keep hb3).cell 1; simp at k2 k3; clear hb3)
        | (go_at_call 12; refine (HF.out _ HB3.out).mono ?_; clear HF; rintro e w4 ⟨rfl, hb4⟩; have HB4 := Lib.hid (HB3.out.andThen hb4); clear hb4))
      go_ret
      exact ⟨ret_bool HZ.out, HB4.out⟩
    · have HPr := Lib.hid (fun W (hW : Below w.heap.size w W) => PatR_f (A := A) (B := B) (n := n) (c := c) (m := m) (d := d) hP W hl hn hm (HS.out.keep hW) (HT.out.keep hW))
      have HZ := Lib.hid (show Ts.keepsB p L E = false from by unfold Ts.keepsB; rw [if_neg fun h => hP h.2])
      clear hG hP HRr HF
      go_enter Tryz.func11, Tryz.ntmps11
      go_wp2_with (first
        | (go_at_call 9; refine HR.out.mono ?_; clear HR; rintro e w2 ⟨rfl, hb2⟩; have HB2 := Lib.hid (HB.out.andThen hb2); have HKb := Lib.hid (HK2.out.keep hb2); have k2 := HKb.out.cell 0; have k3 := HKb.out.cell 1; simp at k2 k3; clear hb2)
        | (go_at_call 10; refine (HPr.out _ HB2.out).mono ?_; clear HPr; rintro e w3 ⟨g, rfl, hb3⟩; have HB3 := Lib.hid (HB2.out.andThen hb3); clear hb3))
      go_ret
      exact ⟨ret_bool HZ.out.symm, HB3.out⟩
  · have HR := Lib.hid (show Calls Tryz.prog 9 #[.slice P k c'] (w.alloc (.cells #[.slice A n c, .slice B m d] 30)) fun e w' => ∃ g, e = .returned (.iface 111 (.pointer (some ⟨g, 0, none⟩))) ∧ Below (w.alloc (.cells #[.slice A n c, .slice B m d] 30)).heap.size (w.alloc (.cells #[.slice A n c, .slice B m d] 30)) w' from HRr.out.mono fun e w' h => by
      rcases h with ⟨h, _⟩ | ⟨_, _, _, _, g, h1, _, h2, _⟩
      · exact absurd h hG
      · exact ⟨g, h1, h2⟩)
    have HZ := Lib.hid (show Ts.keepsB p L E = false from by unfold Ts.keepsB; rw [if_neg fun h => hG h.1])
    clear hG HRr HF
    go_enter Tryz.func11, Tryz.ntmps11
    go_wp2_with (go_at_call 9; refine HR.out.mono ?_; clear HR; rintro e w2 ⟨g, rfl, hb2⟩; have HB2 := Lib.hid (HB.out.andThen hb2); clear hb2)
    go_ret
    exact ⟨ret_bool HZ.out.symm, HB2.out⟩
end
end Go.Proofs.YtapledphhfiimaaGreatDoor
/-
  prog.Falls: no test of a program asks for a clique.
-/
namespace Go.Proofs.YtapledphhfiimaaGreatDoor
open Go.RowKit Go.Proofs.YtapledphhfiimaaGreatDoor.Pg
attribute [local go_sem ↓] Go.wp_at_zero Go.wp_at_succ
set_option maxRecDepth 100000
set_option linter.unusedVariables false

namespace Ts
def fallsB (p : List (Int × Int)) : Bool := !(p.any fun o => decide (o.1 = 1))
theorem falls_app (p q : List (Int × Int)) : fallsB (p ++ q) = (fallsB p && fallsB q) := by
  unfold fallsB
  rw [List.any_append, Bool.not_or]
theorem firstZ_any {q : Int × Int → Bool} {p : List (Int × Int)} {k : Nat} : decide (firstZ q p k ≥ 0) = p.any q := by
  cases h : p.any q with
  | true =>
    refine decide_eq_true ?_
    rcases Int.lt_or_le (firstZ q p k) 0 with h2 | h2
    · obtain ⟨x, hx, hq⟩ := List.any_eq_true.1 h
      rw [firstZ_neg.1 h2 x hx] at hq
      cases hq
    · exact h2
  | false =>
    refine decide_eq_false fun h2 => ?_
    have h3 : firstZ q p k < 0 := firstZ_neg.2 fun o ho => by
      have := List.any_eq_false.1 h o ho
      simpa using this
    omega
end Ts

theorem Fall1_any (x y : Int) (w : World) : Calls Tryz.prog 42 #[.agg #[.int .i64 x, .int .i64 y]] w fun e w' => e = .returned (.bool (decide (x = 1))) ∧ Below w.heap.size w w' := by
  have HB := Lib.hid (bel_al (Below.refl w.heap.size w) (.cells #[.int .i64 x, .int .i64 y] 40))
  go_enter Tryz.func42, Tryz.ntmps42
  by_cases h : x = 1
  · subst h
    go_wp2_with fail
    go_ret
    exact ⟨rfl, HB.out⟩
  · have HZ := Lib.hid (decide_eq_false h)
    go_wp2_with fail
    go_ret
    exact ⟨ret_bool (show (x == 1) = decide (x = 1) from rfl), HB.out⟩
set_option maxHeartbeats 1000000 in
theorem IndexFall_any (p : List (Int × Int)) (P : Option Addr) (k c' : Nat) (w : World) (hk : k ≤ 1000000) (hp : Sl w 2 P k (Rk.cells p)) :
    Calls Tryz.prog 38 #[.slice P k c', .func (.func 42) #[] #[]] w fun e w' => e = .returned (.int .i64 (Ts.firstZ (fun o => decide (o.1 = 1)) p 0)) ∧ Below w.heap.size w w' := by
  have HP := Lib.hid hp
  have HL := Lib.hid hp.len2
  clear hp
  go_enter Tryz.func38, Tryz.ntmps38
  go_wp2_with fail
  go_loopw [8] (fun i wr => ∃ j : Nat, j ≤ k ∧ i = .int .i64 (j : Int) ∧ Hid (∀ o ∈ p.take j, decide (o.1 = 1) = false) ∧ Hid (Below w.heap.size w wr)) (fun i _ => k - (intOf i).toNat)
  case atStart => exact ⟨0, Nat.zero_le _, rfl, Lib.hid (fun o ho => by simp at ho), Lib.hid (Below.refl _ _)⟩
  case round =>
    obtain ⟨j, hj, rfl, HD, HB⟩ := hrel
    by_cases hlt : j < k
    · have hlt' : (j : Int) < (k : Int) := by omega
      have hj0 : (0 : Int) ≤ (j : Int) := by omega
      obtain ⟨⟨x, y⟩, he⟩ : ∃ e, p[j]? = some e := ⟨_, List.getElem?_eq_getElem (by rw [HL.out]; exact hlt)⟩
      obtain ⟨b1, off1, rfl, c0, c1⟩ := (HP.out.keep HB.out).edge hlt he
      simp only at c0 c1
      have HX := Lib.hid he
      have HFx := Lib.hid (Fall1_any x y wr)
      clear he
      cases hq : decide (x = 1) with
      | true =>
        rw [hq] at HFx
        have HZ := Lib.hid (show Ts.firstZ (fun o => decide (o.1 = 1)) p 0 = (j : Int) from by
          have := Ts.firstZ_at (q := fun o => decide (o.1 = 1)) (i := 0) HD.out HX.out hq
          rw [this, Nat.zero_add])
        clear hq
        go_wp2_with (go_at_call 42; refine HFx.out.mono ?_; rintro e w' ⟨rfl, hb2⟩; have HB2 := Lib.hid (HB.out.andThen hb2); clear hb2)
        go_ret
        exact ⟨ret_int HZ.out.symm, HB2.out⟩
      | false =>
        rw [hq] at HFx
        have HD2 := Lib.hid (show ∀ o ∈ p.take (j + 1), decide (o.1 = 1) = false from fun o ho => by
          obtain ⟨h1, h2⟩ := List.getElem?_eq_some_iff.1 HX.out
          rw [List.take_succ_eq_append_getElem h1, h2] at ho
          rcases List.mem_append.1 ho with h | h
          · exact HD.out o h
          · rw [List.mem_singleton.1 h]; exact hq)
        clear hq
        go_wp2_with (go_at_call 42; refine HFx.out.mono ?_; rintro e w' ⟨rfl, hb2⟩; have HB2 := Lib.hid (HB.out.andThen hb2); clear hb2)
        go_roundw
        case rel => exact ⟨j + 1, by omega, by go_num, HD2, HB2⟩
        case measure => simp [intOf]; omega
    · obtain rfl : j = k := by omega
      have hlt' : ¬ (j : Int) < (j : Int) := by omega
      have HZ := Lib.hid (show Ts.firstZ (fun o => decide (o.1 = 1)) p 0 = -1 from by
        have h := HD.out
        rw [List.take_of_length_le (by rw [HL.out]; exact Nat.le_refl _)] at h
        exact Ts.firstZ_none h)
      go_wp2_with fail
      go_ret
      exact ⟨ret_int HZ.out.symm, HB.out⟩
theorem ContainsFall_any (p : List (Int × Int)) (P : Option Addr) (k c' : Nat) (w : World) (hk : k ≤ 1000000) (hp : Sl w 2 P k (Rk.cells p)) :
    Calls Tryz.prog 41 #[.slice P k c', .func (.func 42) #[] #[]] w fun e w' => e = .returned (.bool (p.any fun o => decide (o.1 = 1))) ∧ Below w.heap.size w w' := by
  have HI := Lib.hid (IndexFall_any p P k c' w hk hp)
  obtain ⟨z, hz⟩ : ∃ z, z = Ts.firstZ (fun o => decide (o.1 = 1)) p 0 := ⟨_, rfl⟩
  have HZ := Lib.hid (show decide (z ≥ 0) = p.any (fun o => decide (o.1 = 1)) from by rw [hz]; exact Ts.firstZ_any)
  rw [← hz] at HI
  clear hp hz
  go_enter Tryz.func41, Tryz.ntmps41
  go_wp2_with (go_at_call 38; refine HI.out.mono ?_; clear HI; rintro e w2 ⟨rfl, hb2⟩; have HB2 := Lib.hid hb2; clear hb2)
  go_ret
  exact ⟨ret_bool HZ.out, HB2.out⟩
theorem Falls_any (p : List (Int × Int)) (P : Option Addr) (k c' : Nat) (w : World) (hk : k ≤ 1000000) (hp : Sl w 2 P k (Rk.cells p)) :
    Calls Tryz.prog 13 #[.slice P k c'] w fun e w' => e = .returned (.bool (Ts.fallsB p)) ∧ Below w.heap.size w w' := by
  have HI := Lib.hid (ContainsFall_any p P k c' w hk hp)
  unfold Ts.fallsB
  generalize (p.any fun o => decide (o.1 = 1)) = r at *
  clear hp
  go_enter Tryz.func13, Tryz.ntmps13
  go_wp2_with (go_at_call 41; refine HI.out.mono ?_; clear HI; rintro e w2 ⟨rfl, hb2⟩; have HB2 := Lib.hid hb2; clear hb2)
  go_ret
  exact ⟨rfl, HB2.out⟩
end Go.Proofs.YtapledphhfiimaaGreatDoor
