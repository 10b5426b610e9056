/-
  cmp.Compare and slices.Compare at ints.
-/
import Derived.Test.YtmonepclhbappaaDoorSame
import Derived.Test.YtmonepclhbappaaDoorWords3
namespace Go.Proofs.YtmonepclhbappaaDoor
open Go.RowKit
set_option maxRecDepth 100000
set_option linter.unusedVariables false

def cmpI (x y : Int) : Int := if x < y then -1 else if y < x then 1 else 0
def cmpL : List Int → List Int → Int
  | [], [] => 0
  | [], _ :: _ => -1
  | _ :: _, [] => 1
  | x :: a, y :: b => if x < y then -1 else if y < x then 1 else cmpL a b
theorem cmpL_range : ∀ a b : List Int, cmpL a b = -1 ∨ cmpL a b = 0 ∨ cmpL a b = 1
  | [], [] => .inr (.inl rfl)
  | [], _ :: _ => .inl rfl
  | _ :: _, [] => .inr (.inr rfl)
  | x :: a, y :: b => by
    rw [cmpL]
    split
    · exact .inl rfl
    · split
      · exact .inr (.inr rfl)
      · exact cmpL_range a b
theorem cmpL_neg : ∀ a b : List Int, cmpL b a = - cmpL a b
  | [], [] => rfl
  | [], _ :: _ => rfl
  | _ :: _, [] => rfl
  | x :: a, y :: b => by
    rw [cmpL, cmpL]
    by_cases h : x < y
    · rw [if_neg (by omega), if_pos h, if_pos h]; rfl
    · by_cases h2 : y < x
      · rw [if_pos h2, if_neg h, if_pos h2]
      · rw [if_neg h2, if_neg h, if_neg h, if_neg h2]
        exact cmpL_neg a b
theorem cmpL_zero : ∀ {a b : List Int}, cmpL a b = 0 ↔ a = b
  | [], [] => by simp [cmpL]
  | [], _ :: _ => by simp [cmpL]
  | _ :: _, [] => by simp [cmpL]
  | x :: a, y :: b => by
    rw [cmpL]
    split
    · rename_i h
      simp
      omega
    · split
      · rename_i h1 h
        simp
        omega
      · rename_i h1 h2
        rw [cmpL_zero]
        simp
        omega
theorem cmpL_drop {a b : List Int} {i : Nat} {x y : Int} (ha : a[i]? = some x) (hb : b[i]? = some y) : cmpL (a.drop i) (b.drop i) = if x < y then -1 else if y < x then 1 else cmpL (a.drop (i + 1)) (b.drop (i + 1)) := by
  obtain ⟨h1, h2⟩ := List.getElem?_eq_some_iff.1 ha
  obtain ⟨h3, h4⟩ := List.getElem?_eq_some_iff.1 hb
  rw [List.drop_eq_getElem_cons h1, List.drop_eq_getElem_cons h3, h2, h4, cmpL]

theorem CmpI_any (x y : Int) (w : World) : Calls Tryd.prog 47 #[.int .i64 x, .int .i64 y] w fun e w' => e = .returned (.int .i64 (cmpI x y)) ∧ w = w' := by
  have HN := Lib.hid (show ∀ (z : Int) W, Calls Tryd.prog 80 #[.int .i64 z] W fun e w' => e = .returned (.bool false) ∧ W = w' from fun z W => by
    go_enter Tryd.func80, Tryd.ntmps80
    have hb : (z != z) = false := by simp
    go_wp2_with fail
    go_ret
    exact ⟨rfl, rfl⟩)
  by_cases h : x < y
  · have hE := Lib.hid (show cmpI x y = -1 from if_pos h)
    go_enter Tryd.func47, Tryd.ntmps47
    go_wp2_with (go_at_call 80; refine (HN.out _ _).mono ?_; rintro e w' ⟨rfl, rfl⟩)
    go_ret
    exact ⟨ret_int hE.out.symm, rfl⟩
  · by_cases h2 : y < x
    · have hE := Lib.hid (show cmpI x y = 1 by unfold cmpI; rw [if_neg h, if_pos h2])
      go_enter Tryd.func47, Tryd.ntmps47
      go_wp2_with (go_at_call 80; refine (HN.out _ _).mono ?_; rintro e w' ⟨rfl, rfl⟩)
      go_ret
      exact ⟨ret_int hE.out.symm, rfl⟩
    · have hE := Lib.hid (show cmpI x y = 0 by unfold cmpI; rw [if_neg h, if_neg h2])
      go_enter Tryd.func47, Tryd.ntmps47
      go_wp2_with (go_at_call 80; refine (HN.out _ _).mono ?_; rintro e w' ⟨rfl, rfl⟩)
      go_ret
      exact ⟨ret_int hE.out.symm, rfl⟩

set_option maxHeartbeats 2000000 in
theorem CompareI_any (a b : List Int) (A B : Option Addr) (n m c d : Nat) (w : World) (hl : a.length = n) (hm : b.length = m) (hs : Sl w 1 A n (a.map (Value.int .i64))) (ht : Sl w 1 B m (b.map (Value.int .i64))) (hn : n ≤ 9223372036854775806) :
    Calls Tryd.prog 48 #[.slice A n c, .slice B m d] w fun e w' => e = .returned (.int .i64 (cmpL a b)) ∧ w = w' := by
  have HS := Lib.hid hs
  have HT := Lib.hid ht
  have HL := Lib.hid hl
  have HM := Lib.hid hm
  clear hs ht hl hm
  go_enter Tryd.func48, Tryd.ntmps48
  go_wp2_with fail
  go_loop [11] (fun i => ∃ k : Nat, k ≤ n ∧ k ≤ m ∧ i = .int .i64 k ∧ cmpL (a.drop k) (b.drop k) = cmpL a b) (fun i => n - (intOf i).toNat)
  case atStart => exact ⟨0, Nat.zero_le _, Nat.zero_le _, rfl, rfl⟩
  case round =>
    obtain ⟨k, hk, hkm, rfl, hd⟩ := hrel
    have HD := Lib.hid hd
    clear hd
    by_cases hlt : k < n
    · have hlt' : (k : Int) < (n : Int) := by omega
      obtain ⟨x, hx⟩ : ∃ x, a[k]? = some x := ⟨_, List.getElem?_eq_getElem (by rw [HL.out]; exact hlt)⟩
      obtain ⟨b1, off1, rfl, _⟩ := HS.out.at_ (show 0 < n by omega)
      have c1 := HS.out.again hlt (show (a.map (Value.int .i64))[k]? = some (.int .i64 x) by rw [List.getElem?_map, hx]; rfl)
      by_cases hlm : k < m
      · have hlm' : (k : Int) < (m : Int) := by omega
        have hlm2 : ¬ (m : Int) ≤ (k : Int) := by omega
        obtain ⟨y, hy⟩ : ∃ y, b[k]? = some y := ⟨_, List.getElem?_eq_getElem (by rw [HM.out]; exact hlm)⟩
        obtain ⟨b2, off2, rfl, _⟩ := HT.out.at_ (show 0 < m by omega)
        have c2 := HT.out.again hlm (show (b.map (Value.int .i64))[k]? = some (.int .i64 y) by rw [List.getElem?_map, hy]; rfl)
        have HE := Lib.hid (HD.out.symm.trans (cmpL_drop hx hy))
        clear hx hy
        by_cases hxy : x < y
        · rw [if_pos hxy] at HE
          have hc : cmpI x y = -1 := if_pos hxy
          have hne : (cmpI x y == 0) = false := by rw [hc]; rfl
          have HC := Lib.hid (hc.trans HE.out.symm)
          clear hc
          go_wp2_with (go_at_call 47; refine (CmpI_any x y _).mono ?_; rintro e w' ⟨rfl, rfl⟩)
          go_ret
          exact ⟨ret_int HC.out, rfl⟩
        · rw [if_neg hxy] at HE
          by_cases hyx : y < x
          · rw [if_pos hyx] at HE
            have hc : cmpI x y = 1 := by unfold cmpI; rw [if_neg hxy, if_pos hyx]
            have hne : (cmpI x y == 0) = false := by rw [hc]; rfl
            have HC := Lib.hid (hc.trans HE.out.symm)
            clear hc
            go_wp2_with (go_at_call 47; refine (CmpI_any x y _).mono ?_; rintro e w' ⟨rfl, rfl⟩)
            go_ret
            exact ⟨ret_int HC.out, rfl⟩
          · rw [if_neg hyx] at HE
            have hc : cmpI x y = 0 := by unfold cmpI; rw [if_neg hxy, if_neg hyx]
            go_wp2_with (go_at_call 47; refine (CmpI_any x y _).mono ?_; rintro e w' ⟨rfl, rfl⟩)
            go_round
            case rel => exact ⟨k + 1, by omega, by omega, by go_num, HE.out.symm⟩
            case measure => simp [intOf]; omega
      · obtain rfl : k = m := by omega
        have hlm2 : (k : Int) ≤ (k : Int) := by omega
        have HE := Lib.hid (show 1 = cmpL a b by
          rw [← HD.out]
          obtain ⟨h1, h2⟩ := List.getElem?_eq_some_iff.1 hx
          rw [List.drop_eq_getElem_cons h1, List.drop_of_length_le (l := b) (by rw [HM.out]; exact Nat.le_refl _)]; rfl)
        clear hx
        go_wp2_with fail
        go_ret
        exact ⟨ret_int HE.out, rfl⟩
    · obtain rfl : k = n := by omega
      have hlt' : ¬ (k : Int) < (k : Int) := by omega
      by_cases hkm' : k < m
      · have hkm2 : (k : Int) < (m : Int) := by omega
        have HE := Lib.hid (show -1 = cmpL a b by
          rw [← HD.out, List.drop_of_length_le (l := a) (by rw [HL.out]; exact Nat.le_refl _), List.drop_eq_getElem_cons (l := b) (by rw [HM.out]; exact hkm')]; rfl)
        go_wp2_with fail
        go_ret
        exact ⟨ret_int HE.out, rfl⟩
      · obtain rfl : k = m := by omega
        have HE := Lib.hid (show 0 = cmpL a b by
          rw [← HD.out, List.drop_of_length_le (l := a) (by rw [HL.out]; exact Nat.le_refl _), List.drop_of_length_le (l := b) (by rw [HM.out]; exact Nat.le_refl _)]; rfl)
        go_wp2_with fail
        go_ret
        exact ⟨ret_int HE.out, rfl⟩
end Go.Proofs.YtmonepclhbappaaDoor
