/-
  Part 6 of the proof of OdagAdds: CmpS, SetsC, SetsD, SetsE, OdA, OdP.
-/
import Derived.Test.YtmonepclhbappaaDoorOdagAddsM2
import Derived.Test.YtmonepclhbappaaDoorOdagAddsM3
import Derived.Test.YtmonepclhbappaaDoorOdagAddsM5
import Derived.Shelf.Slices.SearchI
import Derived.Deep.RegionLaw
import Derived.Test.YtmonepclhbappaaDoorOdagAddsM1
/-
  cmp.Compare and slices.Compare at ints.
-/
namespace Go.Proofs.YtmonepclhbappaaDoor
open Go.RowKit
set_option maxRecDepth 100000
set_option linter.unusedVariables false

def cmpI (x y : Int) : Int := if x < y then -1 else if y < x then 1 else 0
def cmpL : List Int → List Int → Int
  | [], [] => 0
  | [], _ :: _ => -1
  | _ :: _, [] => 1
  | x :: a, y :: b => if x < y then -1 else if y < x then 1 else cmpL a b
theorem cmpL_range : ∀ a b : List Int, cmpL a b = -1 ∨ cmpL a b = 0 ∨ cmpL a b = 1
  | [], [] => .inr (.inl rfl)
  | [], _ :: _ => .inl rfl
  | _ :: _, [] => .inr (.inr rfl)
  | x :: a, y :: b => by
    rw [cmpL]
    split
    · exact .inl rfl
    · split
      · exact .inr (.inr rfl)
      · exact cmpL_range a b
theorem cmpL_neg : ∀ a b : List Int, cmpL b a = - cmpL a b
  | [], [] => rfl
  | [], _ :: _ => rfl
  | _ :: _, [] => rfl
  | x :: a, y :: b => by
    rw [cmpL, cmpL]
    by_cases h : x < y
    · rw [if_neg (by omega), if_pos h, if_pos h]; rfl
    · by_cases h2 : y < x
      · rw [if_pos h2, if_neg h, if_pos h2]
      · rw [if_neg h2, if_neg h, if_neg h, if_neg h2]
        exact cmpL_neg a b
theorem cmpL_zero : ∀ {a b : List Int}, cmpL a b = 0 ↔ a = b
  | [], [] => by simp [cmpL]
  | [], _ :: _ => by simp [cmpL]
  | _ :: _, [] => by simp [cmpL]
  | x :: a, y :: b => by
    rw [cmpL]
    split
    · rename_i h
      simp
      omega
    · split
      · rename_i h1 h
        simp
        omega
      · rename_i h1 h2
        rw [cmpL_zero]
        simp
        omega
theorem cmpL_drop {a b : List Int} {i : Nat} {x y : Int} (ha : a[i]? = some x) (hb : b[i]? = some y) : cmpL (a.drop i) (b.drop i) = if x < y then -1 else if y < x then 1 else cmpL (a.drop (i + 1)) (b.drop (i + 1)) := by
  obtain ⟨h1, h2⟩ := List.getElem?_eq_some_iff.1 ha
  obtain ⟨h3, h4⟩ := List.getElem?_eq_some_iff.1 hb
  rw [List.drop_eq_getElem_cons h1, List.drop_eq_getElem_cons h3, h2, h4, cmpL]

theorem CmpI_any (x y : Int) (w : World) : Calls Tryd.prog 47 #[.int .i64 x, .int .i64 y] w fun e w' => e = .returned (.int .i64 (cmpI x y)) ∧ w = w' := by
  have HN := Lib.hid (show ∀ (z : Int) W, Calls Tryd.prog 80 #[.int .i64 z] W fun e w' => e = .returned (.bool false) ∧ W = w' from fun z W => by
    go_enter Tryd.func80, Tryd.ntmps80
    have hb : (z != z) = false := by simp
    go_wp2_with fail
    go_ret
    exact ⟨rfl, rfl⟩)
  by_cases h : x < y
  · have hE := Lib.hid (show cmpI x y = -1 from if_pos h)
    go_enter Tryd.func47, Tryd.ntmps47
    go_wp2_with (go_at_call 80; refine (HN.out _ _).mono ?_; rintro e w' ⟨rfl, rfl⟩)
    go_ret
    exact ⟨ret_int hE.out.symm, rfl⟩
  · by_cases h2 : y < x
    · have hE := Lib.hid (show cmpI x y = 1 by unfold cmpI; rw [if_neg h, if_pos h2])
      go_enter Tryd.func47, Tryd.ntmps47
      go_wp2_with (go_at_call 80; refine (HN.out _ _).mono ?_; rintro e w' ⟨rfl, rfl⟩)
      go_ret
      exact ⟨ret_int hE.out.symm, rfl⟩
    · have hE := Lib.hid (show cmpI x y = 0 by unfold cmpI; rw [if_neg h, if_neg h2])
      go_enter Tryd.func47, Tryd.ntmps47
      go_wp2_with (go_at_call 80; refine (HN.out _ _).mono ?_; rintro e w' ⟨rfl, rfl⟩)
      go_ret
      exact ⟨ret_int hE.out.symm, rfl⟩

set_option maxHeartbeats 2000000 in
theorem CompareI_any (a b : List Int) (A B : Option Addr) (n m c d : Nat) (w : World) (hl : a.length = n) (hm : b.length = m) (hs : Sl w 1 A n (a.map (Value.int .i64))) (ht : Sl w 1 B m (b.map (Value.int .i64))) (hn : n ≤ 9223372036854775806) :
    Calls Tryd.prog 48 #[.slice A n c, .slice B m d] w fun e w' => e = .returned (.int .i64 (cmpL a b)) ∧ w = w' := by
  have HS := Lib.hid hs
  have HT := Lib.hid ht
  have HL := Lib.hid hl
  have HM := Lib.hid hm
  clear hs ht hl hm
  go_enter Tryd.func48, Tryd.ntmps48
  go_wp2_with fail
  go_loop [11] (fun i => ∃ k : Nat, k ≤ n ∧ k ≤ m ∧ i = .int .i64 k ∧ cmpL (a.drop k) (b.drop k) = cmpL a b) (fun i => n - (intOf i).toNat)
  case atStart => exact ⟨0, Nat.zero_le _, Nat.zero_le _, rfl, rfl⟩
  case round =>
    obtain ⟨k, hk, hkm, rfl, hd⟩ := hrel
    have HD := Lib.hid hd
    clear hd
    by_cases hlt : k < n
    · have hlt' : (k : Int) < (n : Int) := by omega
      obtain ⟨x, hx⟩ : ∃ x, a[k]? = some x := ⟨_, List.getElem?_eq_getElem (by rw [HL.out]; exact hlt)⟩
      obtain ⟨b1, off1, rfl, _⟩ := HS.out.at_ (show 0 < n by omega)
      have c1 := HS.out.again hlt (show (a.map (Value.int .i64))[k]? = some (.int .i64 x) by rw [List.getElem?_map, hx]; rfl)
      by_cases hlm : k < m
      · have hlm' : (k : Int) < (m : Int) := by omega
        have hlm2 : ¬ (m : Int) ≤ (k : Int) := by omega
        obtain ⟨y, hy⟩ : ∃ y, b[k]? = some y := ⟨_, List.getElem?_eq_getElem (by rw [HM.out]; exact hlm)⟩
        obtain ⟨b2, off2, rfl, _⟩ := HT.out.at_ (show 0 < m by omega)
        have c2 := HT.out.again hlm (show (b.map (Value.int .i64))[k]? = some (.int .i64 y) by rw [List.getElem?_map, hy]; rfl)
        have HE := Lib.hid (HD.out.symm.trans (cmpL_drop hx hy))
        clear hx hy
        by_cases hxy : x < y
        · rw [if_pos hxy] at HE
          have hc : cmpI x y = -1 := if_pos hxy
          have hne : (cmpI x y == 0) = false := by rw [hc]; rfl
          have HC := Lib.hid (hc.trans HE.out.symm)
          clear hc
          go_wp2_with (go_at_call 47; refine (CmpI_any x y _).mono ?_; rintro e w' ⟨rfl, rfl⟩)
          go_ret
          exact ⟨ret_int HC.out, rfl⟩
        · rw [if_neg hxy] at HE
          by_cases hyx : y < x
          · rw [if_pos hyx] at HE
            have hc : cmpI x y = 1 := by unfold cmpI; rw [if_neg hxy, if_pos hyx]
            have hne : (cmpI x y == 0) = false := by rw [hc]; rfl
            have HC := Lib.hid (hc.trans HE.out.symm)
            clear hc
            go_wp2_with (go_at_call 47; refine (CmpI_any x y _).mono ?_; rintro e w' ⟨rfl, rfl⟩)
            go_ret
            exact ⟨ret_int HC.out, rfl⟩
          · rw [if_neg hyx] at HE
            have hc : cmpI x y = 0 := by unfold cmpI; rw [if_neg hxy, if_neg hyx]
            go_wp2_with (go_at_call 47; refine (CmpI_any x y _).mono ?_; rintro e w' ⟨rfl, rfl⟩)
            go_round
            case rel => exact ⟨k + 1, by omega, by omega, by go_num, HE.out.symm⟩
            case measure => simp [intOf]; omega
      · obtain rfl : k = m := by omega
        have hlm2 : (k : Int) ≤ (k : Int) := by omega
        have HE := Lib.hid (show 1 = cmpL a b by
          rw [← HD.out]
          obtain ⟨h1, h2⟩ := List.getElem?_eq_some_iff.1 hx
          rw [List.drop_eq_getElem_cons h1, List.drop_of_length_le (l := b) (by rw [HM.out]; exact Nat.le_refl _)]; rfl)
        clear hx
        go_wp2_with fail
        go_ret
        exact ⟨ret_int HE.out, rfl⟩
    · obtain rfl : k = n := by omega
      have hlt' : ¬ (k : Int) < (k : Int) := by omega
      by_cases hkm' : k < m
      · have hkm2 : (k : Int) < (m : Int) := by omega
        have HE := Lib.hid (show -1 = cmpL a b by
          rw [← HD.out, List.drop_of_length_le (l := a) (by rw [HL.out]; exact Nat.le_refl _), List.drop_eq_getElem_cons (l := b) (by rw [HM.out]; exact hkm')]; rfl)
        go_wp2_with fail
        go_ret
        exact ⟨ret_int HE.out, rfl⟩
      · obtain rfl : k = m := by omega
        have HE := Lib.hid (show 0 = cmpL a b by
          rw [← HD.out, List.drop_of_length_le (l := a) (by rw [HL.out]; exact Nat.le_refl _), List.drop_of_length_le (l := b) (by rw [HM.out]; exact Nat.le_refl _)]; rfl)
        go_wp2_with fail
        go_ret
        exact ⟨ret_int HE.out, rfl⟩
end Go.Proofs.YtmonepclhbappaaDoor
/-
  Lists held against each other; which lists rise: the given program's and the document's.
-/
namespace Go.Proofs.YtmonepclhbappaaDoor
open Go.RowKit
set_option maxRecDepth 100000
set_option linter.unusedVariables false

end Go.Proofs.YtmonepclhbappaaDoor
/-
  sets.Right; the document's Compare.
-/
namespace Go.Proofs.YtmonepclhbappaaDoor
open Go.RowKit
set_option maxRecDepth 100000
set_option linter.unusedVariables false

abbrev Inc (l : List Int) : Prop := l.Pairwise (· < ·)
theorem inc_take {l : List Int} {k : Nat} {x y : Int} (hx : l[k]? = some x) (hy : l[k + 1]? = some y) : Inc (l.take (k + 2)) ↔ Inc (l.take (k + 1)) ∧ x < y := by
  obtain ⟨h1, h2⟩ := List.getElem?_eq_some_iff.1 hx
  obtain ⟨h3, h4⟩ := List.getElem?_eq_some_iff.1 hy
  rw [List.take_succ_eq_append_getElem h3, h4]
  unfold Inc
  rw [List.pairwise_append]
  constructor
  · rintro ⟨ha, _, hb⟩
    refine ⟨ha, hb x ?_ y (by simp)⟩
    rw [List.take_succ_eq_append_getElem h1, h2]; simp
  · rintro ⟨ha, hb⟩
    refine ⟨ha, List.pairwise_singleton _ _, fun a ha' b hb' => ?_⟩
    obtain rfl : b = y := by simpa using hb'
    rw [List.take_succ_eq_append_getElem h1, h2] at ha ha'
    rcases List.mem_append.1 ha' with h | h
    · have := (List.pairwise_append.1 ha).2.2 a h x (by simp)
      omega
    · obtain rfl : a = x := by simpa using h
      exact hb
theorem inc_one (l : List Int) : Inc (l.take 1) := by cases l <;> simp [Inc]
theorem inc_prefix {l : List Int} {k : Nat} (h : Inc l) : Inc (l.take k) := h.sublist (List.take_sublist _ _)

set_option maxHeartbeats 2000000 in
theorem RefCompare_any (a b : List Int) (A B : Option Addr) (n m c d : Nat) (w : World) (hl : a.length = n) (hm : b.length = m) (hs : Sl w 1 A n (a.map (Value.int .i64))) (ht : Sl w 1 B m (b.map (Value.int .i64))) (hn : n ≤ 9223372036854775806) :
    Calls Tryd.prog 27 #[.slice A n c, .slice B m d] w fun e w' => e = .returned (.int .i64 (cmpL a b)) ∧ Below w.heap.size w w' := by
  have HS := Lib.hid hs
  have HT := Lib.hid ht
  have HL := Lib.hid hl
  have HM := Lib.hid hm
  clear hs ht hl hm
  go_enter Tryd.func27, Tryd.ntmps27
  go_wp2_with fail
  go_loopw [5] (fun i wr => ∃ k : Nat, k ≤ n ∧ k ≤ m ∧ i = .int .i64 k ∧ cmpL (a.drop k) (b.drop k) = cmpL a b ∧ Below w.heap.size w wr) (fun i _ => n - (intOf i).toNat)
  case atStart => exact ⟨0, Nat.zero_le _, Nat.zero_le _, rfl, rfl, Below.refl _ _⟩
  case round =>
    obtain ⟨k, hk, hkm, rfl, hd, hb⟩ := hrel
    have HD := Lib.hid hd
    have HB := Lib.hid hb
    clear hd hb
    by_cases hlt : k < n
    · have hlt' : (k : Int) < (n : Int) := by omega
      obtain ⟨x, hx⟩ : ∃ x, a[k]? = some x := ⟨_, List.getElem?_eq_getElem (by rw [HL.out]; exact hlt)⟩
      obtain ⟨b1, off1, rfl, _⟩ := HS.out.at_ (show 0 < n by omega)
      have c1 := (HS.out.keep HB.out).again hlt (show (a.map (Value.int .i64))[k]? = some (.int .i64 x) by rw [List.getElem?_map, hx]; rfl)
      by_cases hlm : k < m
      · have hlm' : (k : Int) < (m : Int) := by omega
        obtain ⟨y, hy⟩ : ∃ y, b[k]? = some y := ⟨_, List.getElem?_eq_getElem (by rw [HM.out]; exact hlm)⟩
        obtain ⟨b2, off2, rfl, _⟩ := HT.out.at_ (show 0 < m by omega)
        have c2 := (HT.out.keep HB.out).again hlm (show (b.map (Value.int .i64))[k]? = some (.int .i64 y) by rw [List.getElem?_map, hy]; rfl)
        have HE := Lib.hid (HD.out.symm.trans (cmpL_drop hx hy))
        clear hx hy
        have h0k : (0 : Int) ≤ (k : Int) := by omega
        have hwi : IntKind.i64.wrap ((k : Int) + 1) = ((k + 1 : Nat) : Int) := by rw [IntKind.wrap_i64]; omega
        by_cases hxy : x < y
        · rw [if_pos hxy] at HE
          go_wp2_with fail
          go_quiet (fail)
          go_wp2_with fail
          go_ret
          exact ⟨ret_int HE.out.symm, bel_drewN HB.out _⟩
        · rw [if_neg hxy] at HE
          by_cases hyx : y < x
          · rw [if_pos hyx] at HE
            go_wp2_with fail
            go_quiet (fail)
            obtain ⟨w1, hw1⟩ : ∃ w1, w1 = wr.drewN nq := ⟨_, rfl⟩
            rw [← hw1]
            have HW1 := Lib.hid (show Below w.heap.size w w1 from by rw [hw1]; exact bel_drewN HB.out _)
            have c1' : w1.cell? ⟨b1, off1 + k, none⟩ = some (.int .i64 x) := by rw [hw1]; exact c1
            have c2' : w1.cell? ⟨b2, off2 + k, none⟩ = some (.int .i64 y) := by rw [hw1]; exact c2
            clear hw1
            go_wp2_with fail
            go_quiet (fail)
            go_wp2_with fail
            go_ret
            exact ⟨ret_int HE.out.symm, bel_drewN HW1.out _⟩
          · rw [if_neg hyx] at HE
            go_wp2_with fail
            go_quiet (fail)
            obtain ⟨w1, hw1⟩ : ∃ w1, w1 = wr.drewN nq := ⟨_, rfl⟩
            rw [← hw1]
            have HW1 := Lib.hid (show Below w.heap.size w w1 from by rw [hw1]; exact bel_drewN HB.out _)
            have c1' : w1.cell? ⟨b1, off1 + k, none⟩ = some (.int .i64 x) := by rw [hw1]; exact c1
            have c2' : w1.cell? ⟨b2, off2 + k, none⟩ = some (.int .i64 y) := by rw [hw1]; exact c2
            clear hw1
            go_wp2_with fail
            go_quiet (fail)
            go_wp2_with fail
            go_roundw
            case rel => exact ⟨k + 1, by omega, by omega, by go_num, HE.out.symm, bel_drewN HW1.out _⟩
            case measure => simp [intOf]; omega
      · obtain rfl : k = m := by omega
        have hlm2 : ¬ (k : Int) < (k : Int) := by omega
        have hnk : ¬ (n : Int) < (k : Int) := by omega
        have HE := Lib.hid (show 1 = cmpL a b by
          rw [← HD.out]
          obtain ⟨h1, h2⟩ := List.getElem?_eq_some_iff.1 hx
          rw [List.drop_eq_getElem_cons h1, List.drop_of_length_le (l := b) (by rw [HM.out]; exact Nat.le_refl _)]; rfl)
        clear hx
        go_wp2_with fail
        go_ret
        exact ⟨ret_int HE.out, HB.out⟩
    · obtain rfl : k = n := by omega
      have hlt' : ¬ (k : Int) < (k : Int) := by omega
      by_cases hkm' : k < m
      · have hkm2 : (k : Int) < (m : Int) := by omega
        have HE := Lib.hid (show -1 = cmpL a b by
          rw [← HD.out, List.drop_of_length_le (l := a) (by rw [HL.out]; exact Nat.le_refl _), List.drop_eq_getElem_cons (l := b) (by rw [HM.out]; exact hkm')]; rfl)
        go_wp2_with fail
        go_ret
        exact ⟨ret_int HE.out, HB.out⟩
      · obtain rfl : k = m := by omega
        have HE := Lib.hid (show 0 = cmpL a b by
          rw [← HD.out, List.drop_of_length_le (l := a) (by rw [HL.out]; exact Nat.le_refl _), List.drop_of_length_le (l := b) (by rw [HM.out]; exact Nat.le_refl _)]; rfl)
        go_wp2_with fail
        go_ret
        exact ⟨ret_int HE.out, HB.out⟩
end Go.Proofs.YtmonepclhbappaaDoor
/-
  sets.Has, Add, Less, Both, But, Within, Union; the document's Those.
-/
namespace Go.Proofs.YtmonepclhbappaaDoor
open Go.RowKit Go.Shelf
set_option maxRecDepth 100000
set_option linter.unusedVariables false

def bs_ren : Go.Shelf.Ren := ⟨fun | 25 => 96 | 31 => 112 | 32 => 113 | 37 => 80 | n => n, fun | 0 => 0 | 3 => 3 | 4 => 4 | 22 => 22 | 40 => 151 | n => n, fun | n => n⟩
theorem bs_lays : Go.Proofs.Lays2.n25 Tryd.prog bs_ren := {
  mixed := by kernel_rfl
  f25 := Tryd.func96.trans (congrArg some (by kernel_rfl))
  f31 := Tryd.func112.trans (congrArg some (by kernel_rfl))
  f32 := Tryd.func113.trans (congrArg some (by kernel_rfl))
  f37 := Tryd.func80.trans (congrArg some (by kernel_rfl))
  t0 := Tryd.underlying0
  a0 := Tryd.isAgg0
  z0 := Tryd.sizeOf0
  v0 := Tryd.zeroValue0
  t3 := Tryd.underlying3
  a3 := Tryd.isAgg3
  z3 := Tryd.sizeOf3
  v3 := Tryd.zeroValue3
  t4 := Tryd.underlying4
  a4 := Tryd.isAgg4
  z4 := Tryd.sizeOf4
  v4 := Tryd.zeroValue4
  t22 := Tryd.underlying22
  a22 := Tryd.isAgg22
  z22 := Tryd.sizeOf22
  v22 := Tryd.zeroValue22
  t40 := Tryd.underlying151
  a40 := Tryd.isAgg151
  z40 := Tryd.sizeOf151
  v40 := Tryd.zeroValue151 }

theorem sl_lt {w : World} {A : Option Addr} {n : Nat} {xs : List Value} (h : Sl w 1 A n xs) (hn : 0 < n) : ∀ x : Addr, A = some x → x.block < w.heap.size := by
  intro x hx
  obtain ⟨b, off, u, rfl, _, hc⟩ := h.one hn
  cases hx
  by_cases hb : b < w.heap.size
  · exact hb
  · exfalso
    have : w.heap[b]? = none := Array.getElem?_eq_none (by omega)
    simp [World.cell?, this] at hc
theorem rise_count : ∀ (l : List Int) (x : Int), Inc l → rise x l = l.countP (· < x)
  | [], x, _ => rfl
  | y :: l, x, h => by
    have h1 := (List.pairwise_cons.1 h).1
    rw [rise]
    by_cases hy : y < x
    · rw [if_pos hy, List.countP_cons_of_pos (by simpa using hy), rise_count l x (List.pairwise_cons.1 h).2]
    · rw [if_neg hy, List.countP_eq_zero.2]
      intro z hz
      rcases List.mem_cons.1 hz with rfl | hz
      · simpa using hy
      · have := h1 z hz
        simp
        omega

set_option maxHeartbeats 2000000 in
theorem BS_any (l : List Int) (x : Int) (A : Option Addr) (n c : Nat) (w : World) (hl : l.length = n) (hn : n ≤ 1000000) (hI : Inc l) (hs : Sl w 1 A n (l.map (Value.int .i64))) :
    Calls Tryd.prog 96 #[.slice A n c, .int .i64 x] w fun e w' => e = .returned (.tuple #[.int .i64 ((rise x l : Nat) : Int), .bool (decide (x ∈ l))]) ∧ Below w.heap.size w w' := by
  rcases A with _ | A
  · have hn0 : n = 0 := by
      rcases Nat.eq_zero_or_pos n with h | h
      · exact h
      · obtain ⟨_, _, h, _⟩ := hs.2 h; cases h
    subst hn0
    obtain rfl := List.eq_nil_of_length_eq_zero hl
    have HR := Lib.hid (show Ending.returned (.tuple #[.int .i64 0, .bool false]) = .returned (.tuple #[.int .i64 ((rise x [] : Nat) : Int), .bool (decide (x ∈ ([] : List Int)))]) by simp [rise])
    clear hs hI
    go_enter Tryd.func96, Tryd.ntmps96
    go_wp2_with fail
    go_loopw [7, 8] (fun i j wr => i = .int .i64 0 ∧ j = .int .i64 0 ∧ wr = w) (fun _ _ _ => 0)
    case atStart => exact ⟨rfl, rfl, rfl⟩
    case round =>
      obtain ⟨rfl, rfl, rfl⟩ := hrel
      go_wp2_with fail
      go_ret2
      exact ⟨HR.out, Below.refl _ _⟩
  · have hex : ∃ b off, some A = some (⟨b, off, none⟩ : Addr) ∨ n = 0 := by
      rcases Nat.eq_zero_or_pos n with h | h
      · exact ⟨0, 0, .inr h⟩
      · obtain ⟨b, off, h, _⟩ := hs.2 h
        exact ⟨b, off, .inl h⟩
    have fin : ∀ b off, A = ⟨b, off, none⟩ → Calls Tryd.prog 96 #[.slice (some A) n c, .int .i64 x] w fun e w' => e = .returned (.tuple #[.int .i64 ((rise x l : Nat) : Int), .bool (decide (x ∈ l))]) ∧ Below w.heap.size w w' := by
      rintro b off rfl
      refine (Go.Proofs.Any.slices_BinarySearch_int bs_lays b off n c l x w (by omega) (by omega) (fun j hj => ?_) ?_).mono ?_
      · refine hs.again (k := j) (by omega) ?_
        rw [List.getElem?_map, List.getElem?_eq_getElem hj, List.getD_eq_getElem?_getD, List.getElem?_eq_getElem hj]; rfl
      · rw [List.take_of_length_le (by omega)]
        exact hI.imp fun h => Int.le_of_lt h
      · rintro e w' ⟨rfl, q, rfl⟩
        rw [List.take_of_length_le (by omega), ← rise_count l x hI]
        refine ⟨?_, bel_drewN (Below.refl _ _) q⟩
        congr 4
        rw [List.contains_eq_mem]
    obtain ⟨b, off, h | h⟩ := hex
    · cases h
      exact fin b off rfl
    · subst h
      obtain rfl := List.eq_nil_of_length_eq_zero hl
      have HR := Lib.hid (show Ending.returned (.tuple #[.int .i64 0, .bool false]) = .returned (.tuple #[.int .i64 ((rise x [] : Nat) : Int), .bool (decide (x ∈ ([] : List Int)))]) by simp [rise])
      clear hs hI fin
      go_enter Tryd.func96, Tryd.ntmps96
      go_wp2_with fail
      go_loopw [7, 8] (fun i j wr => i = .int .i64 0 ∧ j = .int .i64 0 ∧ wr = w) (fun _ _ _ => 0)
      case atStart => exact ⟨rfl, rfl, rfl⟩
      case round =>
        obtain ⟨rfl, rfl, rfl⟩ := hrel
        go_wp2_with fail
        go_ret2
        exact ⟨HR.out, Below.refl _ _⟩

theorem HasS_any (l : List Int) (x : Int) (A : Option Addr) (n c : Nat) (w : World) (hl : l.length = n) (hn : n ≤ 1000000) (hI : Inc l) (hs : Sl w 1 A n (l.map (Value.int .i64))) :
    Calls Tryd.prog 74 #[.slice A n c, .int .i64 x] w fun e w' => e = .returned (.bool (decide (x ∈ l))) ∧ Below w.heap.size w w' := by
  have HB := Lib.hid (BS_any l x A n c w hl hn hI hs)
  generalize decide (x ∈ l) = q at *
  generalize rise x l = r at *
  clear hl hI hs
  go_enter Tryd.func74, Tryd.ntmps74
  go_wp2_with fail
  refine HB.out.mono ?_
  rintro e w' ⟨rfl, hb⟩
  go_wp2_with fail
  go_ret
  exact ⟨rfl, hb⟩

set_option maxHeartbeats 2000000 in
theorem Union_any (a b : List Int) (A B : Option Addr) (n c m d : Nat) (w : World) (ha : a.length = n) (hn : n ≤ 100000) (hc : n ≤ c ∧ c ≤ 9223372036854775807) (hs : Sl w 1 A n (a.map (Value.int .i64))) (hm : b.length = m) (hmn : m ≤ 100000) (hd : m ≤ d ∧ d ≤ 9223372036854775807) (ht : Sl w 1 B m (b.map (Value.int .i64))) :
    Calls Tryd.prog 86 #[.slice A n c, .slice B m d] w fun e w' => ∃ v, e = .returned v ∧ w'.ownsRow w.heap.size 3 1 v (setL (a ++ b)).length ((setL (a ++ b)).map (Value.int .i64)) ∧ Below w.heap.size w w' := by
  have hb0 := bel_al (Below.refl w.heap.size w) (.cells #[.slice A n c, .slice B m d] 22)
  have hlr : [(A, c, a), (B, d, b)].map rv = [.slice A n c, .slice B m d] := by simp only [List.map_cons, List.map_nil, rv, ha, hm]
  have hfl : flat [(A, c, a), (B, d, b)] = a ++ b := by simp [flat]
  have hb0 := bel_al (Below.refl w.heap.size w) (.cells #[.slice A n c, .slice B m d] 22)
  have HK := Lib.hid (Concat_any [(A, c, a), (B, d, b)] (some ⟨w.heap.size, 0, none⟩) 2 2 _ rfl (by omega) (by rw [hlr]; exact Sl.newAt w [_, _] 22 2 rfl) (fun t ht' => by
    rcases List.mem_cons.1 ht' with rfl | ht'
    · exact ⟨by show Sl _ 1 A a.length _; rw [ha]; exact hs.keep hb0, by show a.length ≤ c; omega, hc.2⟩
    · obtain rfl := List.mem_singleton.1 ht'
      exact ⟨by show Sl _ 1 B b.length _; rw [hm]; exact ht.keep hb0, by show b.length ≤ d; omega, hd.2⟩) (by rw [hfl, List.length_append]; omega))
  rw [hfl] at HK
  have HB := Lib.hid hb0
  have HLn := Lib.hid (show (a ++ b).length ≤ 1048576 from by rw [List.length_append]; omega)
  have HOf := Lib.hid (fun (C : Option Addr) (k : Nat) w' (hs2 : Sl w' 1 C (a ++ b).length ((a ++ b).map (Value.int .i64))) (h : 0 < (a ++ b).length → ∀ x : Addr, C = some x → x.block < w'.heap.size) => Of_any (a ++ b) C (a ++ b).length k w' rfl HLn.out hs2 h)
  generalize setL (a ++ b) = U at *
  generalize (a ++ b) = ab at *
  clear hs ht hlr hfl hb0
  go_enter Tryd.func86, Tryd.ntmps86
  go_wp2_with fail
  refine HK.out.mono ?_
  rintro e w2 ⟨v, rfl, hown, hb⟩
  have HB2 := Lib.hid (HB.out.andThen hb)
  obtain ⟨C, k, rfl, hs2⟩ := Sl.own hown
  have HO := Lib.hid (HOf.out C k w2 hs2 (fun _ x hx => by subst hx; exact (hown.lt _ rfl).2))
  clear hown hb hs2
  go_wp2_with fail
  refine HO.out.mono ?_
  rintro e w3 ⟨v3, rfl, hown3, hb3⟩
  have HO3 := Lib.hid (own_mono hown3 HB2.out.size)
  have HB3 := Lib.hid (HB2.out.andThen hb3)
  clear hown3 hb3
  go_wp2_with fail
  go_ret
  exact ⟨_, rfl, HO3.out, HB3.out⟩

end Go.Proofs.YtmonepclhbappaaDoor
/-
  Odags: contracts of Len, fresh, put.
-/
namespace Go.Proofs.YtmonepclhbappaaDoor
open Go.RowKit Go.Maps
set_option maxRecDepth 100000
set_option linter.unusedVariables false

theorem OdLen_any (p : Nat) (od : List Rw) (w : World) (h : OdM w p od) : Calls Tryd.prog 52 #[.pointer (some ⟨p, 0, none⟩)] w fun e w' => e = .returned (.int .i64 (od.length : Nat)) ∧ w = w' := by
  obtain ⟨R, n, c, bs, hb, hn, _⟩ := h
  have c0 := hb.cell 0
  simp at c0
  have HN := Lib.hid hn
  clear hn hb
  go_enter Tryd.func52, Tryd.ntmps52
  go_wp2_with fail
  go_ret
  exact ⟨ret_int (by rw [HN.out]), rfl⟩
theorem OdLen_nil (w : World) : Calls Tryd.prog 52 #[.pointer none] w fun e w' => e = .returned (.int .i64 0) ∧ w = w' := by
  go_enter Tryd.func52, Tryd.ntmps52
  go_wp2_with fail
  go_ret
  exact ⟨rfl, rfl⟩

theorem gb_then {w w1 w2 : World} {row : Option Nat} (h : Below w.heap.size w w1) (hg : w1.grownBy w2 row) : w.grownBy w2 row :=
  ⟨hg.os.trans h.os, hg.tape.trans h.tape, hg.output.trans h.output, Nat.le_trans h.size hg.size, fun k hk hne => (hg.block k (Nat.lt_of_lt_of_le hk h.size) hne).trans (h.block k hk)⟩

set_option maxHeartbeats 2000000 in
theorem put_any (b : Nat) (r : Rw) (a : Int) (B : Option Addr) (m d : Nat) (L : List Int) (w : World) (hr : MRow w b r) (hrl : r.length ≤ 1000000) (hll : ∀ x ∈ r, x.2.length ≤ 100000) (ha : -9223372036854775808 ≤ a ∧ a ≤ 9223372036854775807) (hL : RowOK w (B, d, L)) (hm : L.length = m) (hm2 : m ≤ 100000) :
    Calls Tryd.prog 56 #[.map (some b), .int .i64 a, .slice B m d] w fun e w' => e = .returned (.tuple #[]) ∧ MRow w' b (putR r a (setL (lkR r a ++ L))) ∧ w.grownBy w' (some b) := by
  have HR := Lib.hid hr
  have HL := Lib.hid hL
  have HM := Lib.hid hm
  have HA := Lib.hid ha
  have HRl := Lib.hid hrl
  have HLk := Lib.hid (show (lkR r a).length ≤ 100000 from by
    unfold lkR
    cases hf : r.find? fun p => decide (p.1 = a) with
    | none => simp
    | some p => exact hll p (List.mem_of_find?_eq_some hf))
  clear hr hL hm ha hrl hll
  go_enter Tryd.func56, Tryd.ntmps56
  go_wp2_with (first
    | (at_lookup; refine wpList_lookR _ rfl _ _ rfl b r rfl HR.out a rfl HA.out.1 HA.out.2 ?_; intro A c l hrow hl; have HRow := Lib.hid hrow; have HEl := Lib.hid hl; clear hrow hl)
    | (go_at_call 86; refine (Union_any l L A B l.length c m d _ rfl (by rw [HEl.out]; exact HLk.out) HRow.out.2 HRow.out.1 HM.out hm2 (by have := HL.out.2; rw [← HM.out]; exact this) (by have := HL.out.1; rw [HM.out] at this; exact this)).mono ?_; rintro e w2 ⟨v, rfl, hown, hb⟩; have HU := Lib.hid hown; have HB := Lib.hid hb; have hsh := Sl.own hown; obtain ⟨C, k, rfl, _⟩ := hsh; have HRk := Lib.hid (HR.out.keep hb); have HC := Lib.hid (show RowOK w2 (C, k, setL (l ++ L)) from ⟨Sl.of_own hown, own_cap hown⟩); clear hown hb)
    | (at_mapUpdate; refine wpList_putR _ rfl _ _ _ rfl b r rfl HRk.out HRl.out a rfl HA.out.1 HA.out.2 C k _ (setL (l ++ L)) rfl rfl HC.out ?_; intro w3 hM hg3; have HM3 := Lib.hid hM; have HG3 := Lib.hid hg3; clear hM hg3))
  go_end0
  exact ⟨rfl, by rw [← HEl.out]; exact HM3.out, gb_then HB.out HG3.out⟩

theorem elemRow : Elem Tryd.prog 102 101 (.map none) 1 8 := ⟨Tryd.underlying102, by kernel_rfl, rfl, by decide⟩
theorem MRow.emptyKept {w w' : World} {b : Nat} {row : Option Nat} (h : MRow w b []) (hg : w.grownBy w' row) (hne : some b ≠ row) : MRow w' b [] := by
  obtain ⟨m, h1, h2, h3⟩ := h
  obtain rfl : m = [] := List.map_eq_nil_iff.1 h1
  exact ⟨[], rfl, MapI.kept h2 hg hne, fun e he => by cases he⟩
theorem own_notNC {w : World} {b B size n : Nat} {e : TypeId} {v : Value} {xs : List Value} (h : w.ownsRow B e size v n xs) (hm : NC w b) : some b ≠ v.ownBlock := fun e1 => by
  obtain ⟨_, h2⟩ := h
  obtain ⟨o, h3, h4⟩ := hm
  rcases h2 with ⟨rfl, _⟩ | ⟨g', cap, cur, rfl, _, h5, _⟩
  · cases e1
  · cases e1
    rw [h3] at h5
    cases h5
    cases h4
def mps (bs : List Nat) : List Value := bs.map fun b => .map (some b)
theorem gb_set {w : World} {p : Addr} (u : Value) : w.grownBy (w.setCell p u) (some p.block) := ⟨rfl, rfl, rfl, by simp, fun k _ hk => Below.heap_setCell w p u k (fun e => hk (by rw [e]))⟩

/-- What a new odag's making holds so far. -/
def Frs (w wr : World) (v : Value) (k : Nat) : Prop :=
  ∃ bs : List Nat, bs.length = k ∧ wr.ownsRow w.heap.size 101 1 v k (mps bs) ∧ bs.Nodup ∧ (∀ b ∈ bs, w.heap.size < b ∧ MRow wr b []) ∧ Blk wr w.heap.size 104 #[v] ∧ Below w.heap.size w wr

set_option maxHeartbeats 4000000 in
theorem fresh_any (n : Nat) (w : World) (h1 : 1 ≤ n) (h8 : n ≤ 8) : Calls Tryd.prog 53 #[.int .i64 (n : Int)] w fun e w' => ∃ p, e = .returned (.tuple #[.pointer (some ⟨p, 0, none⟩), .nilIface]) ∧ OdN w.heap.size w' p (List.replicate n []) ∧ Below w.heap.size w w' := by
  have hmm := @run_makeMap Tryd.prog
  have hn1 : ¬ (n : Int) < 1 := by omega
  have hn8 : ¬ 8 < (n : Int) := by omega
  go_enter Tryd.func53, Tryd.ntmps53
  go_wp2_with fail
  go_loopw [15] (fun i wr => ∃ (k : Nat) (v : Value), k ≤ n ∧ i = .int .i64 k ∧ Hid (Frs w wr v k)) (fun i _ => n - (intOf i).toNat)
  case atStart => exact ⟨0, .slice none 0 0, Nat.zero_le _, rfl, Lib.hid ⟨[], rfl, by simpa [mps] using World.ownsRow_nil _ _ _ _, List.nodup_nil, (fun b hb => by cases hb), Blk.new _ _ _, bel_al (Below.refl _ _) _⟩⟩
  case round =>
    obtain ⟨k, v, hk, rfl, HF⟩ := hrel
    obtain ⟨bs, hbl, hown, hnd, hbs, hblk, hbel⟩ := HF.out
    have c0 := hblk.cell 0
    have f0 := hblk.frozen 0
    simp at c0
    have HO := Lib.hid hown
    have HBl := Lib.hid hblk
    have HBs := Lib.hid hbs
    have HNd := Lib.hid hnd
    have HLn := Lib.hid hbl
    have HB := Lib.hid hbel
    clear hown hblk hbs hnd hbl hbel HF
    by_cases hlt : k < n
    · have hlt' : (k : Int) < (n : Int) := by omega
      go_wp2_with (at_builtin; refine wpList_push_g elemRow _ _ rfl rfl (HO.out.alloc (.map #[] 0)) (bel_al HB.out _) (Nat.le_refl _) rfl (congrArg (fun z => Value.slice (some ⟨z, 0, none⟩) 1 1) (World.size_alloc wr (.map #[] 0)).symm) rfl (by simp [Value.oneCell']) (by unfold lim; omega) (by unfold lim; omega) ?_; intro v' w1 hown1 hb1 hg1; have hsh := Sl.own hown1; obtain ⟨R', c', rfl, _⟩ := hsh; have HO1 := Lib.hid hown1; have HB1 := Lib.hid hb1; have HG1 := Lib.hid hg1; have hk1 := (HBl.out.alloc (.map #[] 0)).others (HO.out.alloc (.map #[] 0)) hg1 (by decide); have HK1 := Lib.hid hk1; have k10 := hk1.cell 0; have f10 := hk1.frozen 0; simp at k10; clear hown1 hb1 hg1 hk1)
      go_roundw
      case rel =>
        have hne : ∀ g, (Value.slice R' (k + 1) c').ownBlock = some g → g ≠ w.heap.size := fun g hg e => own_notBlk HO1.out HK1.out (by decide) (by rw [hg, e])
        refine ⟨k + 1, .slice R' (k + 1) c', by omega, by go_num, Lib.hid ⟨bs ++ [wr.heap.size], by simp [HLn.out], ?_, ?_, fun b hb => ?_, HK1.out.set_ 0 (.slice R' (k + 1) c'), HB1.out.setCell (p := ⟨w.heap.size, 0, none⟩) (Nat.le_refl _) _⟩⟩
        · have h := own_block HO1.out (w' := w1.setCell ⟨w.heap.size, 0, none⟩ (.slice R' (k + 1) c')) fun g hg => Below.heap_setCell _ _ _ _ (hne g hg)
          unfold mps at h ⊢
          rw [List.map_append]
          exact h
        · rw [List.nodup_append]
          refine ⟨HNd.out, by simp, fun b hb g hg e => ?_⟩
          obtain rfl := List.mem_singleton.1 hg
          have := (HBs.out b hb).2.lt
          omega
        · rcases List.mem_append.1 hb with hb | hb
          · have h1 := HBs.out b hb
            refine ⟨h1.1, ((h1.2.emptyKept (gb_alloc _ _ none) (by simp)).emptyKept HG1.out (own_notNC HO.out h1.2.isMap)).emptyKept (gb_set _) (fun e => ?_)⟩
            have e' : b = w.heap.size := Option.some.inj e
            omega
          · obtain rfl := List.mem_singleton.1 hb
            have hlt2 := HBl.out.lt
            refine ⟨hlt2, ((MRow.made wr).emptyKept HG1.out (own_notNC (HO.out.alloc (.map #[] 0)) (MRow.made wr).isMap)).emptyKept (gb_set _) (fun e => ?_)⟩
            have e' : wr.heap.size = w.heap.size := Option.some.inj e
            omega
      case measure => simp [intOf]; omega
    · obtain rfl : k = n := by omega
      have hlt' : ¬ (k : Int) < (k : Int) := by omega
      go_wp2_with fail
      go_ret2
      obtain ⟨R, c, rfl, hs⟩ := Sl.own HO.out
      refine ⟨_, rfl, ⟨R, k, c, bs, ⟨HBl.out, by simp, HLn.out, (own_cap HO.out).1, hs, HNd.out, fun i b r hb hr => ?_⟩, fun b hb => Nat.le_of_lt (HBs.out b hb).1⟩, HB.out⟩
      have hr' : r = [] := by
        have := List.mem_of_getElem? hr
        exact (List.mem_replicate.1 this).2
      subst hr'
      exact (HBs.out b (List.mem_of_getElem? hb)).2
end Go.Proofs.YtmonepclhbappaaDoor
/-
  Odags plainly: a list laid in, lists laid in; what a row then holds.
-/
namespace Go.Proofs.YtmonepclhbappaaDoor
open Go.RowKit
set_option linter.unusedVariables false

def stepR (r : Rw) (a : Int) (nx : List Int) : Rw := putR r a (setL (lkR r a ++ nx))
def nxt (x : List Int) (i : Nat) : List Int := (x.drop (i + 1)).take 1
/-- A list laid in, up to place j. -/
def putTo (od : List Rw) (x : List Int) : Nat → List Rw
  | 0 => od
  | j + 1 => (putTo od x j).set j (stepR ((putTo od x j).getD j []) (x.getD j 0) (nxt x j))
def putO (od : List Rw) (x : List Int) : List Rw := putTo od x x.length
/-- The odag of lists of length n. -/
def odOf (n : Nat) (ls : List (List Int)) : List Rw := ls.foldl putO (List.replicate n [])
theorem odOf_snoc (n : Nat) (ls : List (List Int)) (x : List Int) : odOf n (ls ++ [x]) = putO (odOf n ls) x := by unfold odOf; rw [List.foldl_append]; rfl
theorem putTo_len (od : List Rw) (x : List Int) : ∀ j, (putTo od x j).length = od.length
  | 0 => rfl
  | j + 1 => by rw [putTo, List.length_set, putTo_len od x j]
theorem putO_len (od : List Rw) (x : List Int) : (putO od x).length = od.length := putTo_len od x _
theorem fold_len (ls : List (List Int)) : ∀ od : List Rw, (ls.foldl putO od).length = od.length := by
  induction ls with
  | nil => intro od; rfl
  | cons x ls ih => intro od; rw [List.foldl_cons, ih, putO_len]
theorem odOf_len (n : Nat) (ls : List (List Int)) : (odOf n ls).length = n := by unfold odOf; rw [fold_len, List.length_replicate]
theorem putTo_at (od : List Rw) (x : List Int) (i : Nat) : ∀ j, (putTo od x j)[i]? = od[i]?.map fun r => if i < j then stepR r (x.getD i 0) (nxt x i) else r
  | 0 => by simp [putTo]
  | j + 1 => by
    have ih := putTo_at od x i j
    rw [putTo, List.getElem?_set]
    by_cases hji : j = i
    · subst hji
      rw [if_pos rfl]
      have hg : (putTo od x j).getD j [] = od.getD j [] := by
        rw [List.getD_eq_getElem?_getD, List.getD_eq_getElem?_getD, ih]
        cases od[j]? with
        | none => rfl
        | some r => simp
      rw [hg, putTo_len]
      by_cases hlt : j < od.length
      · rw [if_pos hlt, List.getElem?_eq_getElem hlt, List.getD_eq_getElem?_getD, List.getElem?_eq_getElem hlt]
        simp
      · rw [if_neg hlt, List.getElem?_eq_none (by omega)]
        rfl
    · rw [if_neg hji, ih]
      cases od[i]? with
      | none => rfl
      | some r =>
        simp only [Option.map_some]
        by_cases h : i < j
        · rw [if_pos h, if_pos (by omega)]
        · rw [if_neg h, if_neg (by omega)]

/-- No row is longer than K, no links are more than K. -/
def RwB (K : Nat) (r : Rw) : Prop := r.length ≤ K ∧ ∀ q ∈ r, q.2.length ≤ K
def OdB (K : Nat) (od : List Rw) : Prop := ∀ r ∈ od, RwB K r
theorem nxt_len (x : List Int) (i : Nat) : (nxt x i).length ≤ 1 := by unfold nxt; rw [List.length_take]; omega
theorem lkR_B {K : Nat} {r : Rw} (h : RwB K r) (a : Int) : (lkR r a).length ≤ K := by
  unfold lkR
  cases hf : r.find? fun p => decide (p.1 = a) with
  | none => simp
  | some p => exact h.2 p (List.mem_of_find?_eq_some hf)
theorem RwB.mono {K K' : Nat} {r : Rw} (h : RwB K r) (hk : K ≤ K') : RwB K' r := ⟨Nat.le_trans h.1 hk, fun q hq => Nat.le_trans (h.2 q hq) hk⟩
theorem stepR_B {K : Nat} {r : Rw} (h : RwB K r) (a : Int) (nx : List Int) (hn : nx.length ≤ 1) : RwB (K + 1) (stepR r a nx) := by
  refine ⟨Nat.le_trans (putR_len _ _ _) (by have := h.1; omega), fun q hq => ?_⟩
  unfold stepR putR at hq
  rcases List.mem_append.1 hq with hq | hq
  · have := h.2 q (List.mem_filter.1 hq).1
    omega
  · rcases List.mem_cons.1 hq with rfl | hq
    · have h1 := setL_le (lkR r a ++ nx)
      rw [List.length_append] at h1
      have h2 := lkR_B h a
      show (setL (lkR r a ++ nx)).length ≤ K + 1
      omega
    · have := h.2 q (List.mem_filter.1 hq).1
      omega
theorem putTo_B {K : Nat} {od : List Rw} (h : OdB K od) (x : List Int) (j : Nat) : OdB (K + 1) (putTo od x j) := fun r hr => by
  obtain ⟨i, hi, rfl⟩ := List.mem_iff_getElem.1 hr
  have h1 := putTo_at od x i j
  rw [List.getElem?_eq_getElem hi] at h1
  obtain ⟨r0, h2, h3⟩ := Option.map_eq_some_iff.1 h1.symm
  have h4 := h r0 (List.mem_of_getElem? h2)
  rw [← h3]
  split
  · exact stepR_B h4 _ _ (nxt_len _ _)
  · exact h4.mono (by omega)
theorem odOf_B (n : Nat) (ls : List (List Int)) : OdB ls.length (odOf n ls) := by
  have key : ∀ (ls : List (List Int)) (od : List Rw) (K : Nat), OdB K od → OdB (K + ls.length) (ls.foldl putO od) := by
    intro ls
    induction ls with
    | nil => intro od K h; exact h
    | cons x ls ih =>
      intro od K h
      rw [List.foldl_cons, List.length_cons, show K + (ls.length + 1) = K + 1 + ls.length by omega]
      exact ih _ _ (putTo_B h x _)
  have := key ls (List.replicate n []) 0 (fun r hr => by
    rw [(List.mem_replicate.1 hr).2]
    exact ⟨Nat.zero_le _, fun q hq => by cases hq⟩)
  rw [Nat.zero_add] at this
  exact this
end Go.Proofs.YtmonepclhbappaaDoor
