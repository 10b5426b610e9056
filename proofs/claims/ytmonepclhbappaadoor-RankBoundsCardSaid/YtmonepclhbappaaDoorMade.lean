/-
  The laws' Made: the odag of lists that can be one.
-/
import Derived.BigQuiet
import Derived.Test.YtmonepclhbappaaDoorOdB
namespace Go.Proofs.YtmonepclhbappaaDoor
open Go.RowKit Go.Maps
set_option maxRecDepth 100000
set_option linter.unusedVariables false

set_option maxHeartbeats 4000000 in
theorem Made_any (a : Int) (its : List (Option Addr × Nat × List Int)) (Q : Option Addr) (m cq : Nat) (w : World) (hm : its.length = m) (hq : Sl w 1 Q m (its.map rv)) (hr : AllRows w its) :
    Calls Tryd.prog 26 #[.int .i64 a, .slice Q m cq] w fun e w' => (e = .returned (.tuple #[.pointer none, .bool false]) ∧ Below w.heap.size w w') ∨ ∃ (n p : Nat), a = n ∧ 1 ≤ n ∧ n ≤ 5 ∧ m ≤ 12 ∧ Good n its ∧ e = .returned (.tuple #[.pointer (some ⟨p, 0, none⟩), .bool true]) ∧ OdM w' p (odOf n (its.map (·.2.2))) ∧ Below w.heap.size w w' := by
  have HQ := Lib.hid hq
  have HR := Lib.hid hr
  have HM := Lib.hid hm
  clear hq hr hm
  by_cases h1 : a < 1
  · go_enter Tryd.func26, Tryd.ntmps26
    go_wp2_with fail
    go_ret2
    exact Or.inl ⟨rfl, Below.refl _ _⟩
  · by_cases h5 : 5 < a
    · go_enter Tryd.func26, Tryd.ntmps26
      go_wp2_with fail
      go_ret2
      exact Or.inl ⟨rfl, Below.refl _ _⟩
    · by_cases h12 : 12 < m
      · have h12' : (12 : Int) < (m : Int) := by omega
        go_enter Tryd.func26, Tryd.ntmps26
        go_wp2_with fail
        go_ret2
        exact Or.inl ⟨rfl, Below.refl _ _⟩
      · have h12' : ¬ (12 : Int) < (m : Int) := by omega
        obtain ⟨n, rfl⟩ : ∃ n : Nat, a = (n : Int) := ⟨a.toNat, by omega⟩
        go_enter Tryd.func26, Tryd.ntmps26
        go_wp2_with fail
        go_loop [6] (fun iv => ∃ k : Nat, k ≤ m ∧ iv = .int .i64 k ∧ Hid (Good n (its.take k))) (fun iv => m - (intOf iv).toNat)
        case atStart => exact ⟨0, Nat.zero_le _, rfl, Lib.hid fun t ht => by cases ht⟩
        case round =>
          obtain ⟨k, hk, rfl, HG⟩ := hrel
          by_cases hlt : k < m
          · have hlt' : (k : Int) < (m : Int) := by omega
            obtain ⟨t, ht⟩ : ∃ t, its[k]? = some t := ⟨_, List.getElem?_eq_getElem (by rw [HM.out]; exact hlt)⟩
            obtain ⟨A, c, x⟩ := t
            have HT := Lib.hid ht
            have HRow := Lib.hid (HR.out _ (List.mem_of_getElem? ht))
            obtain ⟨qb, qo, rfl, _⟩ := HQ.out.at_ (show 0 < m by omega)
            have c1 := HQ.out.again hlt (show (its.map rv)[k]? = some (.slice A x.length c) by rw [List.getElem?_map, ht]; rfl)
            clear ht
            by_cases hx : x.length = n
            · have HX := Lib.hid hx
              have hs1 := HRow.out.1
              simp only at hs1
              rw [hx] at c1 hs1
              have HS1 := Lib.hid hs1
              clear hx hs1
              go_wp2_with fail
              go_loop [7] (fun jv => ∃ j : Nat, j ≤ n ∧ jv = .int .i64 j ∧ Hid (∀ y ∈ x.take j, numOK y)) (fun jv => n - (intOf jv).toNat)
              case atStart => exact ⟨0, Nat.zero_le _, rfl, Lib.hid fun y hy => by cases hy⟩
              case round =>
                obtain ⟨j, hj, rfl, HN⟩ := hrel
                by_cases hjn : j < n
                · have hjn' : (j : Int) < (n : Int) := by omega
                  obtain ⟨y, hy⟩ : ∃ y, x[j]? = some y := ⟨_, List.getElem?_eq_getElem (by rw [HX.out]; exact hjn)⟩
                  obtain ⟨b1, off1, rfl, _⟩ := HS1.out.at_ (show 0 < n by omega)
                  have c2 := HS1.out.again hjn (show (x.map (Value.int .i64))[j]? = some (.int .i64 y) by rw [List.getElem?_map, hy]; rfl)
                  have HY := Lib.hid hy
                  clear hy
                  by_cases hy0 : y < 0
                  · go_wp2_with fail
                    go_ret2
                    exact Or.inl ⟨rfl, Below.refl _ _⟩
                  · by_cases hy1 : 2147483647 < y
                    · go_wp2_with fail
                      go_ret2
                      exact Or.inl ⟨rfl, Below.refl _ _⟩
                    · have HNy := Lib.hid (show numOK y from ⟨by omega, by omega⟩)
                      go_wp2_with fail
                      go_round
                      case rel =>
                        refine ⟨j + 1, by omega, by go_num, Lib.hid fun z hz => ?_⟩
                        obtain ⟨e1, e2⟩ := List.getElem?_eq_some_iff.1 HY.out
                        rw [List.take_succ_eq_append_getElem e1, e2] at hz
                        rcases List.mem_append.1 hz with hz | hz
                        · exact HN.out z hz
                        · rw [List.mem_singleton.1 hz]
                          exact HNy.out
                      case measure => simp [intOf]; omega
                · obtain rfl : j = n := by omega
                  have hlt2 : ¬ (j : Int) < (j : Int) := by omega
                  go_wp2_with fail
                  go_round
                  case rel =>
                    refine ⟨k + 1, by omega, by go_num, Lib.hid fun z hz => ?_⟩
                    obtain ⟨e1, e2⟩ := List.getElem?_eq_some_iff.1 HT.out
                    rw [List.take_succ_eq_append_getElem e1, e2] at hz
                    rcases List.mem_append.1 hz with hz | hz
                    · exact HG.out z hz
                    · rw [List.mem_singleton.1 hz]
                      refine ⟨HX.out, fun y hy => HN.out y ?_⟩
                      rw [List.take_of_length_le (by rw [HX.out]; exact Nat.le_refl _)]
                      exact hy
                  case measure => simp [intOf]; omega
            · have hx' : ((x.length : Int) != (n : Int)) = true := by simp; omega
              clear hx
              go_wp2_with fail
              go_ret2
              exact Or.inl ⟨rfl, Below.refl _ _⟩
          · obtain rfl : k = m := by omega
            have hlt2 : ¬ (k : Int) < (k : Int) := by omega
            have HGd := Lib.hid (show Good n its from by have := HG.out; rw [List.take_of_length_le (by rw [HM.out]; exact Nat.le_refl _)] at this; exact this)
            have HOf := Lib.hid (OfOd_any n its Q k cq w (by omega) (by omega) HM.out (by omega) HQ.out HR.out HGd.out)
            go_wp2_with (go_at_call 21; refine HOf.out.mono ?_; rintro e w1 ⟨p, rfl, ho, hb⟩; have HO1 := Lib.hid ho; have HB1 := Lib.hid hb; clear ho hb)
            go_quiet (fail)
            go_wp2_with fail
            go_ret2
            have hd := bel_drewN (Below.refl w1.heap.size w1) 1
            exact Or.inr ⟨n, p, rfl, by omega, by omega, by omega, HGd.out, rfl, HO1.out.keep (bel_drewN (Below.refl _ _) _), HB1.out.andThen (bel_drewN (Below.refl _ _) _)⟩
end Go.Proofs.YtmonepclhbappaaDoor
