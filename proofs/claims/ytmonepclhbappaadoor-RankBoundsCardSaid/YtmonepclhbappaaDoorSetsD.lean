/-
  sets.Right; the document's Compare.
-/
import Derived.Test.YtmonepclhbappaaDoorSetsC
namespace Go.Proofs.YtmonepclhbappaaDoor
open Go.RowKit
set_option maxRecDepth 100000
set_option linter.unusedVariables false

abbrev Inc (l : List Int) : Prop := l.Pairwise (· < ·)
theorem inc_take {l : List Int} {k : Nat} {x y : Int} (hx : l[k]? = some x) (hy : l[k + 1]? = some y) : Inc (l.take (k + 2)) ↔ Inc (l.take (k + 1)) ∧ x < y := by
  obtain ⟨h1, h2⟩ := List.getElem?_eq_some_iff.1 hx
  obtain ⟨h3, h4⟩ := List.getElem?_eq_some_iff.1 hy
  rw [List.take_succ_eq_append_getElem h3, h4]
  unfold Inc
  rw [List.pairwise_append]
  constructor
  · rintro ⟨ha, _, hb⟩
    refine ⟨ha, hb x ?_ y (by simp)⟩
    rw [List.take_succ_eq_append_getElem h1, h2]; simp
  · rintro ⟨ha, hb⟩
    refine ⟨ha, List.pairwise_singleton _ _, fun a ha' b hb' => ?_⟩
    obtain rfl : b = y := by simpa using hb'
    rw [List.take_succ_eq_append_getElem h1, h2] at ha ha'
    rcases List.mem_append.1 ha' with h | h
    · have := (List.pairwise_append.1 ha).2.2 a h x (by simp)
      omega
    · obtain rfl : a = x := by simpa using h
      exact hb
theorem inc_one (l : List Int) : Inc (l.take 1) := by cases l <;> simp [Inc]
theorem inc_prefix {l : List Int} {k : Nat} (h : Inc l) : Inc (l.take k) := h.sublist (List.take_sublist _ _)

set_option maxHeartbeats 2000000 in
theorem RefCompare_any (a b : List Int) (A B : Option Addr) (n m c d : Nat) (w : World) (hl : a.length = n) (hm : b.length = m) (hs : Sl w 1 A n (a.map (Value.int .i64))) (ht : Sl w 1 B m (b.map (Value.int .i64))) (hn : n ≤ 9223372036854775806) :
    Calls Tryd.prog 27 #[.slice A n c, .slice B m d] w fun e w' => e = .returned (.int .i64 (cmpL a b)) ∧ Below w.heap.size w w' := by
  have HS := Lib.hid hs
  have HT := Lib.hid ht
  have HL := Lib.hid hl
  have HM := Lib.hid hm
  clear hs ht hl hm
  go_enter Tryd.func27, Tryd.ntmps27
  go_wp2_with fail
  go_loopw [5] (fun i wr => ∃ k : Nat, k ≤ n ∧ k ≤ m ∧ i = .int .i64 k ∧ cmpL (a.drop k) (b.drop k) = cmpL a b ∧ Below w.heap.size w wr) (fun i _ => n - (intOf i).toNat)
  case atStart => exact ⟨0, Nat.zero_le _, Nat.zero_le _, rfl, rfl, Below.refl _ _⟩
  case round =>
    obtain ⟨k, hk, hkm, rfl, hd, hb⟩ := hrel
    have HD := Lib.hid hd
    have HB := Lib.hid hb
    clear hd hb
    by_cases hlt : k < n
    · have hlt' : (k : Int) < (n : Int) := by omega
      obtain ⟨x, hx⟩ : ∃ x, a[k]? = some x := ⟨_, List.getElem?_eq_getElem (by rw [HL.out]; exact hlt)⟩
      obtain ⟨b1, off1, rfl, _⟩ := HS.out.at_ (show 0 < n by omega)
      have c1 := (HS.out.keep HB.out).again hlt (show (a.map (Value.int .i64))[k]? = some (.int .i64 x) by rw [List.getElem?_map, hx]; rfl)
      by_cases hlm : k < m
      · have hlm' : (k : Int) < (m : Int) := by omega
        obtain ⟨y, hy⟩ : ∃ y, b[k]? = some y := ⟨_, List.getElem?_eq_getElem (by rw [HM.out]; exact hlm)⟩
        obtain ⟨b2, off2, rfl, _⟩ := HT.out.at_ (show 0 < m by omega)
        have c2 := (HT.out.keep HB.out).again hlm (show (b.map (Value.int .i64))[k]? = some (.int .i64 y) by rw [List.getElem?_map, hy]; rfl)
        have HE := Lib.hid (HD.out.symm.trans (cmpL_drop hx hy))
        clear hx hy
        have h0k : (0 : Int) ≤ (k : Int) := by omega
        have hwi : IntKind.i64.wrap ((k : Int) + 1) = ((k + 1 : Nat) : Int) := by rw [IntKind.wrap_i64]; omega
        by_cases hxy : x < y
        · rw [if_pos hxy] at HE
          go_wp2_with fail
          go_quiet (fail)
          go_wp2_with fail
          go_ret
          exact ⟨ret_int HE.out.symm, bel_drewN HB.out _⟩
        · rw [if_neg hxy] at HE
          by_cases hyx : y < x
          · rw [if_pos hyx] at HE
            go_wp2_with fail
            go_quiet (fail)
            obtain ⟨w1, hw1⟩ : ∃ w1, w1 = wr.drewN nq := ⟨_, rfl⟩
            rw [← hw1]
            have HW1 := Lib.hid (show Below w.heap.size w w1 from by rw [hw1]; exact bel_drewN HB.out _)
            have c1' : w1.cell? ⟨b1, off1 + k, none⟩ = some (.int .i64 x) := by rw [hw1]; exact c1
            have c2' : w1.cell? ⟨b2, off2 + k, none⟩ = some (.int .i64 y) := by rw [hw1]; exact c2
            clear hw1
            go_wp2_with fail
            go_quiet (fail)
            go_wp2_with fail
            go_ret
            exact ⟨ret_int HE.out.symm, bel_drewN HW1.out _⟩
          · rw [if_neg hyx] at HE
            go_wp2_with fail
            go_quiet (fail)
            obtain ⟨w1, hw1⟩ : ∃ w1, w1 = wr.drewN nq := ⟨_, rfl⟩
            rw [← hw1]
            have HW1 := Lib.hid (show Below w.heap.size w w1 from by rw [hw1]; exact bel_drewN HB.out _)
            have c1' : w1.cell? ⟨b1, off1 + k, none⟩ = some (.int .i64 x) := by rw [hw1]; exact c1
            have c2' : w1.cell? ⟨b2, off2 + k, none⟩ = some (.int .i64 y) := by rw [hw1]; exact c2
            clear hw1
            go_wp2_with fail
            go_quiet (fail)
            go_wp2_with fail
            go_roundw
            case rel => exact ⟨k + 1, by omega, by omega, by go_num, HE.out.symm, bel_drewN HW1.out _⟩
            case measure => simp [intOf]; omega
      · obtain rfl : k = m := by omega
        have hlm2 : ¬ (k : Int) < (k : Int) := by omega
        have hnk : ¬ (n : Int) < (k : Int) := by omega
        have HE := Lib.hid (show 1 = cmpL a b by
          rw [← HD.out]
          obtain ⟨h1, h2⟩ := List.getElem?_eq_some_iff.1 hx
          rw [List.drop_eq_getElem_cons h1, List.drop_of_length_le (l := b) (by rw [HM.out]; exact Nat.le_refl _)]; rfl)
        clear hx
        go_wp2_with fail
        go_ret
        exact ⟨ret_int HE.out, HB.out⟩
    · obtain rfl : k = n := by omega
      have hlt' : ¬ (k : Int) < (k : Int) := by omega
      by_cases hkm' : k < m
      · have hkm2 : (k : Int) < (m : Int) := by omega
        have HE := Lib.hid (show -1 = cmpL a b by
          rw [← HD.out, List.drop_of_length_le (l := a) (by rw [HL.out]; exact Nat.le_refl _), List.drop_eq_getElem_cons (l := b) (by rw [HM.out]; exact hkm')]; rfl)
        go_wp2_with fail
        go_ret
        exact ⟨ret_int HE.out, HB.out⟩
      · obtain rfl : k = m := by omega
        have HE := Lib.hid (show 0 = cmpL a b by
          rw [← HD.out, List.drop_of_length_le (l := a) (by rw [HL.out]; exact Nat.le_refl _), List.drop_of_length_le (l := b) (by rw [HM.out]; exact Nat.le_refl _)]; rfl)
        go_wp2_with fail
        go_ret
        exact ⟨ret_int HE.out, HB.out⟩
end Go.Proofs.YtmonepclhbappaaDoor
