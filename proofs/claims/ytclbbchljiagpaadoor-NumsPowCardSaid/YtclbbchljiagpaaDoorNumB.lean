/-
  The document's numbers: at, less, trim, Of.
-/
import Derived.Test.YtclbbchljiagpaaDoorNumA
import Derived.Test.YtclbbchljiagpaaDoorPermB
import Derived.Test.YtclbbchljiagpaaDoorWords3
import Derived.BigQuiet
namespace Go.Proofs.YtclbbchljiagpaaDoor
open Go.RowKit
set_option maxRecDepth 100000
set_option linter.unusedVariables false

/-- Digits as cells. -/
def cD (l : List Nat) : List Value := l.map fun (d : Nat) => Value.int .i64 (d : Int)
theorem cD_len (l : List Nat) : (cD l).length = l.length := List.length_map _
theorem cD_get {l : List Nat} {i d : Nat} (h : l[i]? = some d) : (cD l)[i]? = some (.int .i64 (d : Int)) := by rw [cD, List.getElem?_map, h]; rfl
theorem cD_append (a b : List Nat) : cD (a ++ b) = cD a ++ cD b := List.map_append
theorem cD_take (l : List Nat) (k : Nat) : cD (l.take k) = (cD l).take k := List.map_take
theorem one_cD (l : List Nat) : ∀ u ∈ cD l, u.oneCell' = true := by
  intro u hu
  obtain ⟨x, _, rfl⟩ := List.mem_map.1 hu
  rfl
theorem Sl.dig {w : World} {A : Option Addr} {n i : Nat} {l : List Nat} (h : Sl w 1 A n (cD l)) (hl : l.length = n) (hi : i < n) : ∃ b off, A = some ⟨b, off, none⟩ ∧ w.cell? ⟨b, off + i, none⟩ = some (.int .i64 (l[i]'(by omega) : Nat)) := by
  obtain ⟨b, off, u, hA, h1, h2⟩ := h.one hi
  rw [cD_get (List.getElem?_eq_getElem (by omega))] at h1
  cases h1
  exact ⟨b, off, hA, h2⟩
theorem atD_get {l : List Nat} {i : Nat} (h : i < l.length) : atD l i = l[i] := by
  unfold atD; rw [List.getD_eq_getElem?_getD, List.getElem?_eq_getElem h]; rfl
theorem atD_out {l : List Nat} {i : Nat} (h : ¬ i < l.length) : atD l i = 0 := by
  unfold atD; rw [List.getD_eq_getElem?_getD, List.getElem?_eq_none (by omega)]; rfl

theorem at_any (l : List Nat) (A : Option Addr) (n c i : Nat) (w : World) (hl : l.length = n) (hn : n ≤ 1099511627776) (hi : i ≤ 1099511627776) (hs : Sl w 1 A n (cD l)) :
    Calls Tryd.prog 79 #[.slice A n c, .int .i64 (i : Int)] w fun e w' => e = .returned (.int .i64 (atD l i : Nat)) ∧ ∃ q, w' = w.drewN q := by
  by_cases h : i < n
  · obtain ⟨b, off, rfl, hc⟩ := hs.dig hl h
    rw [atD_get (by omega)]
    generalize l[i]'(by omega) = d at *
    clear hs
    go_enter Tryd.func79, Tryd.ntmps79
    go_wp2_with fail
    go_ret
    exact ⟨rfl, 0, rfl⟩
  · rw [atD_out (by omega)]
    clear hs
    go_enter Tryd.func79, Tryd.ntmps79
    go_wp2_with fail
    go_ret
    exact ⟨rfl, 0, rfl⟩

theorem cellK0 {w w' : World} (h : Below w.heap.size w w') {p : Addr} {v : Value} (hp : w.cell? p = some v) : w'.cell? p = some v := (h.cell (World.block_lt_of_cell? w _ hp)).trans hp
theorem drop_one {l : List Nat} {k : Nat} (h : k < l.length) : l.drop k = l[k] :: l.drop (k + 1) := List.drop_eq_getElem_cons h

set_option maxHeartbeats 2000000 in
theorem less_any (la lb : List Nat) (A : Option Addr) (n c : Nat) (B : Option Addr) (m d : Nat) (w : World) (ha : Nrm la) (hb : Nrm lb) (hla : la.length = n) (hlb : lb.length = m) (hn : n ≤ 1099511627776) (hm : m ≤ 1099511627776)
    (hsa : Sl w 1 A n (cD la)) (hsb : Sl w 1 B m (cD lb)) :
    Calls Tryd.prog 78 #[.slice A n c, .slice B m d] w fun e w' => e = .returned (.bool (decide (valD la < valD lb))) ∧ ∃ q, w' = w.drewN q := by
  have HA := Lib.hid ha
  have HB := Lib.hid hb
  have HSA := Lib.hid hsa
  have HSB := Lib.hid hsb
  clear ha hb hsa hsb
  by_cases hne : n = m
  · subst hne
    go_enter Tryd.func78, Tryd.ntmps78
    go_wp2_with fail
    go_loopw [5] (fun iv wr => ∃ k : Nat, k ≤ n ∧ iv = .int .i64 ((k : Int) - 1) ∧ la.drop k = lb.drop k ∧ ∃ q, wr = w.drewN q) (fun iv _ => (intOf iv + 1).toNat)
    case atStart => exact ⟨n, Nat.le_refl _, rfl, by rw [List.drop_of_length_le (by omega), List.drop_of_length_le (by omega)], 0, rfl⟩
    case round =>
      obtain ⟨k, hk, rfl, hd, q, hw⟩ := hrel
      have HD := Lib.hid hd
      have HSA' := Lib.hid (HSA.out.keep (drew_bel ⟨q, hw⟩))
      have HSB' := Lib.hid (HSB.out.keep (drew_bel ⟨q, hw⟩))
      have HW := Lib.hid hw
      clear hd hw
      by_cases h0 : k = 0
      · subst h0
        have hval : decide (valD la < valD lb) = false := by
          have := HD.out
          rw [List.drop_zero, List.drop_zero] at this
          rw [this]; exact decide_eq_false (Nat.lt_irrefl _)
        have HV := Lib.hid hval
        clear hval
        go_wp2_with fail
        go_ret
        exact ⟨ret_bool HV.out.symm, q, HW.out⟩
      · obtain ⟨j, rfl⟩ : ∃ j, k = j + 1 := ⟨k - 1, by omega⟩
        have hjj : ((j + 1 : Nat) : Int) - 1 = (j : Int) := by omega
        rw [hjj]
        obtain ⟨ba, oa, rfl, ca⟩ := HSA'.out.dig hla (i := j) (by omega)
        obtain ⟨bb, ob, rfl, cb⟩ := HSB'.out.dig hlb (i := j) (by omega)
        have hja : j < la.length := by omega
        have hjb : j < lb.length := by omega
        have Hlt := Lib.hid (fun h : la[j] < lb[j] => top_lt HA.out.dig HD.out hja hjb h)
        have Hgt := Lib.hid (fun h : lb[j] < la[j] => top_lt HB.out.dig HD.out.symm hjb hja h)
        have Heq := Lib.hid (fun h : la[j] = lb[j] => (show la.drop j = lb.drop j by rw [drop_one hja, drop_one hjb, h, HD.out]))
        generalize la[j] = x at *
        generalize lb[j] = y at *
        clear HD
        have h0j : (0 : Int) ≤ (j : Int) := by omega
        have hjn : (j : Int) < (n : Int) := by omega
        go_wp2_with fail
        go_quiet (fail)
        obtain ⟨w1, hw1⟩ : ∃ w1, w1 = wr.drewN nq := ⟨_, rfl⟩
        rw [← hw1]
        have HW1 := Lib.hid hw1
        have ca1 := cellK0 (drew_bel ⟨nq, hw1⟩) ca
        have cb1 := cellK0 (drew_bel ⟨nq, hw1⟩) cb
        clear hw1 ca cb
        rcases Nat.lt_trichotomy x y with hxy | hxy | hxy
        · have hdd : decide (valD la < valD lb) = true := decide_eq_true (Hlt.out hxy)
          have HV := Lib.hid hdd
          clear hdd
          have hne1 : ((x : Int) == (y : Int)) = false := by simp; omega
          have hlt1 : (x : Int) < (y : Int) := by omega
          go_wp2_with fail
          go_quiet (fail)
          go_wp2_with fail
          go_ret
          exact ⟨ret_bool (by first | exact HV.out.symm | (rw [HV.out]; exact decide_eq_true (by omega)) | (rw [HV.out]; exact decide_eq_false (by omega))), _, by rw [HW1.out, HW.out]; exact (congrArg (World.drewN · _) (World.drewN_drewN _ _ _)).trans (World.drewN_drewN _ _ _)⟩
        · subst hxy
          have hee : ((x : Int) == (x : Int)) = true := by simp
          go_wp2_with fail
          go_roundw
          case rel => exact ⟨j, by omega, rfl, Heq.out rfl, _, by rw [HW1.out, HW.out]; exact World.drewN_drewN _ _ _⟩
          case measure => first | (simp [intOf]; done) | (simp [intOf]; omega)
        · have hdd : decide (valD la < valD lb) = false := decide_eq_false (by have := Hgt.out hxy; omega)
          have HV := Lib.hid hdd
          clear hdd
          have hne1 : ((x : Int) == (y : Int)) = false := by simp; omega
          have hlt1 : ¬ (x : Int) < (y : Int) := by omega
          go_wp2_with fail
          go_quiet (fail)
          go_wp2_with fail
          go_ret
          exact ⟨ret_bool (by first | exact HV.out.symm | (rw [HV.out]; exact decide_eq_true (by omega)) | (rw [HV.out]; exact decide_eq_false (by omega))), _, by rw [HW1.out, HW.out]; exact (congrArg (World.drewN · _) (World.drewN_drewN _ _ _)).trans (World.drewN_drewN _ _ _)⟩
  · have hval : decide (valD la < valD lb) = decide (n < m) := by
      rcases Nat.lt_or_gt_of_ne hne with h | h
      · rw [decide_eq_true (len_lt HA.out.dig HB.out (by omega)), decide_eq_true (by omega)]
      · have := len_lt HB.out.dig HA.out (by omega)
        rw [decide_eq_false (by omega), decide_eq_false (by omega)]
    rw [hval]
    have hne1 : ((n : Int) == (m : Int)) = false := by simp; omega
    clear hval
    go_enter Tryd.func78, Tryd.ntmps78
    go_wp2_with fail
    all_goals (go_ret; exact ⟨rfl, 0, rfl⟩)
end Go.Proofs.YtclbbchljiagpaaDoor
