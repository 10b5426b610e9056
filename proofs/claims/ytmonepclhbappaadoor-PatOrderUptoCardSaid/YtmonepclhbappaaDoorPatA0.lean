/-
  Patterns: walks of turned, within, cmp.Or, order, Degree, far.
-/
import Derived.Deep.RegionHeld3
import Derived.Deep.DrawnRows
import Derived.Test.YtmonepclhbappaaDoorCmpS
import Derived.Test.YtmonepclhbappaaDoorPatP
import Derived.Test.YtmonepclhbappaaDoorRankP
import Derived.Test.YtmonepclhbappaaDoorErr
namespace Go.Proofs.YtmonepclhbappaaDoor
open Go.RowKit
attribute [local go_sem ↓] Go.wp_at_zero Go.wp_at_succ
set_option maxRecDepth 100000
set_option linter.unusedVariables false

theorem elemEdge : Elem Tryd.prog 27 84 (.agg #[.int .i64 0, .int .i64 0]) 2 16 := ⟨Tryd.underlying27, by kernel_rfl, rfl, by decide⟩
/-- An edge as a value. -/
def ev (e : Int × Int) : Value := .agg #[.int .i64 e.1, .int .i64 e.2]
def turnE (e : Int × Int) : Int × Int := if e.1 ≤ e.2 then e else (e.2, e.1)

theorem turned_any (a b : Int) (w : World) : Calls Tryd.prog 78 #[.agg #[.int .i64 a, .int .i64 b]] w fun e w' => e = .returned (ev (turnE (a, b))) ∧ Below w.heap.size w w' := by
  rcases Int.lt_trichotomy a b with h | h | h
  · have h1 : ¬ b < a := by omega
    have h2 : ¬ b ≤ a := by omega
    have h3 : a ≤ b := by omega
    have HT := Lib.hid (show turnE (a, b) = (a, b) by unfold turnE; rw [if_pos (by simp only; omega)])
    have HB := Lib.hid (bel_al (bel_al (Below.refl w.heap.size w) (.cells #[.int .i64 a, .int .i64 b] 84)) (.cells #[.int .i64 a, .int .i64 b] 84))
    go_enter Tryd.func78, Tryd.ntmps78
    go_wp2_with fail
    refine bodyPost_ret (v := .agg #[.int .i64 a, .int .i64 b]) (by simp [results, Tryd.results78, go_sem]) rfl ?_
    exact ⟨by rw [HT.out]; rfl, HB.out⟩
  · subst h
    have h1 : ¬ a < a := by omega
    have h2 : a ≤ a := by omega
    have HT := Lib.hid (show turnE (a, a) = (a, a) by unfold turnE; rw [if_pos (by simp only; omega)])
    have HB := Lib.hid (bel_al (bel_al (Below.refl w.heap.size w) (.cells #[.int .i64 a, .int .i64 a] 84)) (.cells #[.int .i64 a, .int .i64 a] 84))
    go_enter Tryd.func78, Tryd.ntmps78
    go_wp2_with fail
    refine bodyPost_ret (v := .agg #[.int .i64 a, .int .i64 a]) (by simp [results, Tryd.results78, go_sem]) rfl ?_
    exact ⟨by rw [HT.out]; rfl, HB.out⟩
  · have h1 : ¬ a < b := by omega
    have h2 : ¬ a ≤ b := by omega
    have h3 : b ≤ a := by omega
    have HT := Lib.hid (show turnE (a, b) = (b, a) by unfold turnE; rw [if_neg (by simp only; omega)])
    have HB := Lib.hid (bel_al (bel_al (Below.refl w.heap.size w) (.cells #[.int .i64 a, .int .i64 b] 84)) (.cells #[.int .i64 b, .int .i64 a] 84))
    go_enter Tryd.func78, Tryd.ntmps78
    go_wp2_with fail
    refine bodyPost_ret (v := .agg #[.int .i64 b, .int .i64 a]) (by simp [results, Tryd.results78, go_sem]) rfl ?_
    exact ⟨by rw [HT.out]; rfl, HB.out⟩

theorem within_any (a b : Int) (n : Nat) (w : World) : Calls Tryd.prog 43 #[.agg #[.int .i64 a, .int .i64 b], .int .i64 (n : Int)] w fun e w' => e = .returned (.bool (decide (0 ≤ a ∧ 0 ≤ b ∧ a < (n : Int) ∧ b < (n : Int)))) ∧ Below w.heap.size w w' := by
  rcases Int.lt_trichotomy a b with h | h | h
  · have h1 : ¬ b < a := by omega
    have h2 : ¬ b ≤ a := by omega
    have h3 : a ≤ b := by omega
    have HB := Lib.hid (bel_al (Below.refl w.heap.size w) (.cells #[.int .i64 a, .int .i64 b] 84))
    by_cases h0 : 0 ≤ a
    · have HD := Lib.hid (show decide (b < (n : Int)) = decide (0 ≤ a ∧ 0 ≤ b ∧ a < (n : Int) ∧ b < (n : Int)) by apply decide_eq_decide.2; omega)
      rw [← HD.out]
      go_enter Tryd.func43, Tryd.ntmps43
      go_wp2_with fail
      go_ret
      exact ⟨rfl, HB.out⟩
    · rw [show decide (0 ≤ a ∧ 0 ≤ b ∧ a < (n : Int) ∧ b < (n : Int)) = false by apply decide_eq_false; omega]
      go_enter Tryd.func43, Tryd.ntmps43
      go_wp2_with fail
      go_ret
      exact ⟨rfl, HB.out⟩
  · subst h
    have h1 : ¬ a < a := by omega
    have h2 : a ≤ a := by omega
    have HB := Lib.hid (bel_al (Below.refl w.heap.size w) (.cells #[.int .i64 a, .int .i64 a] 84))
    by_cases h0 : 0 ≤ a
    · have HD := Lib.hid (show decide (a < (n : Int)) = decide (0 ≤ a ∧ 0 ≤ a ∧ a < (n : Int) ∧ a < (n : Int)) by apply decide_eq_decide.2; omega)
      rw [← HD.out]
      go_enter Tryd.func43, Tryd.ntmps43
      go_wp2_with fail
      go_ret
      exact ⟨rfl, HB.out⟩
    · rw [show decide (0 ≤ a ∧ 0 ≤ a ∧ a < (n : Int) ∧ a < (n : Int)) = false by apply decide_eq_false; omega]
      go_enter Tryd.func43, Tryd.ntmps43
      go_wp2_with fail
      go_ret
      exact ⟨rfl, HB.out⟩
  · have h1 : ¬ a < b := by omega
    have h2 : ¬ a ≤ b := by omega
    have h3 : b ≤ a := by omega
    have HB := Lib.hid (bel_al (Below.refl w.heap.size w) (.cells #[.int .i64 a, .int .i64 b] 84))
    by_cases h0 : 0 ≤ b
    · have HD := Lib.hid (show decide (a < (n : Int)) = decide (0 ≤ a ∧ 0 ≤ b ∧ a < (n : Int) ∧ b < (n : Int)) by apply decide_eq_decide.2; omega)
      rw [← HD.out]
      go_enter Tryd.func43, Tryd.ntmps43
      go_wp2_with fail
      go_ret
      exact ⟨rfl, HB.out⟩
    · rw [show decide (0 ≤ a ∧ 0 ≤ b ∧ a < (n : Int) ∧ b < (n : Int)) = false by apply decide_eq_false; omega]
      go_enter Tryd.func43, Tryd.ntmps43
      go_wp2_with fail
      go_ret
      exact ⟨rfl, HB.out⟩

def orL : List Int → Int
  | [] => 0
  | x :: l => if x = 0 then orL l else x
set_option maxHeartbeats 2000000 in
theorem Or_any (l : List Int) (A : Option Addr) (n c : Nat) (w : World) (hl : l.length = n) (hn : n ≤ 100) (hs : Sl w 1 A n (l.map (Value.int .i64))) :
    Calls Tryd.prog 46 #[.slice A n c] w fun e w' => e = .returned (.int .i64 (orL l)) ∧ w = w' := by
  have HL := Lib.hid hl
  have HS := Lib.hid hs
  clear hl hs
  go_enter Tryd.func46, Tryd.ntmps46
  go_wp2_with fail
  go_loop [8] (fun i => ∃ k : Nat, k ≤ n ∧ i = .int .i64 k ∧ orL (l.drop k) = orL l) (fun i => n - (intOf i).toNat)
  case atStart => exact ⟨0, Nat.zero_le _, rfl, rfl⟩
  case round =>
    obtain ⟨k, hk, rfl, hd⟩ := hrel
    have HD := Lib.hid hd
    clear hd
    by_cases hlt : k < n
    · have hlt' : (k : Int) < (n : Int) := by omega
      obtain ⟨x, hx⟩ : ∃ x, l[k]? = some x := ⟨_, List.getElem?_eq_getElem (by rw [HL.out]; exact hlt)⟩
      obtain ⟨b1, off1, rfl, _⟩ := HS.out.at_ (show 0 < n by omega)
      have c1 := HS.out.again hlt (show (l.map (Value.int .i64))[k]? = some (.int .i64 x) by rw [List.getElem?_map, hx]; rfl)
      have hdr : l.drop k = x :: l.drop (k + 1) := by
        obtain ⟨h1, h2⟩ := List.getElem?_eq_some_iff.1 hx
        rw [List.drop_eq_getElem_cons h1, h2]
      by_cases hx0 : x = 0
      · have HE := Lib.hid (show orL (l.drop (k + 1)) = orL l by rw [← HD.out, hdr, orL, if_pos hx0])
        clear hx hdr
        subst hx0
        go_wp2_with fail
        go_round
        case rel => exact ⟨k + 1, by omega, by go_num, HE.out⟩
        case measure => simp [intOf]; omega
      · have HE := Lib.hid (show x = orL l by rw [← HD.out, hdr, orL, if_neg hx0])
        clear hx hdr
        have hxx : (x != 0) = true := by simpa using hx0
        go_wp2_with fail
        go_ret
        exact ⟨ret_int HE.out, rfl⟩
    · obtain rfl : k = n := by omega
      have hlt' : ¬ (k : Int) < (k : Int) := by omega
      have HE := Lib.hid (show 0 = orL l by rw [← HD.out, List.drop_of_length_le (by rw [HL.out]; exact Nat.le_refl _), orL])
      go_wp2_with fail
      go_ret
      exact ⟨ret_int HE.out, rfl⟩
end Go.Proofs.YtmonepclhbappaaDoor
