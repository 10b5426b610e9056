/-
  Patterns: walks of Degree, far, labels, Right.
-/
import Derived.Test.YtmonepclhbappaaDoorPatB
namespace Go.Proofs.YtmonepclhbappaaDoor
open Go.RowKit
attribute [local go_sem ↓] Go.wp_at_zero Go.wp_at_succ
set_option maxRecDepth 100000
set_option linter.unusedVariables false

theorem deg_take {E : List (Int × Int)} {k : Nat} {e : Int × Int} (v : Int) (he : E[k]? = some e) : Pt.deg (E.take (k + 1)) v = Pt.deg (E.take k) v + (if e.1 = v ∨ e.2 = v then 1 else 0) := by
  obtain ⟨h1, h2⟩ := List.getElem?_eq_some_iff.1 he
  unfold Pt.deg
  rw [List.take_succ_eq_append_getElem h1, h2, List.filter_append, List.length_append]
  by_cases h : e.1 = v ∨ e.2 = v
  · rw [if_pos h]
    rcases h with h | h <;> simp [h]
  · rw [if_neg h]
    have h3 : ¬ e.1 = v := fun x => h (.inl x)
    have h4 : ¬ e.2 = v := fun x => h (.inr x)
    simp [h3, h4]
theorem deg_le (E : List (Int × Int)) (v : Int) : Pt.deg E v ≤ E.length := by
  unfold Pt.deg
  exact List.length_filter_le _ _

set_option maxHeartbeats 4000000 in
theorem Degree_any (E : List (Int × Int)) (A B : Option Addr) (n c m d : Nat) (v : Int) (w : World) (hm : m ≤ 1000000) (ht : Sl w 2 B m (Rk.cells E)) :
    Calls Tryd.prog 19 #[pv A n c B m d, .int .i64 v] w fun e w' => e = .returned (.int .i64 (Pt.deg E v : Nat)) ∧ Below w.heap.size w w' := by
  have HT := Lib.hid ht
  have HM := Lib.hid ht.len2
  clear ht
  go_enter Tryd.func19, Tryd.ntmps19
  go_wp2_with fail
  go_loopw [5, 11] (fun z i wr => ∃ k : Nat, k ≤ m ∧ i = .int .i64 k ∧ z = .int .i64 (Pt.deg (E.take k) v : Nat) ∧ Below w.heap.size w wr) (fun _ i _ => m - (intOf i).toNat)
  case atStart => exact ⟨0, Nat.zero_le _, rfl, rfl, bel_al (Below.refl _ _) _⟩
  case round =>
    obtain ⟨k, hk, rfl, rfl, hb⟩ := hrel
    have HB := Lib.hid hb
    have HTk := Lib.hid (HT.out.keep hb)
    clear hb
    have hle := deg_le (E.take k) v
    rw [List.length_take] at hle
    obtain ⟨g, hg⟩ : ∃ g, g = Pt.deg (E.take k) v := ⟨_, rfl⟩
    rw [← hg] at hle ⊢
    have HG := Lib.hid hg
    clear hg
    have hg9 : g ≤ 1000000 := by omega
    clear hle
    by_cases hlt : k < m
    · have hlt' : (k : Int) < (m : Int) := by omega
      obtain ⟨e, he⟩ : ∃ e, E[k]? = some e := ⟨_, List.getElem?_eq_getElem (by rw [HM.out]; exact hlt)⟩
      obtain ⟨b1, off1, rfl, c0, c1⟩ := HTk.out.edge hlt he
      have HE := Lib.hid (deg_take v he)
      rw [← HG.out] at HE
      clear he
      obtain ⟨e1, e2⟩ := e
      have HB2 := Lib.hid (bel_al HB.out (.cells #[.int .i64 e1, .int .i64 e2] 84))
      simp only at HE c0 c1
      have hwg : IntKind.i64.wrap ((g : Int) + 1) = (g : Int) + 1 := by rw [IntKind.wrap_i64]; omega
      by_cases h1 : e1 = v
      · subst h1
        rw [if_pos (.inl rfl)] at HE
        go_wp2_with fail
        go_roundw
        case rel => exact ⟨k + 1, by omega, by go_num, by rw [HE.out]; rfl, HB2.out⟩
        case measure => simp [intOf]; omega
      · by_cases h2 : e2 = v
        · subst h2
          rw [if_pos (.inr rfl)] at HE
          go_wp2_with fail
          go_roundw
          case rel => exact ⟨k + 1, by omega, by go_num, by rw [HE.out]; rfl, HB2.out⟩
          case measure => simp [intOf]; omega
        · rw [if_neg (fun h => h.elim h1 h2)] at HE
          have h1' : (e1 == v) = false := by simpa using h1
          have h2' : (e2 == v) = false := by simpa using h2
          go_wp2_with fail
          go_roundw
          case rel => exact ⟨k + 1, by omega, by go_num, by rw [HE.out]; rfl, HB2.out⟩
          case measure => simp [intOf]; omega
    · obtain rfl : k = m := by omega
      have hlt' : ¬ (k : Int) < (k : Int) := by omega
      have HE := Lib.hid (show (g : Int) = (Pt.deg E v : Nat) by rw [HG.out, List.take_of_length_le (by rw [HM.out]; exact Nat.le_refl _)])
      go_wp2_with fail
      go_ret
      exact ⟨ret_int HE.out, HB.out⟩

theorem far_any (A B : Option Addr) (n c m d : Nat) (w : World) :
    Calls Tryd.prog 14 #[pv A n c B m d] w fun e w' => e = .returned (.bool (decide (20 < n) || decide (60 < m))) ∧ Below w.heap.size w w' := by
  have HB := Lib.hid (bel_al (Below.refl w.heap.size w) (.cells #[.slice A n c, .slice B m d] 25))
  by_cases h : 20 < n
  · have h' : (20 : Int) < (n : Int) := by omega
    have HE := Lib.hid (show true = (decide (20 < n) || decide (60 < m)) by rw [decide_eq_true h]; rfl)
    rw [← HE.out]
    go_enter Tryd.func14, Tryd.ntmps14
    go_wp2_with fail
    go_ret
    exact ⟨rfl, HB.out⟩
  · have h' : ¬ (20 : Int) < (n : Int) := by omega
    by_cases h2 : 60 < m
    · have h2' : (60 : Int) < (m : Int) := by omega
      have HE := Lib.hid (show true = (decide (20 < n) || decide (60 < m)) by rw [decide_eq_true h2, Bool.or_true])
      rw [← HE.out]
      go_enter Tryd.func14, Tryd.ntmps14
      go_wp2_with fail
      go_ret
      exact ⟨rfl, HB.out⟩
    · have h2' : ¬ (60 : Int) < (m : Int) := by omega
      have HE := Lib.hid (show false = (decide (20 < n) || decide (60 < m)) by rw [decide_eq_false h, decide_eq_false h2]; rfl)
      rw [← HE.out]
      go_enter Tryd.func14, Tryd.ntmps14
      go_wp2_with fail
      go_ret
      exact ⟨rfl, HB.out⟩

/-- Labels that may be. -/
def labOK (L : List Int) : Prop := L.length ≤ 8 ∧ ∀ x ∈ L, 0 ≤ x ∧ x ≤ 255
def labC (L : List Int) : Int := if 8 < L.length then 6 else 3
set_option maxHeartbeats 4000000 in
theorem labels_any (L : List Int) (A : Option Addr) (n c : Nat) (w : World) (hl : L.length = n) (hs : Sl w 1 A n (L.map (Value.int .i64))) :
    Calls Tryd.prog 42 #[.slice A n c] w fun e w' => (labOK L ∧ e = .returned .nilIface ∧ w = w') ∨ (¬ labOK L ∧ ∃ a s v, e = .returned v ∧ (Err.flt (labC L) a s).At w' v ∧ Below w.heap.size w w') := by
  have HS := Lib.hid hs
  have HL := Lib.hid hl
  clear hs hl
  go_enter Tryd.func42, Tryd.ntmps42
  by_cases h8 : 8 < n
  · have h8' : (8 : Int) < (n : Int) := by omega
    have HC := Lib.hid (show labC L = 6 by unfold labC; rw [HL.out, if_pos h8])
    go_wp2_with (go_at_call 44; refine (New_err _ _ _ _).mono ?_; rintro e w' ⟨v, rfl, hv, hb⟩)
    go_ret
    exact .inr ⟨fun h => by have := h.1; rw [HL.out] at this; omega, _, _, _, rfl, by rw [HC.out]; exact hv, hb⟩
  · have h8' : ¬ (8 : Int) < (n : Int) := by omega
    have HC := Lib.hid (show labC L = 3 by unfold labC; rw [HL.out, if_neg h8])
    go_wp2_with fail
    go_loop [11] (fun i => ∃ k : Nat, k ≤ n ∧ i = .int .i64 k ∧ Hid (∀ x ∈ L.take k, 0 ≤ x ∧ x ≤ 255)) (fun i => n - (intOf i).toNat)
    case atStart => exact ⟨0, Nat.zero_le _, rfl, fun x hx => by cases hx⟩
    case round =>
      obtain ⟨k, hk, rfl, HD⟩ := hrel
      by_cases hlt : k < n
      · have hlt' : (k : Int) < (n : Int) := by omega
        obtain ⟨x, hx⟩ : ∃ x, L[k]? = some x := ⟨_, List.getElem?_eq_getElem (by rw [HL.out]; exact hlt)⟩
        obtain ⟨b1, off1, rfl, _⟩ := HS.out.at_ (show 0 < n by omega)
        have c1 := HS.out.again hlt (show (L.map (Value.int .i64))[k]? = some (.int .i64 x) by rw [List.getElem?_map, hx]; rfl)
        have HX := Lib.hid hx
        clear hx
        by_cases h0 : x < 0
        · go_wp2_with (go_at_call 44; refine (New_err _ _ _ _).mono ?_; rintro e w' ⟨v, rfl, hv, hb⟩)
          go_ret
          exact .inr ⟨fun h => by have := h.2 x (List.mem_of_getElem? HX.out); omega, _, _, _, rfl, by rw [HC.out]; exact hv, hb⟩
        · by_cases h1 : 255 < x
          · go_wp2_with (go_at_call 44; refine (New_err _ _ _ _).mono ?_; rintro e w' ⟨v, rfl, hv, hb⟩)
            go_ret
            exact .inr ⟨fun h => by have := h.2 x (List.mem_of_getElem? HX.out); omega, _, _, _, rfl, by rw [HC.out]; exact hv, hb⟩
          · have HN := Lib.hid (show ∀ y ∈ L.take (k + 1), 0 ≤ y ∧ y ≤ 255 from fun y hy => by
              obtain ⟨h3, h4⟩ := List.getElem?_eq_some_iff.1 HX.out
              rw [List.take_succ_eq_append_getElem h3, h4] at hy
              rcases List.mem_append.1 hy with h | h
              · exact HD.out y h
              · obtain rfl := List.mem_singleton.1 h
                omega)
            go_wp2_with fail
            go_round
            case rel => exact ⟨k + 1, by omega, by go_num, HN.out⟩
            case measure => simp [intOf]; omega
      · obtain rfl : k = n := by omega
        have hlt' : ¬ (k : Int) < (k : Int) := by omega
        go_wp2_with fail
        go_ret
        refine .inl ⟨⟨by rw [HL.out]; omega, fun x hx => HD.out x ?_⟩, rfl, rfl⟩
        rw [List.take_of_length_le (by rw [HL.out]; exact Nat.le_refl _)]
        exact hx
end Go.Proofs.YtmonepclhbappaaDoor
