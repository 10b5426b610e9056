/-
  Part 3 of the proof of PatBack: RankP, PatA0, PatA1, PatB, PatC.
-/
import Derived.Test.YtapledphhfiimaaGreatDoorPatBackM1
import Derived.Deep.RegionHeld3
import Derived.Deep.DrawnRows
import Derived.Test.YtapledphhfiimaaGreatDoorPatBackM2
set_option linter.unusedVariables false
/-
  The plain law of chapter 14's parts: no program in sight.
-/
namespace Go.Proofs.YtapledphhfiimaaGreatDoor
namespace Rk

/-- The parts' cells. -/
def cells (l : List (Int × Int)) : List Value := l.flatMap fun p => [.int .i64 p.1, .int .i64 p.2]
theorem cells_nil : cells [] = [] := rfl
theorem cells_snoc (l : List (Int × Int)) (a b : Int) : cells (l ++ [(a, b)]) = cells l ++ [.int .i64 a, .int .i64 b] := by simp [cells]
theorem cells_length (l : List (Int × Int)) : (cells l).length = l.length * 2 := by
  induction l with
  | nil => rfl
  | cons p l ih => simp only [cells, List.flatMap_cons, List.length_append, List.length_cons, List.length_nil] at ih ⊢; omega
theorem cells_at : ∀ (l : List (Int × Int)) (k : Nat) (h : k < l.length), (cells l)[k * 2 + 0]? = some (.int .i64 l[k].1) ∧ (cells l)[k * 2 + 1]? = some (.int .i64 l[k].2)
  | p :: l, 0, _ => by simp [cells]
  | p :: l, k + 1, h => by
    have ih := cells_at l k (by simpa using h)
    have e0 : (k + 1) * 2 + 0 = (k * 2 + 0) + 2 := by omega
    have e1 : (k + 1) * 2 + 1 = (k * 2 + 1) + 2 := by omega
    rw [e0, e1]
    simp only [cells, List.flatMap_cons, List.cons_append, List.nil_append, List.getElem?_cons_succ, List.getElem_cons_succ] at ih ⊢
    exact ih

/-- Whole: where the parts end, if they go one behind the other. -/
def whole : Int → List (Int × Int) → Option Int
  | at_, [] => some at_
  | at_, p :: l => if p.1 = at_ ∧ p.1 ≤ p.2 then whole p.2 l else none
def wholeV : Option Int → Value
  | some n => .tuple #[.int .i64 n, .bool true]
  | none => .tuple #[.int .i64 0, .bool false]

/-- Where part i of a split begins. -/
def start (total n i : Int) : Int := i * (total / n) + min i (total % n)
def parts (total : Int) (n : Nat) : List (Int × Int) := (List.range n).map fun (i : Nat) => (start total n (i : Int), start total n ((i : Int) + 1))
theorem start_zero (total n : Int) (h0 : 0 ≤ total) (hn : 0 < n) : start total n 0 = 0 := by
  have := Int.emod_nonneg total (Int.ne_of_gt hn)
  unfold start; omega
theorem start_end (total n : Int) (hn : 0 < n) : start total n n = total := by
  have h1 := Int.emod_lt_of_pos total hn
  have h2 := Int.mul_ediv_add_emod total n
  unfold start
  rw [Int.min_eq_right (by omega)]
  exact h2
theorem start_succ (total n i : Int) : start total n (i + 1) = start total n i + total / n + (if i < total % n then 1 else 0) := by
  unfold start
  have : (i + 1) * (total / n) = i * (total / n) + total / n := by rw [Int.add_mul]; omega
  split <;> omega
theorem start_le (total n i : Int) (h0 : 0 ≤ total) (hn : 0 < n) (hi : 0 ≤ i) (hin : i ≤ n) : 0 ≤ start total n i ∧ start total n i ≤ total := by
  have h1 := Int.emod_lt_of_pos total hn
  have h2 := Int.mul_ediv_add_emod total n
  have h3 := Int.emod_nonneg total (Int.ne_of_gt hn)
  have h4 : 0 ≤ total / n := Int.ediv_nonneg h0 (by omega)
  have h5 : i * (total / n) ≤ n * (total / n) := Int.mul_le_mul_of_nonneg_right hin h4
  have h6 : 0 ≤ i * (total / n) := Int.mul_nonneg hi h4
  unfold start
  constructor
  · omega
  · by_cases h : i ≤ total % n
    · have h7 : (n - i) * (total / n) ≥ 0 := Int.mul_nonneg (by omega) h4
      rw [Int.sub_mul] at h7
      omega
    · rw [Int.min_eq_right (by omega)]; omega
/-- What is left, shared among who is left: the size of part i, as the document has it. -/
theorem left_div (total n i : Int) (h0 : 0 ≤ total) (hn : 0 < n) (hi : 0 ≤ i) (hin : i < n) :
    start total n (i + 1) = start total n i + ((total - start total n i) / (n - i) + if (total - start total n i) % (n - i) = 0 then 0 else 1) := by
  have h1 := Int.emod_lt_of_pos total hn
  have h2 := Int.mul_ediv_add_emod total n
  have h3 := Int.emod_nonneg total (Int.ne_of_gt hn)
  rw [start_succ, Int.add_assoc]
  congr 1
  generalize hq : total / n = q at *
  generalize hr : total % n = r at *
  have hs : start total n i = i * q + min i r := by unfold start; rw [hq, hr]
  rw [hs]
  have hd : 0 < n - i := by omega
  by_cases hir : i < r
  · have e : total - (i * q + min i r) = (n - i) * q + (r - i) := by
      rw [Int.min_eq_left (by omega), Int.sub_mul]; omega
    rw [e, Int.add_comm ((n - i) * q), Int.add_mul_ediv_left _ _ (Int.ne_of_gt hd), Int.add_mul_emod_self_left, Int.ediv_eq_zero_of_lt (by omega) (by omega), Int.emod_eq_of_lt (by omega) (by omega)]
    rw [if_pos hir, if_neg (by omega)]
    omega
  · have e : total - (i * q + min i r) = (n - i) * q := by
      rw [Int.min_eq_right (by omega), Int.sub_mul]; omega
    rw [e, Int.mul_ediv_cancel_left _ (Int.ne_of_gt hd), Int.mul_emod_right, if_neg hir, if_pos rfl]

theorem whole_from (total : Int) (n : Nat) (h0 : 0 ≤ total) (hn : 0 < n) : ∀ k, k ≤ n → whole (start total n (n - k : Nat)) ((parts total n).drop (n - k)) = some total
  | 0, _ => by
    have : (parts total n).drop n = [] := by simp [parts]
    simp only [Nat.sub_zero, this, whole]
    rw [start_end total n (by omega)]
  | k + 1, hk => by
    have ih := whole_from total n h0 hn k (by omega)
    have hlt : n - (k + 1) < (parts total n).length := by simp [parts]; omega
    rw [List.drop_eq_getElem_cons hlt]
    have e : (parts total n)[n - (k + 1)] = (start total n (n - (k + 1) : Nat), start total n ((n - (k + 1) : Nat) + 1)) := by simp [parts]
    have hle : start total n (n - (k + 1) : Nat) ≤ start total n ((n - (k + 1) : Nat) + 1) := by
      rw [start_succ]
      have h4 : 0 ≤ total / (n : Int) := Int.ediv_nonneg h0 (by omega)
      split <;> omega
    have en : n - (k + 1) + 1 = n - k := by omega
    have ec : ((n - (k + 1) : Nat) : Int) + 1 = ((n - k : Nat) : Int) := by omega
    simp only [whole]
    rw [e, if_pos ⟨rfl, hle⟩, en]
    simp only [ec]
    exact ih
theorem whole_parts (total : Int) (n : Nat) (h0 : 0 ≤ total) (hn : 0 < n) : whole 0 (parts total n) = some total := by
  have h := whole_from total n h0 hn n (Nat.le_refl _)
  have e : ((n - n : Nat) : Int) = 0 := by omega
  rw [e, start_zero total n h0 (by omega)] at h
  simpa using h
theorem parts_take_succ (total : Int) (n k : Nat) (hk : k < n) : (parts total n).take (k + 1) = (parts total n).take k ++ [(start total n k, start total n (k + 1))] := by
  rw [List.take_succ_eq_append_getElem (by simp [parts]; omega)]
  simp [parts]
theorem parts_length (total : Int) (n : Nat) : (parts total n).length = n := by simp [parts]
end Rk
end Go.Proofs.YtapledphhfiimaaGreatDoor
/-
  Patterns: walks of turned, within, cmp.Or, order, Degree, far.
-/
namespace Go.Proofs.YtapledphhfiimaaGreatDoor
open Go.RowKit
attribute [local go_sem ↓] Go.wp_at_zero Go.wp_at_succ
set_option maxRecDepth 100000
set_option linter.unusedVariables false

theorem elemEdge : Elem Tryz.prog 28 53 (.agg #[.int .i64 0, .int .i64 0]) 2 16 := ⟨Tryz.underlying28, by kernel_rfl, rfl, by decide⟩
/-- An edge as a value. -/
def ev (e : Int × Int) : Value := .agg #[.int .i64 e.1, .int .i64 e.2]
def turnE (e : Int × Int) : Int × Int := if e.1 ≤ e.2 then e else (e.2, e.1)

theorem turned_any (a b : Int) (w : World) : Calls Tryz.prog 57 #[.agg #[.int .i64 a, .int .i64 b]] w fun e w' => e = .returned (ev (turnE (a, b))) ∧ Below w.heap.size w w' := by
  rcases Int.lt_trichotomy a b with h | h | h
  · have h1 : ¬ b < a := by omega
    have h2 : ¬ b ≤ a := by omega
    have h3 : a ≤ b := by omega
    have HT := Lib.hid (show turnE (a, b) = (a, b) by unfold turnE; rw [if_pos (by simp only; omega)])
    have HB := Lib.hid (bel_al (bel_al (Below.refl w.heap.size w) (.cells #[.int .i64 a, .int .i64 b] 53)) (.cells #[.int .i64 a, .int .i64 b] 53))
    go_enter Tryz.func57, Tryz.ntmps57
    go_wp2_with fail
    refine bodyPost_ret (v := .agg #[.int .i64 a, .int .i64 b]) (by simp [results, Tryz.results57, go_sem]) rfl ?_
    exact ⟨by rw [HT.out]; rfl, HB.out⟩
  · subst h
    have h1 : ¬ a < a := by omega
    have h2 : a ≤ a := by omega
    have HT := Lib.hid (show turnE (a, a) = (a, a) by unfold turnE; rw [if_pos (by simp only; omega)])
    have HB := Lib.hid (bel_al (bel_al (Below.refl w.heap.size w) (.cells #[.int .i64 a, .int .i64 a] 53)) (.cells #[.int .i64 a, .int .i64 a] 53))
    go_enter Tryz.func57, Tryz.ntmps57
    go_wp2_with fail
    refine bodyPost_ret (v := .agg #[.int .i64 a, .int .i64 a]) (by simp [results, Tryz.results57, go_sem]) rfl ?_
    exact ⟨by rw [HT.out]; rfl, HB.out⟩
  · have h1 : ¬ a < b := by omega
    have h2 : ¬ a ≤ b := by omega
    have h3 : b ≤ a := by omega
    have HT := Lib.hid (show turnE (a, b) = (b, a) by unfold turnE; rw [if_neg (by simp only; omega)])
    have HB := Lib.hid (bel_al (bel_al (Below.refl w.heap.size w) (.cells #[.int .i64 a, .int .i64 b] 53)) (.cells #[.int .i64 b, .int .i64 a] 53))
    go_enter Tryz.func57, Tryz.ntmps57
    go_wp2_with fail
    refine bodyPost_ret (v := .agg #[.int .i64 b, .int .i64 a]) (by simp [results, Tryz.results57, go_sem]) rfl ?_
    exact ⟨by rw [HT.out]; rfl, HB.out⟩

theorem within_any (a b : Int) (n : Nat) (w : World) : Calls Tryz.prog 36 #[.agg #[.int .i64 a, .int .i64 b], .int .i64 (n : Int)] w fun e w' => e = .returned (.bool (decide (0 ≤ a ∧ 0 ≤ b ∧ a < (n : Int) ∧ b < (n : Int)))) ∧ Below w.heap.size w w' := by
  rcases Int.lt_trichotomy a b with h | h | h
  · have h1 : ¬ b < a := by omega
    have h2 : ¬ b ≤ a := by omega
    have h3 : a ≤ b := by omega
    have HB := Lib.hid (bel_al (Below.refl w.heap.size w) (.cells #[.int .i64 a, .int .i64 b] 53))
    by_cases h0 : 0 ≤ a
    · have HD := Lib.hid (show decide (b < (n : Int)) = decide (0 ≤ a ∧ 0 ≤ b ∧ a < (n : Int) ∧ b < (n : Int)) by apply decide_eq_decide.2; omega)
      rw [← HD.out]
      go_enter Tryz.func36, Tryz.ntmps36
      go_wp2_with fail
      go_ret
      exact ⟨rfl, HB.out⟩
    · rw [show decide (0 ≤ a ∧ 0 ≤ b ∧ a < (n : Int) ∧ b < (n : Int)) = false by apply decide_eq_false; omega]
      go_enter Tryz.func36, Tryz.ntmps36
      go_wp2_with fail
      go_ret
      exact ⟨rfl, HB.out⟩
  · subst h
    have h1 : ¬ a < a := by omega
    have h2 : a ≤ a := by omega
    have HB := Lib.hid (bel_al (Below.refl w.heap.size w) (.cells #[.int .i64 a, .int .i64 a] 53))
    by_cases h0 : 0 ≤ a
    · have HD := Lib.hid (show decide (a < (n : Int)) = decide (0 ≤ a ∧ 0 ≤ a ∧ a < (n : Int) ∧ a < (n : Int)) by apply decide_eq_decide.2; omega)
      rw [← HD.out]
      go_enter Tryz.func36, Tryz.ntmps36
      go_wp2_with fail
      go_ret
      exact ⟨rfl, HB.out⟩
    · rw [show decide (0 ≤ a ∧ 0 ≤ a ∧ a < (n : Int) ∧ a < (n : Int)) = false by apply decide_eq_false; omega]
      go_enter Tryz.func36, Tryz.ntmps36
      go_wp2_with fail
      go_ret
      exact ⟨rfl, HB.out⟩
  · have h1 : ¬ a < b := by omega
    have h2 : ¬ a ≤ b := by omega
    have h3 : b ≤ a := by omega
    have HB := Lib.hid (bel_al (Below.refl w.heap.size w) (.cells #[.int .i64 a, .int .i64 b] 53))
    by_cases h0 : 0 ≤ b
    · have HD := Lib.hid (show decide (a < (n : Int)) = decide (0 ≤ a ∧ 0 ≤ b ∧ a < (n : Int) ∧ b < (n : Int)) by apply decide_eq_decide.2; omega)
      rw [← HD.out]
      go_enter Tryz.func36, Tryz.ntmps36
      go_wp2_with fail
      go_ret
      exact ⟨rfl, HB.out⟩
    · rw [show decide (0 ≤ a ∧ 0 ≤ b ∧ a < (n : Int) ∧ b < (n : Int)) = false by apply decide_eq_false; omega]
      go_enter Tryz.func36, Tryz.ntmps36
      go_wp2_with fail
      go_ret
      exact ⟨rfl, HB.out⟩

def orL : List Int → Int
  | [] => 0
  | x :: l => if x = 0 then orL l else x
set_option maxHeartbeats 2000000 in
theorem Or_any (l : List Int) (A : Option Addr) (n c : Nat) (w : World) (hl : l.length = n) (hn : n ≤ 100) (hs : Sl w 1 A n (l.map (Value.int .i64))) :
    Calls Tryz.prog 61 #[.slice A n c] w fun e w' => e = .returned (.int .i64 (orL l)) ∧ w = w' := by
  have HL := Lib.hid hl
  have HS := Lib.hid hs
  clear hl hs
  go_enter Tryz.func61, Tryz.ntmps61
  go_wp2_with fail
  go_loop [8] (fun i => ∃ k : Nat, k ≤ n ∧ i = .int .i64 k ∧ orL (l.drop k) = orL l) (fun i => n - (intOf i).toNat)
  case atStart => exact ⟨0, Nat.zero_le _, rfl, rfl⟩
  case round =>
    obtain ⟨k, hk, rfl, hd⟩ := hrel
    have HD := Lib.hid hd
    clear hd
    by_cases hlt : k < n
    · have hlt' : (k : Int) < (n : Int) := by omega
      obtain ⟨x, hx⟩ : ∃ x, l[k]? = some x := ⟨_, List.getElem?_eq_getElem (by rw [HL.out]; exact hlt)⟩
      obtain ⟨b1, off1, rfl, _⟩ := HS.out.at_ (show 0 < n by omega)
      have c1 := HS.out.again hlt (show (l.map (Value.int .i64))[k]? = some (.int .i64 x) by rw [List.getElem?_map, hx]; rfl)
      have hdr : l.drop k = x :: l.drop (k + 1) := by
        obtain ⟨h1, h2⟩ := List.getElem?_eq_some_iff.1 hx
        rw [List.drop_eq_getElem_cons h1, h2]
      by_cases hx0 : x = 0
      · have HE := Lib.hid (show orL (l.drop (k + 1)) = orL l by rw [← HD.out, hdr, orL, if_pos hx0])
        clear hx hdr
        subst hx0
        go_wp2_with fail
        go_round
        case rel => exact ⟨k + 1, by omega, by go_num, HE.out⟩
        case measure => simp [intOf]; omega
      · have HE := Lib.hid (show x = orL l by rw [← HD.out, hdr, orL, if_neg hx0])
        clear hx hdr
        have hxx : (x != 0) = true := by simpa using hx0
        go_wp2_with fail
        go_ret
        exact ⟨ret_int HE.out, rfl⟩
    · obtain rfl : k = n := by omega
      have hlt' : ¬ (k : Int) < (k : Int) := by omega
      have HE := Lib.hid (show 0 = orL l by rw [← HD.out, List.drop_of_length_le (by rw [HL.out]; exact Nat.le_refl _), orL])
      go_wp2_with fail
      go_ret
      exact ⟨ret_int HE.out, rfl⟩
end Go.Proofs.YtapledphhfiimaaGreatDoor
namespace Go.Proofs.YtapledphhfiimaaGreatDoor
open Go.RowKit
attribute [local go_sem ↓] Go.wp_at_zero Go.wp_at_succ
set_option maxRecDepth 100000
set_option linter.unusedVariables false
theorem ordE_or (a b : Int × Int) : orL [cmpI a.1 b.1, cmpI a.2 b.2] = Pt.ordE a b := by
  unfold orL orL orL Pt.ordE Pt.or2
  show (if Pt.cmpI a.1 b.1 = 0 then (if Pt.cmpI a.2 b.2 = 0 then 0 else Pt.cmpI a.2 b.2) else Pt.cmpI a.1 b.1) = _
  by_cases h : Pt.cmpI a.1 b.1 = 0
  · rw [if_pos h, if_pos h]
    split <;> omega
  · rw [if_neg h, if_neg h]

theorem cell_drew (W : World) (a : Addr) : W.drew.cell? a = W.cell? a := rfl
theorem cell_new (W : World) (cs : Array Value) (e : TypeId) (i g : Nat) (hg : W.heap.size = g) : (W.alloc (.cells cs e)).cell? ⟨g, i, none⟩ = cs[i]? := by subst hg; exact World.cell?_alloc_new _ _ _ _
theorem Or_two (x y : Int) (g c : Nat) (W : World) (h0 : W.cell? ⟨g, 0, none⟩ = some (.int .i64 x)) (h1 : W.cell? ⟨g, 1, none⟩ = some (.int .i64 y)) :
    Calls Tryz.prog 61 #[.slice (some ⟨g, 0, none⟩) 2 c] W fun e w' => e = .returned (.int .i64 (orL [x, y])) ∧ W = w' :=
  Or_any [x, y] _ 2 c W rfl (by omega) ⟨rfl, fun _ => ⟨g, 0, rfl, fun j u hu => by
    match j, hu with
    | 0, hu => cases hu; exact h0
    | 1, hu => cases hu; exact h1⟩⟩

set_option maxHeartbeats 4000000 in
theorem order_any (a b : Int × Int) (w : World) : Calls Tryz.prog 37 #[ev a, ev b] w fun e w' => e = .returned (.int .i64 (Pt.ordE a b)) ∧ Below w.heap.size w w' := by
  obtain ⟨a1, a2⟩ := a
  obtain ⟨b1, b2⟩ := b
  have HO := Lib.hid (ordE_or (a1, a2) (b1, b2))
  simp only at HO
  unfold ev
  simp only
  go_enter Tryz.func37, Tryz.ntmps37
  go_wp2_with fail
  go_region_held3 (fun w' => w'.cell? ⟨w.heap.size, 0, none⟩ = some (.int .i64 a1) ∧ w'.cell? ⟨w.heap.size, 1, none⟩ = some (.int .i64 a2) ∧ w'.cell? ⟨w.heap.size + 1, 0, none⟩ = some (.int .i64 b1) ∧ w'.cell? ⟨w.heap.size + 1, 1, none⟩ = some (.int .i64 b2)) (go_keep)
    (first
      | (go_at_call 62; refine (CmpI_any _ _ _).mono ?_; rintro e w' ⟨rfl, rfl⟩)
      | (go_at_call 61; refine (Or_two (cmpI a1 b1) (cmpI a2 b2) (w.heap.size + 1 + 1) 2 _ (by rw [cell_drew, cell_new _ _ _ _ _ (by simp)]; rfl) (by rw [cell_drew, cell_new _ _ _ _ _ (by simp)]; rfl)).mono ?_; rintro e w' ⟨rfl, rfl⟩))
  all_goals go_wp2_with fail
  all_goals go_ret
  all_goals exact ⟨ret_int HO.out, bel_drewN (bel_al (bel_al (bel_al (Below.refl w.heap.size w) _) _) _) 1⟩

/-- An edge of a row that reads as these. -/
theorem Sl.edge {w : World} {A : Option Addr} {n k : Nat} {E : List (Int × Int)} {e : Int × Int} (h : Sl w 2 A n (Rk.cells E)) (hk : k < n) (he : E[k]? = some e) :
    ∃ b off, A = some ⟨b, off, none⟩ ∧ w.cell? ⟨b, off + k * 2, none⟩ = some (.int .i64 e.1) ∧ w.cell? ⟨b, off + k * 2 + 1, none⟩ = some (.int .i64 e.2) := by
  obtain ⟨b, off, rfl, hc⟩ := h.at_ hk
  obtain ⟨u0, e0, c0⟩ := hc 0 (by omega)
  obtain ⟨u1, e1, c1⟩ := hc 1 (by omega)
  obtain ⟨hl, he⟩ := List.getElem?_eq_some_iff.1 he
  obtain ⟨g0, g1⟩ := Rk.cells_at E k hl
  rw [g0, he] at e0
  rw [g1, he] at e1
  obtain rfl := Option.some.inj e0
  obtain rfl := Option.some.inj e1
  exact ⟨b, off, rfl, by simpa using c0, by rw [Nat.add_assoc]; exact c1⟩
theorem Sl.len2 {w : World} {A : Option Addr} {n : Nat} {E : List (Int × Int)} (h : Sl w 2 A n (Rk.cells E)) : E.length = n := by
  have h1 := h.1
  rw [Rk.cells_length] at h1
  omega

set_option maxHeartbeats 4000000 in
theorem CompareE_any (E F : List (Int × Int)) (A B : Option Addr) (n m c d : Nat) (w : World) (hn : n ≤ 1000000) (hs : Sl w 2 A n (Rk.cells E)) (ht : Sl w 2 B m (Rk.cells F)) :
    Calls Tryz.prog 64 #[.slice A n c, .slice B m d, .func (.func 37) #[] #[]] w fun e w' => e = .returned (.int .i64 (Pt.cmpBy Pt.ordE E F)) ∧ Below w.heap.size w w' := by
  have HS := Lib.hid hs
  have HT := Lib.hid ht
  have HL := Lib.hid hs.len2
  have HM := Lib.hid ht.len2
  clear hs ht
  go_enter Tryz.func64, Tryz.ntmps64
  go_wp2_with fail
  go_loopw [13] (fun i wr => ∃ k : Nat, k ≤ n ∧ k ≤ m ∧ i = .int .i64 k ∧ Hid (Pt.cmpBy Pt.ordE (E.drop k) (F.drop k) = Pt.cmpBy Pt.ordE E F) ∧ Below w.heap.size w wr) (fun i _ => n - (intOf i).toNat)
  case atStart => exact ⟨0, Nat.zero_le _, Nat.zero_le _, rfl, rfl, Below.refl _ _⟩
  case round =>
    obtain ⟨k, hk, hkm, rfl, HD, hb⟩ := hrel
    have HB := Lib.hid hb
    have HSk := Lib.hid (HS.out.keep hb)
    have HTk := Lib.hid (HT.out.keep hb)
    clear hb
    by_cases hlt : k < n
    · have hlt' : (k : Int) < (n : Int) := by omega
      obtain ⟨e, he⟩ : ∃ e, E[k]? = some e := ⟨_, List.getElem?_eq_getElem (by rw [HL.out]; exact hlt)⟩
      obtain ⟨b1, off1, rfl, c0, c1⟩ := HSk.out.edge hlt he
      by_cases hlm : k < m
      · have hlm' : (k : Int) < (m : Int) := by omega
        have hlm2 : ¬ (m : Int) ≤ (k : Int) := by omega
        obtain ⟨f, hf⟩ : ∃ f, F[k]? = some f := ⟨_, List.getElem?_eq_getElem (by rw [HM.out]; exact hlm)⟩
        obtain ⟨b2, off2, rfl, d0, d1⟩ := (HTk.out.alloc (.cells #[.int .i64 e.1, .int .i64 e.2] 53)).edge hlm hf
        have HE := Lib.hid (show Pt.cmpBy Pt.ordE E F = if Pt.ordE e f = 0 then Pt.cmpBy Pt.ordE (E.drop (k + 1)) (F.drop (k + 1)) else Pt.ordE e f by
          obtain ⟨h1, h2⟩ := List.getElem?_eq_some_iff.1 he
          obtain ⟨h3, h4⟩ := List.getElem?_eq_some_iff.1 hf
          rw [← HD.out, List.drop_eq_getElem_cons h1, List.drop_eq_getElem_cons h3, h2, h4, Pt.cmpBy])
        clear he hf
        have HO := Lib.hid (fun W => order_any e f W)
        obtain ⟨z, hz⟩ : ∃ z, z = Pt.ordE e f := ⟨_, rfl⟩
        rw [← hz] at HE HO
        have hb2 := bel_al (bel_al HB.out (.cells #[.int .i64 e.1, .int .i64 e.2] 53)) (.cells #[.int .i64 f.1, .int .i64 f.2] 53)
        have HB2 := Lib.hid hb2
        clear hz hb2
        by_cases hz0 : z = 0
        · rw [if_pos hz0] at HE
          subst hz0
          go_wp2_with (go_at_call 37; refine (HO.out _).mono ?_; rintro e' w' ⟨rfl, hb3⟩; have HB3 := Lib.hid (HB2.out.andThen hb3); clear hb3)
          go_roundw
          case rel => exact ⟨k + 1, by omega, by omega, by go_num, HE.out.symm, HB3.out⟩
          case measure => simp [intOf]; omega
        · rw [if_neg hz0] at HE
          have hzz : (z != 0) = true := by simpa using hz0
          go_wp2_with (go_at_call 37; refine (HO.out _).mono ?_; rintro e' w' ⟨rfl, hb3⟩; have HB3 := Lib.hid (HB2.out.andThen hb3); clear hb3)
          go_ret
          exact ⟨ret_int HE.out.symm, HB3.out⟩
      · obtain rfl : k = m := by omega
        have hlm2 : (k : Int) ≤ (k : Int) := by omega
        have HE := Lib.hid (show 1 = Pt.cmpBy Pt.ordE E F by
          obtain ⟨h1, h2⟩ := List.getElem?_eq_some_iff.1 he
          rw [← HD.out, List.drop_eq_getElem_cons h1, List.drop_of_length_le (l := F) (by rw [HM.out]; exact Nat.le_refl _)]; rfl)
        have HB2 := Lib.hid (bel_al HB.out (.cells #[.int .i64 e.1, .int .i64 e.2] 53))
        clear he
        go_wp2_with fail
        go_ret
        exact ⟨ret_int HE.out, HB2.out⟩
    · obtain rfl : k = n := by omega
      have hlt' : ¬ (k : Int) < (k : Int) := by omega
      by_cases hkm' : k < m
      · have hkm2 : (k : Int) < (m : Int) := by omega
        have HE := Lib.hid (show -1 = Pt.cmpBy Pt.ordE E F by
          rw [← HD.out, List.drop_of_length_le (l := E) (by rw [HL.out]; exact Nat.le_refl _), List.drop_eq_getElem_cons (l := F) (by rw [HM.out]; exact hkm')]; rfl)
        go_wp2_with fail
        go_ret
        exact ⟨ret_int HE.out, HB.out⟩
      · obtain rfl : k = m := by omega
        have HE := Lib.hid (show 0 = Pt.cmpBy Pt.ordE E F by
          rw [← HD.out, List.drop_of_length_le (l := E) (by rw [HL.out]; exact Nat.le_refl _), List.drop_of_length_le (l := F) (by rw [HM.out]; exact Nat.le_refl _)]; rfl)
        go_wp2_with fail
        go_ret
        exact ⟨ret_int HE.out, HB.out⟩
end Go.Proofs.YtapledphhfiimaaGreatDoor
/-
  Patterns: walks of Compare, Degree, far.
-/
namespace Go.Proofs.YtapledphhfiimaaGreatDoor
open Go.RowKit
attribute [local go_sem ↓] Go.wp_at_zero Go.wp_at_succ
set_option maxRecDepth 100000
set_option linter.unusedVariables false

/-- A pattern as a value. -/
abbrev pv (A : Option Addr) (n c : Nat) (B : Option Addr) (m d : Nat) : Value := .agg #[.slice A n c, .slice B m d]
theorem Or_four (x y z u : Int) (g c : Nat) (W : World) (h : ∀ i v, [Value.int .i64 x, .int .i64 y, .int .i64 z, .int .i64 u][i]? = some v → W.cell? ⟨g, i, none⟩ = some v) :
    Calls Tryz.prog 61 #[.slice (some ⟨g, 0, none⟩) 4 c] W fun e w' => e = .returned (.int .i64 (orL [x, y, z, u])) ∧ W = w' :=
  Or_any [x, y, z, u] _ 4 c W rfl (by omega) ⟨rfl, fun _ => ⟨g, 0, rfl, fun j v hv => by rw [Nat.zero_add]; exact h j v hv⟩⟩
theorem orL_four (x y z u : Int) : orL [x, y, z, u] = Pt.or2 x (Pt.or2 y (Pt.or2 z u)) := by
  unfold orL orL orL orL orL Pt.or2
  by_cases h1 : x = 0
  · rw [if_pos h1, if_pos h1]
    by_cases h2 : y = 0
    · rw [if_pos h2, if_pos h2]
      by_cases h3 : z = 0
      · rw [if_pos h3, if_pos h3]
        by_cases h4 : u = 0
        · rw [if_pos h4, h4]
        · rw [if_neg h4]
      · rw [if_neg h3, if_neg h3]
    · rw [if_neg h2, if_neg h2]
  · rw [if_neg h1, if_neg h1]
theorem cmpL_by : ∀ a b : List Int, cmpL a b = Pt.cmpBy Pt.cmpI a b
  | [], [] => rfl
  | [], _ :: _ => rfl
  | _ :: _, [] => rfl
  | x :: a, y :: b => by
    rw [cmpL, Pt.cmpBy, ← cmpL_by a b]
    unfold Pt.cmpI
    by_cases h : x < y
    · rw [if_pos h, if_pos h, if_neg (by omega)]
    · rw [if_neg h, if_neg h]
      by_cases h2 : y < x
      · rw [if_pos h2, if_pos h2, if_neg (by omega)]
      · rw [if_neg h2, if_neg h2, if_pos rfl]

set_option maxHeartbeats 16000000 in
theorem PatCompare_any (L L' : List Int) (E E' : List (Int × Int)) (A A' B B' : Option Addr) (n n' m m' c c' d d' : Nat) (w : World)
    (hl : L.length = n) (hl' : L'.length = n') (hn : n ≤ 1000000) (hm : m ≤ 1000000) (hs : Sl w 1 A n (L.map (Value.int .i64))) (hs' : Sl w 1 A' n' (L'.map (Value.int .i64))) (ht : Sl w 2 B m (Rk.cells E)) (ht' : Sl w 2 B' m' (Rk.cells E')) :
    Calls Tryz.prog 26 #[pv A n c B m d, pv A' n' c' B' m' d'] w fun e w' => e = .returned (.int .i64 (Pt.cmpP L E L' E')) ∧ Below w.heap.size w w' := by
  have HO := Lib.hid (show orL [cmpI n n', cmpL L L', cmpI m m', Pt.cmpBy Pt.ordE E E'] = Pt.cmpP L E L' E' by
    rw [orL_four, cmpL_by]
    unfold Pt.cmpP
    rw [hl, hl', ht.len2, ht'.len2]
    rfl)
  have HCI := Lib.hid (fun (W : World) (hW : Below w.heap.size w W) => CompareI_any L L' A A' n n' c c' W hl hl' (hs.keep hW) (hs'.keep hW) (by omega))
  have HCE := Lib.hid (fun (W : World) (hW : Below w.heap.size w W) => CompareE_any E E' B B' m m' d d' W hm (ht.keep hW) (ht'.keep hW))
  have HB0 := Lib.hid (bel_drewN (bel_al (bel_al (Below.refl w.heap.size w) (.cells #[.slice A n c, .slice B m d] 30)) (.cells #[.slice A' n' c', .slice B' m' d'] 30)) 1)
  have HK1 := Lib.hid (((Blk.new w 30 #[.slice A n c, .slice B m d]).alloc (.cells #[.slice A' n' c', .slice B' m' d'] 30)))
  have HK2 := Lib.hid (Blk.new (w.alloc (.cells #[.slice A n c, .slice B m d] 30)) 30 #[.slice A' n' c', .slice B' m' d'])
  rw [World.size_alloc] at HK2
  clear hl hl' hs hs' ht ht'
  go_enter Tryz.func26, Tryz.ntmps26
  go_wp2_with fail
  go_region_held3 (fun w' => w'.cell? ⟨w.heap.size, 0, none⟩ = some (.slice A n c) ∧ w'.cell? ⟨w.heap.size, 1, none⟩ = some (.slice B m d) ∧ w'.cell? ⟨w.heap.size + 1, 0, none⟩ = some (.slice A' n' c') ∧ w'.cell? ⟨w.heap.size + 1, 1, none⟩ = some (.slice B' m' d')) (go_keep)
    (first
      | (go_at_call 62; refine (CmpI_any _ _ _).mono ?_; rintro e w' ⟨rfl, rfl⟩)
      | (go_at_call 63; refine (HCI.out _ (by first | exact HB0.out | exact HB3.out)).mono ?_; rintro e w' ⟨rfl, rfl⟩)
      | (go_at_call 64; refine (HCE.out _ HB0.out).mono ?_; rintro e w3 ⟨rfl, hb3⟩; have k1 := (HK1.out.drew.keep hb3); have k2 := (HK2.out.drew.keep hb3); have k10 := k1.cell 0; have k11 := k1.cell 1; have k20 := k2.cell 0; have k21 := k2.cell 1; have HB3 := Lib.hid (HB0.out.andThen hb3); simp at k10 k11 k20 k21; clear hb3 k1 k2)
      | (go_at_call 61; refine (Or_four (cmpI n n') (cmpL L L') (cmpI m m') (Pt.cmpBy Pt.ordE E E') _ 4 _ (by intro i v hv; (try rw [cell_drew]); rw [cell_new _ _ _ _ _ (by simp), List.getElem?_toArray]; exact hv)).mono ?_; rintro e w' ⟨rfl, rfl⟩))
  all_goals go_wp2_with fail
  all_goals go_ret
  all_goals first | exact ⟨ret_int HO.out, bel_al HB3.out _⟩ | exact ⟨ret_int HO.out, bel_drewN (bel_al HB3.out _) 1⟩
end Go.Proofs.YtapledphhfiimaaGreatDoor
/-
  Patterns: walks of Degree, far, labels, Right.
-/
namespace Go.Proofs.YtapledphhfiimaaGreatDoor
open Go.RowKit
attribute [local go_sem ↓] Go.wp_at_zero Go.wp_at_succ
set_option maxRecDepth 100000
set_option linter.unusedVariables false

theorem deg_take {E : List (Int × Int)} {k : Nat} {e : Int × Int} (v : Int) (he : E[k]? = some e) : Pt.deg (E.take (k + 1)) v = Pt.deg (E.take k) v + (if e.1 = v ∨ e.2 = v then 1 else 0) := by
  obtain ⟨h1, h2⟩ := List.getElem?_eq_some_iff.1 he
  unfold Pt.deg
  rw [List.take_succ_eq_append_getElem h1, h2, List.filter_append, List.length_append]
  by_cases h : e.1 = v ∨ e.2 = v
  · rw [if_pos h]
    rcases h with h | h <;> simp [h]
  · rw [if_neg h]
    have h3 : ¬ e.1 = v := fun x => h (.inl x)
    have h4 : ¬ e.2 = v := fun x => h (.inr x)
    simp [h3, h4]
theorem deg_le (E : List (Int × Int)) (v : Int) : Pt.deg E v ≤ E.length := by
  unfold Pt.deg
  exact List.length_filter_le _ _

set_option maxHeartbeats 4000000 in
theorem Degree_any (E : List (Int × Int)) (A B : Option Addr) (n c m d : Nat) (v : Int) (w : World) (hm : m ≤ 1000000) (ht : Sl w 2 B m (Rk.cells E)) :
    Calls Tryz.prog 28 #[pv A n c B m d, .int .i64 v] w fun e w' => e = .returned (.int .i64 (Pt.deg E v : Nat)) ∧ Below w.heap.size w w' := by
  have HT := Lib.hid ht
  have HM := Lib.hid ht.len2
  clear ht
  go_enter Tryz.func28, Tryz.ntmps28
  go_wp2_with fail
  go_loopw [5, 11] (fun z i wr => ∃ k : Nat, k ≤ m ∧ i = .int .i64 k ∧ z = .int .i64 (Pt.deg (E.take k) v : Nat) ∧ Below w.heap.size w wr) (fun _ i _ => m - (intOf i).toNat)
  case atStart => exact ⟨0, Nat.zero_le _, rfl, rfl, bel_al (Below.refl _ _) _⟩
  case round =>
    obtain ⟨k, hk, rfl, rfl, hb⟩ := hrel
    have HB := Lib.hid hb
    have HTk := Lib.hid (HT.out.keep hb)
    clear hb
    have hle := deg_le (E.take k) v
    rw [List.length_take] at hle
    obtain ⟨g, hg⟩ : ∃ g, g = Pt.deg (E.take k) v := ⟨_, rfl⟩
    rw [← hg] at hle ⊢
    have HG := Lib.hid hg
    clear hg
    have hg9 : g ≤ 1000000 := by omega
    clear hle
    by_cases hlt : k < m
    · have hlt' : (k : Int) < (m : Int) := by omega
      obtain ⟨e, he⟩ : ∃ e, E[k]? = some e := ⟨_, List.getElem?_eq_getElem (by rw [HM.out]; exact hlt)⟩
      obtain ⟨b1, off1, rfl, c0, c1⟩ := HTk.out.edge hlt he
      have HE := Lib.hid (deg_take v he)
      rw [← HG.out] at HE
      clear he
      obtain ⟨e1, e2⟩ := e
      have HB2 := Lib.hid (bel_al HB.out (.cells #[.int .i64 e1, .int .i64 e2] 53))
      simp only at HE c0 c1
      have hwg : IntKind.i64.wrap ((g : Int) + 1) = (g : Int) + 1 := by rw [IntKind.wrap_i64]; omega
      by_cases h1 : e1 = v
      · subst h1
        rw [if_pos (.inl rfl)] at HE
        go_wp2_with fail
        go_roundw
        case rel => exact ⟨k + 1, by omega, by go_num, by rw [HE.out]; rfl, HB2.out⟩
        case measure => simp [intOf]; omega
      · by_cases h2 : e2 = v
        · subst h2
          rw [if_pos (.inr rfl)] at HE
          go_wp2_with fail
          go_roundw
          case rel => exact ⟨k + 1, by omega, by go_num, by rw [HE.out]; rfl, HB2.out⟩
          case measure => simp [intOf]; omega
        · rw [if_neg (fun h => h.elim h1 h2)] at HE
          have h1' : (e1 == v) = false := by simpa using h1
          have h2' : (e2 == v) = false := by simpa using h2
          go_wp2_with fail
          go_roundw
          case rel => exact ⟨k + 1, by omega, by go_num, by rw [HE.out]; rfl, HB2.out⟩
          case measure => simp [intOf]; omega
    · obtain rfl : k = m := by omega
      have hlt' : ¬ (k : Int) < (k : Int) := by omega
      have HE := Lib.hid (show (g : Int) = (Pt.deg E v : Nat) by rw [HG.out, List.take_of_length_le (by rw [HM.out]; exact Nat.le_refl _)])
      go_wp2_with fail
      go_ret
      exact ⟨ret_int HE.out, HB.out⟩

theorem far_any (A B : Option Addr) (n c m d : Nat) (w : World) :
    Calls Tryz.prog 19 #[pv A n c B m d] w fun e w' => e = .returned (.bool (decide (20 < n) || decide (60 < m))) ∧ Below w.heap.size w w' := by
  have HB := Lib.hid (bel_al (Below.refl w.heap.size w) (.cells #[.slice A n c, .slice B m d] 26))
  by_cases h : 20 < n
  · have h' : (20 : Int) < (n : Int) := by omega
    have HE := Lib.hid (show true = (decide (20 < n) || decide (60 < m)) by rw [decide_eq_true h]; rfl)
    rw [← HE.out]
    go_enter Tryz.func19, Tryz.ntmps19
    go_wp2_with fail
    go_ret
    exact ⟨rfl, HB.out⟩
  · have h' : ¬ (20 : Int) < (n : Int) := by omega
    by_cases h2 : 60 < m
    · have h2' : (60 : Int) < (m : Int) := by omega
      have HE := Lib.hid (show true = (decide (20 < n) || decide (60 < m)) by rw [decide_eq_true h2, Bool.or_true])
      rw [← HE.out]
      go_enter Tryz.func19, Tryz.ntmps19
      go_wp2_with fail
      go_ret
      exact ⟨rfl, HB.out⟩
    · have h2' : ¬ (60 : Int) < (m : Int) := by omega
      have HE := Lib.hid (show false = (decide (20 < n) || decide (60 < m)) by rw [decide_eq_false h, decide_eq_false h2]; rfl)
      rw [← HE.out]
      go_enter Tryz.func19, Tryz.ntmps19
      go_wp2_with fail
      go_ret
      exact ⟨rfl, HB.out⟩

/-- Labels that may be. -/
def labOK (L : List Int) : Prop := L.length ≤ 8 ∧ ∀ x ∈ L, 0 ≤ x ∧ x ≤ 255
def labC (L : List Int) : Int := if 8 < L.length then 6 else 3
set_option maxHeartbeats 4000000 in
theorem labels_any (L : List Int) (A : Option Addr) (n c : Nat) (w : World) (hl : L.length = n) (hs : Sl w 1 A n (L.map (Value.int .i64))) :
    Calls Tryz.prog 35 #[.slice A n c] w fun e w' => (labOK L ∧ e = .returned .nilIface ∧ w = w') ∨ (¬ labOK L ∧ ∃ a s v, e = .returned v ∧ (Err.flt (labC L) a s).At w' v ∧ Below w.heap.size w w') := by
  have HS := Lib.hid hs
  have HL := Lib.hid hl
  clear hs hl
  go_enter Tryz.func35, Tryz.ntmps35
  by_cases h8 : 8 < n
  · have h8' : (8 : Int) < (n : Int) := by omega
    have HC := Lib.hid (show labC L = 6 by unfold labC; rw [HL.out, if_pos h8])
    go_wp2_with (go_at_call 33; refine (New_err _ _ _ _).mono ?_; rintro e w' ⟨v, rfl, hv, hb⟩)
    go_ret
    exact .inr ⟨fun h => by have := h.1; rw [HL.out] at this; omega, _, _, _, rfl, by rw [HC.out]; exact hv, hb⟩
  · have h8' : ¬ (8 : Int) < (n : Int) := by omega
    have HC := Lib.hid (show labC L = 3 by unfold labC; rw [HL.out, if_neg h8])
    go_wp2_with fail
    go_loop [11] (fun i => ∃ k : Nat, k ≤ n ∧ i = .int .i64 k ∧ Hid (∀ x ∈ L.take k, 0 ≤ x ∧ x ≤ 255)) (fun i => n - (intOf i).toNat)
    case atStart => exact ⟨0, Nat.zero_le _, rfl, fun x hx => by cases hx⟩
    case round =>
      obtain ⟨k, hk, rfl, HD⟩ := hrel
      by_cases hlt : k < n
      · have hlt' : (k : Int) < (n : Int) := by omega
        obtain ⟨x, hx⟩ : ∃ x, L[k]? = some x := ⟨_, List.getElem?_eq_getElem (by rw [HL.out]; exact hlt)⟩
        obtain ⟨b1, off1, rfl, _⟩ := HS.out.at_ (show 0 < n by omega)
        have c1 := HS.out.again hlt (show (L.map (Value.int .i64))[k]? = some (.int .i64 x) by rw [List.getElem?_map, hx]; rfl)
        have HX := Lib.hid hx
        clear hx
        by_cases h0 : x < 0
        · go_wp2_with (go_at_call 33; refine (New_err _ _ _ _).mono ?_; rintro e w' ⟨v, rfl, hv, hb⟩)
          go_ret
          exact .inr ⟨fun h => by have := h.2 x (List.mem_of_getElem? HX.out); omega, _, _, _, rfl, by rw [HC.out]; exact hv, hb⟩
        · by_cases h1 : 255 < x
          · go_wp2_with (go_at_call 33; refine (New_err _ _ _ _).mono ?_; rintro e w' ⟨v, rfl, hv, hb⟩)
            go_ret
            exact .inr ⟨fun h => by have := h.2 x (List.mem_of_getElem? HX.out); omega, _, _, _, rfl, by rw [HC.out]; exact hv, hb⟩
          · have HN := Lib.hid (show ∀ y ∈ L.take (k + 1), 0 ≤ y ∧ y ≤ 255 from fun y hy => by
              obtain ⟨h3, h4⟩ := List.getElem?_eq_some_iff.1 HX.out
              rw [List.take_succ_eq_append_getElem h3, h4] at hy
              rcases List.mem_append.1 hy with h | h
              · exact HD.out y h
              · obtain rfl := List.mem_singleton.1 h
                omega)
            go_wp2_with fail
            go_round
            case rel => exact ⟨k + 1, by omega, by go_num, HN.out⟩
            case measure => simp [intOf]; omega
      · obtain rfl : k = n := by omega
        have hlt' : ¬ (k : Int) < (k : Int) := by omega
        go_wp2_with fail
        go_ret
        refine .inl ⟨⟨by rw [HL.out]; omega, fun x hx => HD.out x ?_⟩, rfl, rfl⟩
        rw [List.take_of_length_le (by rw [HL.out]; exact Nat.le_refl _)]
        exact hx
end Go.Proofs.YtapledphhfiimaaGreatDoor
