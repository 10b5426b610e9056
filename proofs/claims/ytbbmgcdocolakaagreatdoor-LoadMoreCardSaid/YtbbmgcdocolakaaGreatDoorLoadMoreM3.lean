/-
  Part 3 of the proof of LoadMore: RankP, PatA0, PatA1, PatB, PatC, PatD, PatE, PatS, PatX, FrameT, FrameV, FrameG.
-/
import Derived.Test.YtbbmgcdocolakaaGreatDoorLoadMoreM1
import Derived.Deep.RegionHeld3
import Derived.Deep.DrawnRows
import Derived.Test.YtbbmgcdocolakaaGreatDoorLoadMoreM2
import Derived.Test.YtbbmgcdocolakaaGreatDoorProg
import Derived.Shelf.Strings.Builder1
import Derived.Shelf.Strings.Builder2
import Derived.Shelf.Strings.OnBuilder
import Derived.Shelf.LaysM
import Derived.Shelf.Strconv.Itoa3
import Derived.Ground.Names2Prog
import Derived.Lib.AppendIntMem
import Derived.Lib.ItoaLen
import Derived.Lib.SmallJoins
import Derived.Lib.LaidTab
import Derived.LaidSub
import Derived.Deep.DeepLaidRun
set_option linter.unusedVariables false
/-
  The plain law of chapter 14's parts: no program in sight.
-/
namespace Go.Proofs.YtbbmgcdocolakaaGreatDoor
namespace Rk

/-- The parts' cells. -/
def cells (l : List (Int × Int)) : List Value := l.flatMap fun p => [.int .i64 p.1, .int .i64 p.2]
theorem cells_nil : cells [] = [] := rfl
theorem cells_snoc (l : List (Int × Int)) (a b : Int) : cells (l ++ [(a, b)]) = cells l ++ [.int .i64 a, .int .i64 b] := by simp [cells]
theorem cells_length (l : List (Int × Int)) : (cells l).length = l.length * 2 := by
  induction l with
  | nil => rfl
  | cons p l ih => simp only [cells, List.flatMap_cons, List.length_append, List.length_cons, List.length_nil] at ih ⊢; omega
theorem cells_at : ∀ (l : List (Int × Int)) (k : Nat) (h : k < l.length), (cells l)[k * 2 + 0]? = some (.int .i64 l[k].1) ∧ (cells l)[k * 2 + 1]? = some (.int .i64 l[k].2)
  | p :: l, 0, _ => by simp [cells]
  | p :: l, k + 1, h => by
    have ih := cells_at l k (by simpa using h)
    have e0 : (k + 1) * 2 + 0 = (k * 2 + 0) + 2 := by omega
    have e1 : (k + 1) * 2 + 1 = (k * 2 + 1) + 2 := by omega
    rw [e0, e1]
    simp only [cells, List.flatMap_cons, List.cons_append, List.nil_append, List.getElem?_cons_succ, List.getElem_cons_succ] at ih ⊢
    exact ih

/-- Whole: where the parts end, if they go one behind the other. -/
def whole : Int → List (Int × Int) → Option Int
  | at_, [] => some at_
  | at_, p :: l => if p.1 = at_ ∧ p.1 ≤ p.2 then whole p.2 l else none
def wholeV : Option Int → Value
  | some n => .tuple #[.int .i64 n, .bool true]
  | none => .tuple #[.int .i64 0, .bool false]

/-- Where part i of a split begins. -/
def start (total n i : Int) : Int := i * (total / n) + min i (total % n)
def parts (total : Int) (n : Nat) : List (Int × Int) := (List.range n).map fun (i : Nat) => (start total n (i : Int), start total n ((i : Int) + 1))
theorem start_zero (total n : Int) (h0 : 0 ≤ total) (hn : 0 < n) : start total n 0 = 0 := by
  have := Int.emod_nonneg total (Int.ne_of_gt hn)
  unfold start; omega
theorem start_end (total n : Int) (hn : 0 < n) : start total n n = total := by
  have h1 := Int.emod_lt_of_pos total hn
  have h2 := Int.mul_ediv_add_emod total n
  unfold start
  rw [Int.min_eq_right (by omega)]
  exact h2
theorem start_succ (total n i : Int) : start total n (i + 1) = start total n i + total / n + (if i < total % n then 1 else 0) := by
  unfold start
  have : (i + 1) * (total / n) = i * (total / n) + total / n := by rw [Int.add_mul]; omega
  split <;> omega
theorem start_le (total n i : Int) (h0 : 0 ≤ total) (hn : 0 < n) (hi : 0 ≤ i) (hin : i ≤ n) : 0 ≤ start total n i ∧ start total n i ≤ total := by
  have h1 := Int.emod_lt_of_pos total hn
  have h2 := Int.mul_ediv_add_emod total n
  have h3 := Int.emod_nonneg total (Int.ne_of_gt hn)
  have h4 : 0 ≤ total / n := Int.ediv_nonneg h0 (by omega)
  have h5 : i * (total / n) ≤ n * (total / n) := Int.mul_le_mul_of_nonneg_right hin h4
  have h6 : 0 ≤ i * (total / n) := Int.mul_nonneg hi h4
  unfold start
  constructor
  · omega
  · by_cases h : i ≤ total % n
    · have h7 : (n - i) * (total / n) ≥ 0 := Int.mul_nonneg (by omega) h4
      rw [Int.sub_mul] at h7
      omega
    · rw [Int.min_eq_right (by omega)]; omega
/-- What is left, shared among who is left: the size of part i, as the document has it. -/
theorem left_div (total n i : Int) (h0 : 0 ≤ total) (hn : 0 < n) (hi : 0 ≤ i) (hin : i < n) :
    start total n (i + 1) = start total n i + ((total - start total n i) / (n - i) + if (total - start total n i) % (n - i) = 0 then 0 else 1) := by
  have h1 := Int.emod_lt_of_pos total hn
  have h2 := Int.mul_ediv_add_emod total n
  have h3 := Int.emod_nonneg total (Int.ne_of_gt hn)
  rw [start_succ, Int.add_assoc]
  congr 1
  generalize hq : total / n = q at *
  generalize hr : total % n = r at *
  have hs : start total n i = i * q + min i r := by unfold start; rw [hq, hr]
  rw [hs]
  have hd : 0 < n - i := by omega
  by_cases hir : i < r
  · have e : total - (i * q + min i r) = (n - i) * q + (r - i) := by
      rw [Int.min_eq_left (by omega), Int.sub_mul]; omega
    rw [e, Int.add_comm ((n - i) * q), Int.add_mul_ediv_left _ _ (Int.ne_of_gt hd), Int.add_mul_emod_self_left, Int.ediv_eq_zero_of_lt (by omega) (by omega), Int.emod_eq_of_lt (by omega) (by omega)]
    rw [if_pos hir, if_neg (by omega)]
    omega
  · have e : total - (i * q + min i r) = (n - i) * q := by
      rw [Int.min_eq_right (by omega), Int.sub_mul]; omega
    rw [e, Int.mul_ediv_cancel_left _ (Int.ne_of_gt hd), Int.mul_emod_right, if_neg hir, if_pos rfl]

theorem whole_from (total : Int) (n : Nat) (h0 : 0 ≤ total) (hn : 0 < n) : ∀ k, k ≤ n → whole (start total n (n - k : Nat)) ((parts total n).drop (n - k)) = some total
  | 0, _ => by
    have : (parts total n).drop n = [] := by simp [parts]
    simp only [Nat.sub_zero, this, whole]
    rw [start_end total n (by omega)]
  | k + 1, hk => by
    have ih := whole_from total n h0 hn k (by omega)
    have hlt : n - (k + 1) < (parts total n).length := by simp [parts]; omega
    rw [List.drop_eq_getElem_cons hlt]
    have e : (parts total n)[n - (k + 1)] = (start total n (n - (k + 1) : Nat), start total n ((n - (k + 1) : Nat) + 1)) := by simp [parts]
    have hle : start total n (n - (k + 1) : Nat) ≤ start total n ((n - (k + 1) : Nat) + 1) := by
      rw [start_succ]
      have h4 : 0 ≤ total / (n : Int) := Int.ediv_nonneg h0 (by omega)
      split <;> omega
    have en : n - (k + 1) + 1 = n - k := by omega
    have ec : ((n - (k + 1) : Nat) : Int) + 1 = ((n - k : Nat) : Int) := by omega
    simp only [whole]
    rw [e, if_pos ⟨rfl, hle⟩, en]
    simp only [ec]
    exact ih
theorem whole_parts (total : Int) (n : Nat) (h0 : 0 ≤ total) (hn : 0 < n) : whole 0 (parts total n) = some total := by
  have h := whole_from total n h0 hn n (Nat.le_refl _)
  have e : ((n - n : Nat) : Int) = 0 := by omega
  rw [e, start_zero total n h0 (by omega)] at h
  simpa using h
theorem parts_take_succ (total : Int) (n k : Nat) (hk : k < n) : (parts total n).take (k + 1) = (parts total n).take k ++ [(start total n k, start total n (k + 1))] := by
  rw [List.take_succ_eq_append_getElem (by simp [parts]; omega)]
  simp [parts]
theorem parts_length (total : Int) (n : Nat) : (parts total n).length = n := by simp [parts]
end Rk
end Go.Proofs.YtbbmgcdocolakaaGreatDoor
/-
  Patterns: walks of turned, within, cmp.Or, order, Degree, far.
-/
namespace Go.Proofs.YtbbmgcdocolakaaGreatDoor
open Go.RowKit
attribute [local go_sem ↓] Go.wp_at_zero Go.wp_at_succ
set_option maxRecDepth 100000
set_option linter.unusedVariables false

theorem elemEdge : Elem Tryz.prog 61 76 (.agg #[.int .i64 0, .int .i64 0]) 2 16 := ⟨Tryz.underlying61, by kernel_rfl, rfl, by decide⟩
/-- An edge as a value. -/
def ev (e : Int × Int) : Value := .agg #[.int .i64 e.1, .int .i64 e.2]
def turnE (e : Int × Int) : Int × Int := if e.1 ≤ e.2 then e else (e.2, e.1)

def orL : List Int → Int
  | [] => 0
  | x :: l => if x = 0 then orL l else x
set_option maxHeartbeats 2000000 in
theorem Or_any (l : List Int) (A : Option Addr) (n c : Nat) (w : World) (hl : l.length = n) (hn : n ≤ 100) (hs : Sl w 1 A n (l.map (Value.int .i64))) :
    Calls Tryz.prog 84 #[.slice A n c] w fun e w' => e = .returned (.int .i64 (orL l)) ∧ w = w' := by
  have HL := Lib.hid hl
  have HS := Lib.hid hs
  clear hl hs
  go_enter Tryz.func84, Tryz.ntmps84
  go_wp2_with fail
  go_loop [8] (fun i => ∃ k : Nat, k ≤ n ∧ i = .int .i64 k ∧ orL (l.drop k) = orL l) (fun i => n - (intOf i).toNat)
  case atStart => exact ⟨0, Nat.zero_le _, rfl, rfl⟩
  case round =>
    obtain ⟨k, hk, rfl, hd⟩ := hrel
    have HD := Lib.hid hd
    clear hd
    by_cases hlt : k < n
    · have hlt' : (k : Int) < (n : Int) := by omega
      obtain ⟨x, hx⟩ : ∃ x, l[k]? = some x := ⟨_, List.getElem?_eq_getElem (by rw [HL.out]; exact hlt)⟩
      obtain ⟨b1, off1, rfl, _⟩ := HS.out.at_ (show 0 < n by omega)
      have c1 := HS.out.again hlt (show (l.map (Value.int .i64))[k]? = some (.int .i64 x) by rw [List.getElem?_map, hx]; rfl)
      have hdr : l.drop k = x :: l.drop (k + 1) := by
        obtain ⟨h1, h2⟩ := List.getElem?_eq_some_iff.1 hx
        rw [List.drop_eq_getElem_cons h1, h2]
      by_cases hx0 : x = 0
      · have HE := Lib.hid (show orL (l.drop (k + 1)) = orL l by rw [← HD.out, hdr, orL, if_pos hx0])
        clear hx hdr
        subst hx0
        go_wp2_with fail
        go_round
        case rel => exact ⟨k + 1, by omega, by go_num, HE.out⟩
        case measure => simp [intOf]; omega
      · have HE := Lib.hid (show x = orL l by rw [← HD.out, hdr, orL, if_neg hx0])
        clear hx hdr
        have hxx : (x != 0) = true := by simpa using hx0
        go_wp2_with fail
        go_ret
        exact ⟨ret_int HE.out, rfl⟩
    · obtain rfl : k = n := by omega
      have hlt' : ¬ (k : Int) < (k : Int) := by omega
      have HE := Lib.hid (show 0 = orL l by rw [← HD.out, List.drop_of_length_le (by rw [HL.out]; exact Nat.le_refl _), orL])
      go_wp2_with fail
      go_ret
      exact ⟨ret_int HE.out, rfl⟩
end Go.Proofs.YtbbmgcdocolakaaGreatDoor
namespace Go.Proofs.YtbbmgcdocolakaaGreatDoor
open Go.RowKit
attribute [local go_sem ↓] Go.wp_at_zero Go.wp_at_succ
set_option maxRecDepth 100000
set_option linter.unusedVariables false
theorem ordE_or (a b : Int × Int) : orL [cmpI a.1 b.1, cmpI a.2 b.2] = Pt.ordE a b := by
  unfold orL orL orL Pt.ordE Pt.or2
  show (if Pt.cmpI a.1 b.1 = 0 then (if Pt.cmpI a.2 b.2 = 0 then 0 else Pt.cmpI a.2 b.2) else Pt.cmpI a.1 b.1) = _
  by_cases h : Pt.cmpI a.1 b.1 = 0
  · rw [if_pos h, if_pos h]
    split <;> omega
  · rw [if_neg h, if_neg h]

theorem cell_drew (W : World) (a : Addr) : W.drew.cell? a = W.cell? a := rfl
theorem cell_new (W : World) (cs : Array Value) (e : TypeId) (i g : Nat) (hg : W.heap.size = g) : (W.alloc (.cells cs e)).cell? ⟨g, i, none⟩ = cs[i]? := by subst hg; exact World.cell?_alloc_new _ _ _ _
theorem Or_two (x y : Int) (g c : Nat) (W : World) (h0 : W.cell? ⟨g, 0, none⟩ = some (.int .i64 x)) (h1 : W.cell? ⟨g, 1, none⟩ = some (.int .i64 y)) :
    Calls Tryz.prog 84 #[.slice (some ⟨g, 0, none⟩) 2 c] W fun e w' => e = .returned (.int .i64 (orL [x, y])) ∧ W = w' :=
  Or_any [x, y] _ 2 c W rfl (by omega) ⟨rfl, fun _ => ⟨g, 0, rfl, fun j u hu => by
    match j, hu with
    | 0, hu => cases hu; exact h0
    | 1, hu => cases hu; exact h1⟩⟩

/-- An edge of a row that reads as these. -/
theorem Sl.edge {w : World} {A : Option Addr} {n k : Nat} {E : List (Int × Int)} {e : Int × Int} (h : Sl w 2 A n (Rk.cells E)) (hk : k < n) (he : E[k]? = some e) :
    ∃ b off, A = some ⟨b, off, none⟩ ∧ w.cell? ⟨b, off + k * 2, none⟩ = some (.int .i64 e.1) ∧ w.cell? ⟨b, off + k * 2 + 1, none⟩ = some (.int .i64 e.2) := by
  obtain ⟨b, off, rfl, hc⟩ := h.at_ hk
  obtain ⟨u0, e0, c0⟩ := hc 0 (by omega)
  obtain ⟨u1, e1, c1⟩ := hc 1 (by omega)
  obtain ⟨hl, he⟩ := List.getElem?_eq_some_iff.1 he
  obtain ⟨g0, g1⟩ := Rk.cells_at E k hl
  rw [g0, he] at e0
  rw [g1, he] at e1
  obtain rfl := Option.some.inj e0
  obtain rfl := Option.some.inj e1
  exact ⟨b, off, rfl, by simpa using c0, by rw [Nat.add_assoc]; exact c1⟩
theorem Sl.len2 {w : World} {A : Option Addr} {n : Nat} {E : List (Int × Int)} (h : Sl w 2 A n (Rk.cells E)) : E.length = n := by
  have h1 := h.1
  rw [Rk.cells_length] at h1
  omega

end Go.Proofs.YtbbmgcdocolakaaGreatDoor
/-
  Patterns: walks of Compare, Degree, far.
-/
namespace Go.Proofs.YtbbmgcdocolakaaGreatDoor
open Go.RowKit
attribute [local go_sem ↓] Go.wp_at_zero Go.wp_at_succ
set_option maxRecDepth 100000
set_option linter.unusedVariables false

/-- A pattern as a value. -/
abbrev pv (A : Option Addr) (n c : Nat) (B : Option Addr) (m d : Nat) : Value := .agg #[.slice A n c, .slice B m d]
theorem Or_four (x y z u : Int) (g c : Nat) (W : World) (h : ∀ i v, [Value.int .i64 x, .int .i64 y, .int .i64 z, .int .i64 u][i]? = some v → W.cell? ⟨g, i, none⟩ = some v) :
    Calls Tryz.prog 84 #[.slice (some ⟨g, 0, none⟩) 4 c] W fun e w' => e = .returned (.int .i64 (orL [x, y, z, u])) ∧ W = w' :=
  Or_any [x, y, z, u] _ 4 c W rfl (by omega) ⟨rfl, fun _ => ⟨g, 0, rfl, fun j v hv => by rw [Nat.zero_add]; exact h j v hv⟩⟩
theorem orL_four (x y z u : Int) : orL [x, y, z, u] = Pt.or2 x (Pt.or2 y (Pt.or2 z u)) := by
  unfold orL orL orL orL orL Pt.or2
  by_cases h1 : x = 0
  · rw [if_pos h1, if_pos h1]
    by_cases h2 : y = 0
    · rw [if_pos h2, if_pos h2]
      by_cases h3 : z = 0
      · rw [if_pos h3, if_pos h3]
        by_cases h4 : u = 0
        · rw [if_pos h4, h4]
        · rw [if_neg h4]
      · rw [if_neg h3, if_neg h3]
    · rw [if_neg h2, if_neg h2]
  · rw [if_neg h1, if_neg h1]
theorem cmpL_by : ∀ a b : List Int, cmpL a b = Pt.cmpBy Pt.cmpI a b
  | [], [] => rfl
  | [], _ :: _ => rfl
  | _ :: _, [] => rfl
  | x :: a, y :: b => by
    rw [cmpL, Pt.cmpBy, ← cmpL_by a b]
    unfold Pt.cmpI
    by_cases h : x < y
    · rw [if_pos h, if_pos h, if_neg (by omega)]
    · rw [if_neg h, if_neg h]
      by_cases h2 : y < x
      · rw [if_pos h2, if_pos h2, if_neg (by omega)]
      · rw [if_neg h2, if_neg h2, if_pos rfl]

end Go.Proofs.YtbbmgcdocolakaaGreatDoor
/-
  Patterns: walks of Degree, far, labels, Right.
-/
namespace Go.Proofs.YtbbmgcdocolakaaGreatDoor
open Go.RowKit
attribute [local go_sem ↓] Go.wp_at_zero Go.wp_at_succ
set_option maxRecDepth 100000
set_option linter.unusedVariables false

theorem deg_take {E : List (Int × Int)} {k : Nat} {e : Int × Int} (v : Int) (he : E[k]? = some e) : Pt.deg (E.take (k + 1)) v = Pt.deg (E.take k) v + (if e.1 = v ∨ e.2 = v then 1 else 0) := by
  obtain ⟨h1, h2⟩ := List.getElem?_eq_some_iff.1 he
  unfold Pt.deg
  rw [List.take_succ_eq_append_getElem h1, h2, List.filter_append, List.length_append]
  by_cases h : e.1 = v ∨ e.2 = v
  · rw [if_pos h]
    rcases h with h | h <;> simp [h]
  · rw [if_neg h]
    have h3 : ¬ e.1 = v := fun x => h (.inl x)
    have h4 : ¬ e.2 = v := fun x => h (.inr x)
    simp [h3, h4]
theorem deg_le (E : List (Int × Int)) (v : Int) : Pt.deg E v ≤ E.length := by
  unfold Pt.deg
  exact List.length_filter_le _ _

/-- Labels that may be. -/
def labOK (L : List Int) : Prop := L.length ≤ 8 ∧ ∀ x ∈ L, 0 ≤ x ∧ x ≤ 255
def labC (L : List Int) : Int := if 8 < L.length then 6 else 3
end Go.Proofs.YtbbmgcdocolakaaGreatDoor
/-
  Patterns: the walk of Right.
-/
namespace Go.Proofs.YtbbmgcdocolakaaGreatDoor
open Go.RowKit
attribute [local go_sem ↓] Go.wp_at_zero Go.wp_at_succ
set_option maxRecDepth 100000
set_option linter.unusedVariables false

/-- An edge at its place: it may be, and comes behind the one ahead of it. -/
def atOK (n : Nat) (E : List (Int × Int)) (i : Nat) (e : Int × Int) : Prop := Pt.EdgeOK n e ∧ ∀ f, 0 < i → E[i - 1]? = some f → Pt.ordE f e < 0
def rightP (L : List Int) (E : List (Int × Int)) : Prop := labOK L ∧ ∀ i e, E[i]? = some e → atOK L.length E i e
/-- What Right answers. -/
def RightRes (L : List Int) (E : List (Int × Int)) (w : World) (e : Ending) (w' : World) : Prop :=
  (rightP L E ∧ e = .returned .nilIface ∧ Below w.heap.size w w') ∨ (¬ rightP L E ∧ ∃ c a s v, e = .returned v ∧ (Err.flt c a s).At w' v ∧ Below w.heap.size w w' ∧ 0 < c ∧ (¬ labOK L → c = labC L))

end Go.Proofs.YtbbmgcdocolakaaGreatDoor
/-
  Patterns: walks of the statements' Of and Same.
-/
namespace Go.Proofs.YtbbmgcdocolakaaGreatDoor
open Go.RowKit
attribute [local go_sem ↓] Go.wp_at_zero Go.wp_at_succ
set_option maxRecDepth 100000
set_option linter.unusedVariables false

set_option maxHeartbeats 4000000 in
theorem Of04_any (E : List (Int × Int)) (B : Option Addr) (m d : Nat) (w : World) (hm : m ≤ 1048576) (ht : Sl w 2 B m (Rk.cells E)) :
    Calls Tryz.prog 28 #[.slice B m d] w fun e w' => ∃ v, e = .returned v ∧ w'.ownsRow w.heap.size 76 2 v m (Rk.cells E) ∧ Below w.heap.size w w' := by
  have HT := Lib.hid ht
  have HM := Lib.hid ht.len2
  clear ht
  go_enter Tryz.func28, Tryz.ntmps28
  go_wp2_with fail
  go_loopw [3, 4] (fun l i wr => ∃ k : Nat, k ≤ m ∧ i = .int .i64 k ∧ wr.ownsRow w.heap.size 76 2 l k (Rk.cells (E.take k)) ∧ Below w.heap.size w wr) (fun _ i _ => m - (intOf i).toNat)
  case atStart => exact ⟨0, Nat.zero_le _, rfl, by simpa [Rk.cells] using World.ownsRow_nil _ _ _ _, Below.refl _ _⟩
  case round =>
    obtain ⟨k, hk, rfl, hown, hb⟩ := hrel
    by_cases hlt : k < m
    · have hlt' : (k : Int) < (m : Int) := by omega
      obtain ⟨⟨x, y⟩, he⟩ : ∃ e, E[k]? = some e := ⟨_, List.getElem?_eq_getElem (by rw [HM.out]; exact hlt)⟩
      obtain ⟨b1, off1, rfl, c0, c1⟩ := (HT.out.keep hb).edge hlt he
      simp only at c0 c1
      have HE := Lib.hid (show Rk.cells (E.take (k + 1)) = Rk.cells (E.take k) ++ [.int .i64 x, .int .i64 y] by
        obtain ⟨h1, h2⟩ := List.getElem?_eq_some_iff.1 he
        rw [List.take_succ_eq_append_getElem h1, h2, Rk.cells_snoc])
      clear he
      go_wp2_with (at_builtin; refine wpList_push elemEdge _ _ rfl rfl hown hb (Nat.le_refl _) rfl rfl rfl (by simp [Value.oneCell']) (by unfold lim; omega) (by unfold lim; omega) ?_; intro v' w1 hown1 hb1)
      go_roundw
      case rel => exact ⟨k + 1, by omega, by go_num, by rw [HE.out]; exact hown1, hb1⟩
      case measure => simp [intOf]; omega
    · obtain rfl : k = m := by omega
      have hlt' : ¬ (k : Int) < (k : Int) := by omega
      have HE := Lib.hid (show E.take k = E from List.take_of_length_le (by rw [HM.out]; exact Nat.le_refl _))
      go_wp2_with fail
      go_ret
      exact ⟨_, rfl, by rw [HE.out] at hown; exact hown, hb⟩

theorem own_far2 {w : World} {B b i size n : Nat} {e : TypeId} {v : Value} {xs : List Value} (h : w.ownsRow B e size v n xs) (hb : b < B) (u : Value) : (w.setCell ⟨b, i, none⟩ u).ownsRow B e size v n xs :=
  own_block h fun g hg => Below.heap_setCell _ _ _ _ (fun e => by have h1 := (h.lt g hg).1; have h2 : g = b := e; omega)
end Go.Proofs.YtbbmgcdocolakaaGreatDoor
/-
  strconv.Itoa and strings.Join, out of the library's shelf, laid over this seat's translation.
-/
namespace Go.Proofs.YtbbmgcdocolakaaGreatDoor
open Go.Shelf Go.RowKit
set_option linter.unusedVariables false
open Go.RowKit in
open Go.RowKit in
def laysM171_ren : Go.Shelf.Ren := ⟨fun | 171 => 49 | 243 => 81 | 246 => 99 | 283 => 121 | 284 => 122 | 285 => 123 | 286 => 124 | 129 => 109 | 317 => 135 | 318 => 136 | 319 => 137 | 320 => 138 | 337 => 141 | 338 => 142 | n => n, fun | 3 => 3 | 9 => 9 | 2 => 2 | 4 => 4 | 171 => 189 | 0 => 0 | 53 => 102 | 37 => 42 | 5 => 5 | 173 => 191 | 212 => 205 | 51 => 132 | 20 => 20 | 213 => 206 | 46 => 139 | 232 => 214 | 233 => 215 | n => n, fun | 17 => 2 | 18 => 5 | 19 => 6 | n => n⟩
theorem laysM171 : Go.Proofs.LaysM.n171 Tryz.prog laysM171_ren := {
  mixed := by kernel_rfl
  f129 := Tryz.func109.trans (congrArg some (by kernel_rfl))
  f171 := Tryz.func49.trans (congrArg some (by kernel_rfl))
  f243 := Tryz.func81.trans (congrArg some (by kernel_rfl))
  f246 := Tryz.func99.trans (congrArg some (by kernel_rfl))
  f283 := Tryz.func121.trans (congrArg some (by kernel_rfl))
  f284 := Tryz.func122.trans (congrArg some (by kernel_rfl))
  f285 := Tryz.func123.trans (congrArg some (by kernel_rfl))
  f286 := Tryz.func124.trans (congrArg some (by kernel_rfl))
  f317 := Tryz.func135.trans (congrArg some (by kernel_rfl))
  f318 := Tryz.func136.trans (congrArg some (by kernel_rfl))
  f319 := Tryz.func137.trans (congrArg some (by kernel_rfl))
  f320 := Tryz.func138.trans (congrArg some (by kernel_rfl))
  f337 := Tryz.func141.trans (congrArg some (by kernel_rfl))
  f338 := Tryz.func142.trans (congrArg some (by kernel_rfl))
  t0 := Tryz.underlying0
  a0 := Tryz.isAgg0
  z0 := Tryz.sizeOf0
  v0 := Tryz.zeroValue0
  t2 := Tryz.underlying2
  a2 := Tryz.isAgg2
  z2 := Tryz.sizeOf2
  v2 := Tryz.zeroValue2
  t3 := Tryz.underlying3
  a3 := Tryz.isAgg3
  z3 := Tryz.sizeOf3
  v3 := Tryz.zeroValue3
  t4 := Tryz.underlying4
  a4 := Tryz.isAgg4
  z4 := Tryz.sizeOf4
  v4 := Tryz.zeroValue4
  t5 := Tryz.underlying5
  a5 := Tryz.isAgg5
  z5 := Tryz.sizeOf5
  v5 := Tryz.zeroValue5
  t9 := Tryz.underlying9
  a9 := Tryz.isAgg9
  z9 := Tryz.sizeOf9
  v9 := Tryz.zeroValue9
  t20 := Tryz.underlying20
  a20 := Tryz.isAgg20
  z20 := Tryz.sizeOf20
  v20 := Tryz.zeroValue20
  t37 := Tryz.underlying42
  a37 := Tryz.isAgg42
  z37 := Tryz.sizeOf42
  v37 := Tryz.zeroValue42
  t46 := Tryz.underlying139
  a46 := Tryz.isAgg139
  z46 := Tryz.sizeOf139
  v46 := Tryz.zeroValue139
  t51 := Tryz.underlying132
  a51 := Tryz.isAgg132
  z51 := Tryz.sizeOf132
  v51 := Tryz.zeroValue132
  t53 := Tryz.underlying102
  a53 := Tryz.isAgg102
  z53 := Tryz.sizeOf102
  v53 := Tryz.zeroValue102
  t171 := Tryz.underlying189
  a171 := Tryz.isAgg189
  z171 := Tryz.sizeOf189
  v171 := Tryz.zeroValue189
  t173 := Tryz.underlying191
  a173 := Tryz.isAgg191
  z173 := Tryz.sizeOf191
  v173 := Tryz.zeroValue191
  t212 := Tryz.underlying205
  a212 := Tryz.isAgg205
  z212 := Tryz.sizeOf205
  v212 := Tryz.zeroValue205
  t213 := Tryz.underlying206
  a213 := Tryz.isAgg206
  z213 := Tryz.sizeOf206
  t232 := Tryz.underlying214
  a232 := Tryz.isAgg214
  z232 := Tryz.sizeOf214
  v232 := Tryz.zeroValue214
  t233 := Tryz.underlying215
  a233 := Tryz.isAgg215
  z233 := Tryz.sizeOf215
  v233 := Tryz.zeroValue215
  g17 := by kernel_rfl
  g18 := by kernel_rfl
  g19 := by kernel_rfl
  i0 := by kernel_rfl
  i2 := by kernel_rfl
  i3 := by kernel_rfl
  i4 := by kernel_rfl
  i5 := by kernel_rfl
  i9 := by kernel_rfl
  i20 := by kernel_rfl
  i37 := by kernel_rfl
  i46 := by kernel_rfl
  i51 := by kernel_rfl
  i53 := by kernel_rfl
  i171 := by kernel_rfl
  i173 := by kernel_rfl
  i212 := by kernel_rfl
  i232 := by kernel_rfl
  i233 := by kernel_rfl
  m17 := by kernel_rfl
  m18 := by kernel_rfl
  m19 := by kernel_rfl }
open Go.RowKit Go.Sort Go.Lib in
theorem strconv_Itoa (n : Int) (h0 : -9223372036854775808 ≤ n) (h1 : n ≤ 9223372036854775807) (w : World) (htab : Lib.TabIs Tryz.prog w "internal/strconv.uint64pow10" .u64 Lib.pow10Tab) :
    Calls Tryz.prog 49 #[.int .i64 n] w fun e w' => e = .returned (.string ⟨(Lib.itoa n).toArray⟩) ∧ ∃ k os, w' = grow (w.drewN k) os := Any.strconv_Itoa laysM171 n h0 h1 w htab
end Go.Proofs.YtbbmgcdocolakaaGreatDoor
/-
  Patterns: the walk of Text.
-/
namespace Go.Proofs.YtbbmgcdocolakaaGreatDoor
open Go.RowKit
attribute [local go_sem ↓] Go.wp_at_zero Go.wp_at_succ
set_option maxRecDepth 100000
set_option linter.unusedVariables false

theorem elemStr : Elem Tryz.prog 47 9 (.string ⟨#[]⟩) 1 16 := ⟨Tryz.underlying47, by kernel_rfl, rfl, by decide⟩
/-- The table that Itoa reads. -/
def TabW (w : World) : Prop := Lib.TabIs Tryz.prog w "internal/strconv.uint64pow10" .u64 Lib.pow10Tab
theorem TabW.keep {w w' : World} (h : TabW w) (hb : Below w.heap.size w w') : TabW w' := Lib.tabBelow_of_tabIs h w' hb
def i64P (x : Int) : Prop := -9223372036854775808 ≤ x ∧ x ≤ 9223372036854775807
abbrev itoaB (x : Int) : ByteArray := ⟨(Lib.itoa x).toArray⟩
theorem Itoa_any (x : Int) (w : World) (hx : i64P x) (hT : TabW w) : Calls Tryz.prog 49 #[.int .i64 x] w fun e w' => e = .returned (.string (itoaB x)) ∧ Below w.heap.size w w' :=
  (strconv_Itoa x hx.1 hx.2 w hT).mono fun e w' ⟨h1, k, os, h2⟩ => ⟨h1, by rw [h2]; exact Lib.below_grow _ w (Nat.le_refl _) k os⟩
theorem itoaB_size (x : Int) (h : i64P x) : (itoaB x).size ≤ 21 := by
  show (Lib.itoa x).toArray.size ≤ 21
  rw [List.size_toArray]
  exact Lib.itoa_length_le x h.1 h.2
def edgeB (e : Int × Int) : ByteArray := itoaB e.1 ++ ⟨#[45]⟩ ++ itoaB e.2
def strs (l : List ByteArray) : List Value := l.map Value.string

theorem edgeB_size (e : Int × Int) (h1 : i64P e.1) (h2 : i64P e.2) : (edgeB e).size ≤ 100 := by
  have a := itoaB_size _ h1
  have b := itoaB_size _ h2
  have c : (⟨#[45]⟩ : ByteArray).size = 1 := rfl
  unfold edgeB
  rw [ByteArray.size_append, ByteArray.size_append]
  omega
def joinB (S : List ByteArray) : ByteArray := ⟨(Lib.join (S.map (·.data.toList)) [44]).toArray⟩
theorem tail_len : ∀ (r : List (List UInt8)), (∀ b ∈ r, b.length ≤ 100) → (Lib.joinTail [44] r).length ≤ r.length * 101
  | [], _ => Nat.le_refl _
  | x :: r, h => by
    have h1 := tail_len r (fun b hb => h b (List.mem_cons_of_mem _ hb))
    have h2 := h x (List.mem_cons_self ..)
    unfold Lib.joinTail at h1 ⊢
    rw [List.map_cons, List.flatten_cons, List.length_append, List.length_cons, List.length_append]
    simp only [List.length_cons, List.length_nil]
    omega
theorem join_len (r : List (List UInt8)) (h : ∀ b ∈ r, b.length ≤ 100) : (Lib.join r [44]).length ≤ r.length * 101 := by
  rcases r with _ | ⟨x, r⟩
  · exact Nat.le_refl _
  · have h1 := tail_len r (fun b hb => h b (List.mem_cons_of_mem _ hb))
    have h2 := h x (List.mem_cons_self ..)
    rw [Lib.join_cons, List.length_append, List.length_cons]
    omega
theorem dataLen (b : ByteArray) : b.data.toList.length = b.size := Array.length_toList
theorem joinB_len (S : List ByteArray) (h : ∀ b ∈ S, b.size ≤ 100) : (Lib.join (S.map (·.data.toList)) [44]).length ≤ S.length * 101 := by
  have := join_len (S.map (·.data.toList)) (fun b hb => by
    obtain ⟨x, hx, rfl⟩ := List.mem_map.1 hb
    show x.data.toList.length ≤ 100
    rw [dataLen]
    exact h x hx)
  rw [List.length_map] at this
  exact this
theorem joinB_size (S : List ByteArray) (h : ∀ b ∈ S, b.size ≤ 100) : (joinB S).size ≤ S.length * 101 := by
  show (Lib.join (S.map (·.data.toList)) [44]).toArray.size ≤ _
  rw [List.size_toArray]
  exact joinB_len S h
/-- A pattern's text. -/
def textB (L : List Int) (E : List (Int × Int)) : ByteArray := joinB (L.map itoaB) ++ ⟨#[124]⟩ ++ joinB (E.map edgeB)

end Go.Proofs.YtbbmgcdocolakaaGreatDoor
/-
  The frame where the tables of math/bits and strconv are listed beside errors.errorType; a pattern that came in.
-/
namespace Go.Proofs.YtbbmgcdocolakaaGreatDoor
open Go.ChangeShapes Go.WideShapes Go.ChangeAt Go.RowKit Go.Joins
set_option linter.unusedVariables false
set_option maxRecDepth 100000

def tabLaid : List (String × DataW Unit) := [("math/bits.deBruijn32tab", Rows.laid_math_bits_deBruijn32tab), ("math/bits.deBruijn64tab", Rows.laid_math_bits_deBruijn64tab), ("internal/strconv.uint64pow10", Rows.laid_internal_strconv_uint64pow10), ("errors.errorType", Rows.laid_errors_errorType)]
theorem tab_err : (tabLaid.filter fun x => x.1 == "errors.errorType") = errLaid := by kernel_rfl
theorem tab_pow : (tabLaid.filter fun x => x.1 == "internal/strconv.uint64pow10") = [("internal/strconv.uint64pow10", Rows.laid_internal_strconv_uint64pow10)] := by kernel_rfl
theorem pow_data : (Rows.laid_internal_strconv_uint64pow10 : DataW Unit) = Lib.tabData .u64 Lib.pow10Tab := by kernel_rfl
theorem pow_none : ([("internal/strconv.uint64pow10", (Rows.laid_internal_strconv_uint64pow10 : DataW Unit))].filter fun x => x.2.handleName?.isNone) = [("internal/strconv.uint64pow10", Rows.laid_internal_strconv_uint64pow10)] := by kernel_rfl
theorem errT_of_tab {W : World} (h : laidMetH Tryz.prog tabLaid W) : ErrT W := by
  have h1 := laidMetH.filter (fun x => x.1 == "errors.errorType") h
  rw [tab_err] at h1
  exact errT_of_laid h1
theorem tabW_of_tab {W : World} (h : laidMetH Tryz.prog tabLaid W) : TabW W := by
  have h1 := laidMetH.filter (fun x => x.1 == "internal/strconv.uint64pow10") h
  rw [tab_pow] at h1
  have h2 := (laidMetH_iff.1 h1).1
  rw [pow_none, pow_data] at h2
  exact Lib.tabIs_of_head (g := 2) (by kernel_rfl) (by kernel_rfl) Tryz.underlying205 Tryz.underlying102 (by kernel_rfl) (by kernel_rfl) h2

/-- A table's values. -/
def litsOf : DataW Unit → List Value
  | .agg ps => ps.map fun | .lit (.int k x) => .int k x | _ => .bool false
  | _ => []
/-- A world that meets the condition: the settled one, the variables' cells laid. -/
noncomputable def tabWorld (os : Os) : World :=
  { laidWorld os with heap := (((laidWorld os).heap.modify 5 fun
      | .cells _ t frozen => .cells (litsOf Rows.laid_math_bits_deBruijn32tab).toArray t frozen
      | o => o).modify 6 fun
      | .cells _ t frozen => .cells (litsOf Rows.laid_math_bits_deBruijn64tab).toArray t frozen
      | o => o).modify 2 fun
      | .cells _ t frozen => .cells (litsOf Rows.laid_internal_strconv_uint64pow10).toArray t frozen
      | o => o }
theorem tab_met (os : Os) (args : Array Value) : laidMetH Tryz.prog tabLaid ((tabWorld os).forCall (fun _ _ => 0) ⟨#[], args, []⟩).memory :=
  laidMetH_of_parts (laidMet_of_run3 30 (by kernel_rfl) (by kernel_rfl) (by kernel_rfl)) (by kernel_rfl)

section
variable {H : Type} {enc : TypeId × Value → H} {P : Program} {w : World} {base : Nat} {spare : Nat → Bool} {held : Bool}
/-- A slice of ints that came in, with the bulk. -/
theorem open_sl_ints_upto {t e : TypeId} {k : IntKind} {fuel n c B : Nat} {A : Option Addr} {x : DataW H × List MemPlace} (ht : P.underlying t = some (.slice e)) (he : P.underlying e = some (.int k)) (hs : P.cellsOf e = 1)
    (h : DataW.trod enc P w base spare held fuel t [.slice A n c] = some x) (hB : Rows.uptoBulk x.1 ≤ B) :
    n ≤ B ∧ ∃ zs : List Int, zs.length = n ∧ Sl w 1 A n (zs.map (Value.int k)) ∧ ∀ z ∈ zs, (Lit.int k z).wf = true := by
  obtain ⟨hm, _⟩ := open_sl_upto hs (by omega) ht h hB
  exact ⟨hm, (open_sl_ints ht he hs h).2⟩
/-- The shape of a slice's value. -/
theorem slice_shape {t e : TypeId} {fuel : Nat} {v : Value} {y : DataW H × List MemPlace} (ht : P.underlying t = some (.slice e)) (h : DataW.trod enc P w base spare held fuel t [v] = some y) : ∃ A n c, v = .slice A n c := by
  rcases DataW.trod_slice ht h with ⟨h4, _⟩ | ⟨A, n, c, _, _, _, _, h4, _⟩
  · injection h4 with h4 _
    exact ⟨_, _, _, h4⟩
  · injection h4 with h4 _
    exact ⟨_, _, _, h4⟩
end

section
variable {H : Type} {enc : TypeId × Value → H} {w : World} {base b0 : Nat} {spare : Nat → Bool} {held : Bool} {r : Reach}
theorem edge_fields : ∃ f0 f1 : Field, Tryz.prog.underlying 32 = some (.struct #[f0, f1]) ∧ (f0.offset = 0 ∧ f1.offset = 1) ∧ f0.type = 3 ∧ f1.type = 3 :=
  ⟨_, _, Tryz.underlying32, ⟨rfl, rfl⟩, rfl, rfl⟩
theorem pat_one : ∀ f0 f1 : Field, f0.type = 22 → f1.type = 23 → True := fun _ _ _ _ => trivial
end
end Go.Proofs.YtbbmgcdocolakaaGreatDoor
/-
  A pattern that came in, the first form: with its capacities and its numbers' bounds.
-/
namespace Go.Proofs.YtbbmgcdocolakaaGreatDoor
open Go.ChangeShapes Go.WideShapes Go.ChangeAt Go.RowKit Go.Joins
set_option linter.unusedVariables false
set_option maxRecDepth 100000

theorem wf_i64P {z : Int} (h : (Lit.int .i64 z).wf = true) : i64P z := wf_i64 h
/-- A slice that stands in a struct: its capacity. -/
theorem cap_field {P : Program} {w : World} {r : Reach} {base : Nat} {t e : TypeId} (ht : P.underlying t = some (.slice e)) {a : Option Addr} {n c : Nat} (h : Cell.okWide P w r base t (.slice a n c)) : n ≤ c ∧ c ≤ 9223372036854775807 :=
  cap_ok (r := r) (base := base) (w := w) ht (by simp only [Value.okWide, ht]; exact h)
section
variable {H : Type} {enc : TypeId × Value → H} {w : World} {base b0 : Nat} {spare : Nat → Bool} {held : Bool} {r : Reach}
end
end Go.Proofs.YtbbmgcdocolakaaGreatDoor
/-
  The closed facts of a row over a great program, in parts (each by the kernel apart).
-/
namespace Go.Proofs.YtbbmgcdocolakaaGreatDoor
open Go.ChangeShapes Go.WideShapes Go.ChangeAt Go.RowKit
set_option linter.unusedVariables false

section
variable {P : Program} {f : FuncId} {fn : Func} {s : ChangeSpec} {c : OpenClaim}
theorem joined_of (h0 : (c.wf (OpenSpec.ofChange s) && laidOutB P && mapsRowed P && fn.params.all (P.readableRec ·) && namedTie P c.named s.vars && (c.stops == []) && (P.stops == []) && (c.knobs == []) && (P.stopKnobs == [])) = true)
    (h1 : (c.inPlace == P.inPlace f) = true) (h2 : (c.unfollowed == P.unfollowed f) = true) (h3 : (c.recurses == P.recurses f) = true) (h4 : (c.named == P.varsNamed f) = true)
    (h5 : ((c.maps == (fn.params.toList ++ s.plain.varTypes P).any (P.mapsRec ·)) && (c.ifaces == (fn.params.toList ++ s.plain.varTypes P).any (P.ifacesRec ·)) && (c.mapsOut == P.mapsAmong fn.resultTypes.toList) &&
      (c.loops == (fn.params.toList ++ s.plain.varTypes P).any (P.loopsFrom ·)) && (c.wideKeys == (fn.params.toList ++ s.plain.varTypes P ++ fn.resultTypes.toList).any (P.wideKeysFrom ·)) &&
      s.vars.all (P.varReadable ·) && fn.resultTypes.all (fun t => P.readableRec t && decide (t < P.types.size)) && (c.ifacesOut == fn.resultTypes.toList.any (P.ifacesRec ·)) && (c.loopsOut == fn.resultTypes.toList.any (P.loopsFrom ·))) = true)
    (h6 : ((c.plainKeys == P.plainKeys) && c.shortTexts.isNone && P.stopsHeard && P.mayEnter && (c.lifted == P.liftsFinal) && (P.make == some c.make)) = true)
    (h7 : ((c.kinds == (if c.domain.isEmpty then [] else fn.params.toList.map fun t => match P.underlying t with | some (.int k) => some k | _ => none)) && (c.pinned == c.pinnedBy) &&
      (c.veiled == (fn.params.toList ++ s.plain.varTypes P ++ fn.resultTypes.toList).any (P.veiledRec ·)) && c.veiledFits P fn.params.toList (fn.params.toList ++ s.plain.varTypes P ++ fn.resultTypes.toList)) = true) :
    joinedFacts P f fn s c = true := by
  unfold joinedFacts
  simp only [Bool.and_eq_true] at h0 h5 h6 h7 ⊢
  obtain ⟨⟨⟨⟨⟨⟨⟨⟨a1, a2⟩, a3⟩, a4⟩, a5⟩, a6⟩, a7⟩, a8⟩, a9⟩ := h0
  obtain ⟨⟨⟨⟨⟨⟨⟨⟨b1, b2⟩, b3⟩, b4⟩, b5⟩, b6⟩, b7⟩, b8⟩, b9⟩ := h5
  obtain ⟨⟨⟨⟨⟨d1, d2⟩, d3⟩, d4⟩, d5⟩, d6⟩ := h6
  obtain ⟨⟨⟨e1, e2⟩, e3⟩, e4⟩ := h7
  exact ⟨⟨⟨⟨⟨⟨⟨⟨⟨⟨⟨⟨⟨⟨⟨⟨⟨⟨⟨⟨⟨⟨⟨⟨⟨⟨⟨⟨⟨⟨⟨a1, a2⟩, a3⟩, a4⟩, a5⟩, a6⟩, a7⟩, a8⟩, a9⟩, h1⟩, h2⟩, h3⟩, h4⟩, b1⟩, b2⟩, b3⟩, b4⟩, b5⟩, b6⟩, b7⟩, b8⟩, b9⟩, d1⟩, d2⟩, d3⟩, d4⟩, d5⟩, d6⟩, e1⟩, e2⟩, e3⟩, e4⟩
end
end Go.Proofs.YtbbmgcdocolakaaGreatDoor
