/-
  Part 8 of the proof of OdagMerge: NumT, RankN, Marks, Vals, RankO, RankT, RankQ.
-/
import Derived.Test.YtmonepclhbappaaGreatDoorOdagMergeM7
import Derived.Laws.Externs
import Derived.Test.YtmonepclhbappaaGreatDoorOdagMergeM6
import Derived.RangeFuncLeaves
import Derived.RangeFuncKeeps
import Derived.Test.YtmonepclhbappaaGreatDoorOdagMergeM4
import Derived.Test.YtmonepclhbappaaGreatDoorOdagMergeM1
import Derived.Sort.MapsRangeIn
import Derived.RangeFuncNested
import Derived.RangeFuncBound
import Derived.RangeFuncCalls
import Derived.Shelf.Abstract
import Derived.Shelf.RegionOpen
import Derived.OwnWalkIn
import Derived.TacticsInMore
import Derived.LoopNIn
import Derived.LoopIn
import Derived.Test.YtmonepclhbappaaGreatDoorOdagMergeM2
import Derived.Deep.RegionHeld3
/-
  Contracts: nums.small, Pow, Total, Least; bits.Add64.
-/
namespace Go.Proofs.YtmonepclhbappaaGreatDoor
open Go.RowKit
set_option maxRecDepth 100000
set_option linter.unusedVariables false

theorem Add64_any (x y : Nat) (w : World) :
    (callFunc 105 #[.int .u64 x, .int .u64 y, .int .u64 0]).run Tryz.prog w =
      .ok (.value (.tuple #[.int .u64 (((x + y) % 18446744073709551616 : Nat) : Int), .int .u64 (((x + y) / 18446744073709551616 : Nat) : Int)])) w := by
  rw [run_callFunc_extern Tryz.func105 (by kernel_rfl) (by kernel_rfl) (by kernel_rfl) (e := add64Entry) (by kernel_rfl), run_add64 x y 0 (by omega) (by omega) (by omega) (by omega)]
  simp only [Result.andThen]
  congr 5 <;> omega

theorem neg_one_pow (n : Nat) : (-1 : Int) ^ n = if n % 2 = 0 then 1 else -1 := by
  induction n with
  | zero => rfl
  | succ n ih =>
    rw [Int.pow_succ, ih]
    rcases Nat.mod_two_eq_zero_or_one n with h | h
    · rw [if_pos h, if_neg (by omega)]; rfl
    · rw [if_neg (by omega), if_pos (by omega)]; rfl

theorem pow_not_fit {a : Int} (h2 : 2 ≤ a.natAbs) {i n : Nat} (hin : i + 1 ≤ n) (hnf : fitB (a ^ (i + 1)) = false) : fitB (a ^ n) = false := by
  rcases Nat.eq_or_lt_of_le hin with rfl | hlt
  · exact hnf
  · obtain ⟨k, rfl⟩ : ∃ k, n = (i + 1) + (k + 1) := ⟨n - i - 2, by omega⟩
    have h1 : 9223372036854775808 ≤ (a ^ (i + 1)).natAbs := by
      have : ¬ (-9223372036854775808 ≤ a ^ (i + 1) ∧ a ^ (i + 1) ≤ 9223372036854775807) := fun h => by rw [fitB_true h] at hnf; cases hnf
      omega
    have h3 : (a ^ (i + 1 + (k + 1))).natAbs = (a ^ (i + 1)).natAbs * (a ^ (k + 1)).natAbs := by rw [Int.pow_add, Int.natAbs_mul]
    have h4 := two_pow_le h2 (k + 1)
    have h5 : 2 ≤ (a ^ (k + 1)).natAbs := Nat.le_trans (by rw [Nat.pow_succ]; have := Nat.two_pow_pos k; omega) h4
    have h6 := Nat.mul_le_mul h1 h5
    rw [← h3] at h6
    exact fitB_false (by omega)

theorem i64_cell {l : List Int} {i : Nat} (h : i < l.length) : (l.map (Value.int .i64))[i]? = some (.int .i64 l[i]) := by
  rw [List.getElem?_map, List.getElem?_eq_getElem h]; rfl
theorem Sl.i64 {w : World} {A : Option Addr} {n i : Nat} {l : List Int} (h : Sl w 1 A n (l.map (Value.int .i64))) (hl : l.length = n) (hi : i < n) : ∃ b off, A = some ⟨b, off, none⟩ ∧ w.cell? ⟨b, off + i, none⟩ = some (.int .i64 (l[i]'(by omega))) := by
  obtain ⟨b, off, u, hA, h1, h2⟩ := h.one hi
  rw [i64_cell (by omega)] at h1
  cases h1
  exact ⟨b, off, hA, h2⟩

set_option maxHeartbeats 2000000 in
theorem NumsTotal_any (l : List Int) (A : Option Addr) (n c : Nat) (w : World) (hl : l.length = n) (hn : n ≤ 1099511627776) (hr : ∀ x ∈ l, -9223372036854775808 ≤ x ∧ x ≤ 9223372036854775807) (hs : Sl w 1 A n (l.map (Value.int .i64))) :
    Calls Tryz.prog 70 #[.slice A n c] w fun e w' => ∃ ev, e = .returned (.tuple #[.int .i64 (tn (sumZ l)), ev]) ∧ (te txtSum (sumZ l)).At w' ev ∧ Below w.heap.size w w' := by
  have HS := Lib.hid hs
  have HR := Lib.hid hr
  clear hs hr
  go_enter Tryz.func70, Tryz.ntmps70
  go_wp2_with fail
  go_loopw [4, 5, 11] (fun hv lv iv wr => ∃ (k lo : Nat) (hi : Int), k ≤ n ∧ iv = .int .i64 (k : Int) ∧ lv = .int .u64 (lo : Int) ∧ hv = .int .i64 hi ∧ lo < 18446744073709551616 ∧ (-(k : Int) ≤ hi ∧ hi ≤ (k : Int)) ∧ hi * 18446744073709551616 + lo = sumZ (l.take k) ∧ wr = w) (fun _ _ iv _ => n - (intOf iv).toNat)
  case atStart => exact ⟨0, 0, 0, Nat.zero_le _, rfl, rfl, rfl, by omega, by omega, by simp [sumZ], rfl⟩
  case round =>
    obtain ⟨k, lo, hi, hk, rfl, rfl, rfl, hlo, hhi, hsum, rfl⟩ := hrel
    have HSum := Lib.hid hsum
    clear hsum
    by_cases hlt : k < n
    · have hkl : k < l.length := by omega
      obtain ⟨b, off, rfl, hc⟩ := HS.out.i64 hl hlt
      have HT := Lib.hid (sumZ_take_succ hkl)
      have hx := HR.out l[k] (List.getElem_mem hkl)
      generalize l[k] = x at *
      obtain ⟨X, hX, hX2⟩ : ∃ X : Nat, IntKind.u64.wrap x = (X : Int) ∧ X < 18446744073709551616 := ⟨(x % 18446744073709551616).toNat, by rw [IntKind.wrap_u64]; omega, by omega⟩
      have HX := Lib.hid (show (X : Int) = x - (x / 9223372036854775808) * 18446744073709551616 by rw [← hX, IntKind.wrap_u64]; omega)
      obtain ⟨lo', hlo'⟩ : ∃ lo', (lo + X) % 18446744073709551616 = lo' := ⟨_, rfl⟩
      obtain ⟨cy, hcy⟩ : ∃ cy, (lo + X) / 18446744073709551616 = cy := ⟨_, rfl⟩
      have hc1 : cy ≤ 1 := by omega
      have HC := Lib.hid (show lo + X = cy * 18446744073709551616 + lo' by omega)
      have hlo2 : lo' < 18446744073709551616 := by omega
      have hA64 := Add64_any lo X wr
      rw [hlo', hcy] at hA64
      clear hlo' hcy
      obtain ⟨s, hs⟩ : ∃ s, x / 9223372036854775808 = s := ⟨_, rfl⟩
      have hs2 : -1 ≤ s ∧ s ≤ 0 := by omega
      rw [hs] at HX
      have hlt' : (k : Int) < (n : Int) := by omega
      have hw1 : IntKind.i64.wrap (cy : Int) = (cy : Int) := by rw [IntKind.wrap_i64]; omega
      have hw2 : IntKind.i64.wrap (s + (cy : Int)) = s + (cy : Int) := by rw [IntKind.wrap_i64]; omega
      have hw3 : IntKind.i64.wrap (hi + (s + (cy : Int))) = hi + (s + (cy : Int)) := by rw [IntKind.wrap_i64]; omega
      go_wp2_with (simp only [hA64])
      go_roundw
      case rel => exact ⟨k + 1, lo', hi + (s + (cy : Int)), by omega, rfl, rfl, rfl, hlo2, by omega, by have h1 := HT.out; have h2 := HSum.out; have h3 := HC.out; have h4 := HX.out; rw [h1, ← h2]; omega, trivial⟩
      case measure => simp [intOf]; omega
    · obtain rfl : k = n := by omega
      have hlt' : ¬ (k : Int) < (k : Int) := by omega
      rw [List.take_of_length_le (by omega)] at HSum
      by_cases hz : lo < 9223372036854775808
      · have hw1 : IntKind.i64.wrap (lo : Int) = (lo : Int) := by rw [IntKind.wrap_i64]; omega
        have hd : (lo : Int) / 9223372036854775808 = 0 := by omega
        by_cases hh : hi = 0
        · subst hh
          have HF := Lib.hid (show fitB (sumZ l) = true from fitB_true (by have := HSum.out; omega))
          go_wp2_with fail
          go_ret2
          exact ⟨.nilIface, by rw [tn_fit HF.out, ← HSum.out]; simp, by rw [te_fit HF.out]; rfl, Below.refl _ _⟩
        · have hne : (hi == 0) = false := by simp; omega
          have HF := Lib.hid (show fitB (sumZ l) = false from fitB_false (by have := HSum.out; omega))
          go_wp2_with fail
          refine (Over_any txtSum _).mono ?_
          rintro e w2 ⟨ev, rfl, hv, hb2⟩
          have HV := Lib.hid hv
          clear hv
          go_wp2_with fail
          go_ret2
          exact ⟨ev, by rw [tn_not HF.out]; rfl, by rw [te_not HF.out]; exact HV.out, hb2⟩
      · obtain ⟨m, hm⟩ : ∃ m : Int, IntKind.i64.wrap (lo : Int) = m := ⟨_, rfl⟩
        have hm2 : m = (lo : Int) - 18446744073709551616 := by rw [← hm, IntKind.wrap_i64]; omega
        have hd : m / 9223372036854775808 = -1 := by omega
        by_cases hh : hi = -1
        · subst hh
          have HF := Lib.hid (show fitB (sumZ l) = true from fitB_true (by have := HSum.out; omega))
          have HM := Lib.hid hm2
          clear hm2
          go_wp2_with fail
          go_ret2
          exact ⟨.nilIface, by rw [tn_fit HF.out, ← HSum.out, show (-1 : Int) * 18446744073709551616 + (lo : Int) = m by rw [HM.out]; omega]; rfl, by rw [te_fit HF.out]; rfl, Below.refl _ _⟩
        · have hne : (hi == -1) = false := by simp; omega
          have HF := Lib.hid (show fitB (sumZ l) = false from fitB_false (by have := HSum.out; omega))
          clear hm2
          go_wp2_with fail
          refine (Over_any txtSum _).mono ?_
          rintro e w2 ⟨ev, rfl, hv, hb2⟩
          have HV := Lib.hid hv
          clear hv
          go_wp2_with fail
          go_ret2
          exact ⟨ev, by rw [tn_not HF.out]; rfl, by rw [te_not HF.out]; exact HV.out, hb2⟩

end Go.Proofs.YtmonepclhbappaaGreatDoor
/-
  Ranks: how many ways on from a number, plainly; the contract of sum, of Total.
-/
namespace Go.Proofs.YtmonepclhbappaaGreatDoor
open Go.RowKit Go.Maps
set_option maxRecDepth 100000
set_option linter.unusedVariables false

/-- The ways on from a number of the first row. -/
def tls : List Rw → Int → List (List Int)
  | [], _ => []
  | [_], a => [[a]]
  | r :: r2 :: rs, a => (lkR r a).flatMap fun b => (tls (r2 :: rs) b).map (a :: ·)
def cnt (od : List Rw) (i : Nat) (a : Int) : Int := ((tls (od.drop i) a).length : Nat)
theorem drop_one {od : List Rw} {i : Nat} (h : i + 1 = od.length) : od.drop i = [od.getD i []] := by
  rw [List.drop_eq_getElem_cons (by omega), List.drop_eq_nil_of_le (by omega), List.getD_eq_getElem?_getD, List.getElem?_eq_getElem (by omega)]
  rfl
theorem drop_two {od : List Rw} {i : Nat} (h : i + 1 < od.length) : ∃ r2 rs, od.drop i = od.getD i [] :: r2 :: rs ∧ od.drop (i + 1) = r2 :: rs := by
  refine ⟨od[i + 1], od.drop (i + 1 + 1), ?_, List.drop_eq_getElem_cons (by omega)⟩
  rw [List.drop_eq_getElem_cons (by omega), List.drop_eq_getElem_cons (i := i + 1) (by omega), List.getD_eq_getElem?_getD, List.getElem?_eq_getElem (by omega)]
  rfl
theorem cnt_last {od : List Rw} {i : Nat} (h : i + 1 = od.length) (a : Int) : cnt od i a = 1 := by unfold cnt; rw [drop_one h]; rfl
theorem len_flatMap {α β : Type} (f : α → List β) : ∀ l : List α, ((l.flatMap f).length : Int) = sumZ (l.map fun x => ((f x).length : Int))
  | [] => rfl
  | x :: l => by rw [List.flatMap_cons, List.length_append, List.map_cons, sumZ, ← len_flatMap f l]; omega
theorem cnt_step {od : List Rw} {i : Nat} (h : i + 1 < od.length) (a : Int) : cnt od i a = sumZ ((lkR (od.getD i []) a).map (cnt od (i + 1))) := by
  obtain ⟨r2, rs, h1, h2⟩ := drop_two h
  unfold cnt
  rw [h1, h2]
  show (((lkR (od.getD i []) a).flatMap fun b => (tls (r2 :: rs) b).map (a :: ·)).length : Int) = _
  rw [len_flatMap]
  simp
/-- All paths, in order. -/
def allP (od : List Rw) : List (List Int) := ((od.getD 0 []).map (·.1)).flatMap (tls od)
def totP (od : List Rw) : Int := ((allP od).length : Nat)
theorem totP_sum (od : List Rw) : totP od = sumZ (((od.getD 0 []).map (·.1)).map (cnt od 0)) := by
  unfold totP allP
  rw [len_flatMap]
  rfl
/-- Links go to numbers of the next row. -/
def Closed (od : List Rw) : Prop := ∀ i, i + 1 < od.length → ∀ q ∈ od.getD i [], ∀ b ∈ q.2, b ∈ (od.getD (i + 1) []).map (·.1)
theorem lkR_mem {r : Rw} {a b : Int} (h : b ∈ lkR r a) : ∃ q ∈ r, q.1 = a ∧ b ∈ q.2 := by
  unfold lkR at h
  cases hf : r.find? fun p => decide (p.1 = a) with
  | none => rw [hf] at h; cases h
  | some p =>
    rw [hf] at h
    exact ⟨p, List.mem_of_find?_eq_some hf, by simpa using List.find?_some hf, h⟩
/-- Few enough to be counted. -/
def Fits (od : List Rw) : Prop := (∀ i a, i < od.length → cnt od i a ≤ 4611686018427387904) ∧ totP od ≤ 4611686018427387904
theorem cnt_nn (od : List Rw) (i : Nat) (a : Int) : 0 ≤ cnt od i a := Int.natCast_nonneg _

theorem elemI64r : Elem Tryz.prog 122 2 (.int .i64 0) 1 8 := ⟨Tryz.underlying122, by kernel_rfl, rfl, by decide⟩
end Go.Proofs.YtmonepclhbappaaGreatDoor
/-
  Laws with ranges over functions: their ends, walked plainly.
-/
namespace Go.Proofs.YtmonepclhbappaaGreatDoor
open Go.RowKit
set_option linter.unusedVariables false
section
variable {F : Fence} {n : Nat} {P : Program} {fn : Func} {R : Ending → World → Prop} {a : Act} {w : World} {v : Value}
theorem mks0 (hd : a.defers = []) (hr : (results fn a.tmps).run P w = .ok v w) (hR : R (.returned v) w) : bodyPostM F n P fn R .ret a w := by
  show LeavesInM F n P fn a.tmps R a.defers .returning w
  rw [hd]
  exact ⟨v, hr, hR⟩
theorem mks1 {D : Nat} (hd : a.defers = [{ target := .collected D, args := #[] }]) (hK : w.heap[D]? = some (.deferred (some [])))
    (hr : (results fn a.tmps).run P (w.putObj D (.deferred none)) = .ok v (w.putObj D (.deferred none))) (hR : R (.returned v) (w.putObj D (.deferred none))) : bodyPostM F n P fn R .ret a w := by
  show LeavesInM F n P fn a.tmps R a.defers .returning w
  rw [hd]
  exact ⟨by simp, .inl ⟨_, _, rfl, run_takeDeferred hK, v, hr, hR⟩⟩
theorem mks2 {D E : Nat} (hd : a.defers = [{ target := .collected E, args := #[] }, { target := .collected D, args := #[] }]) (hE : w.heap[E]? = some (.deferred (some []))) (hD : (w.putObj E (.deferred none)).heap[D]? = some (.deferred (some [])))
    (hr : (results fn a.tmps).run P ((w.putObj E (.deferred none)).putObj D (.deferred none)) = .ok v ((w.putObj E (.deferred none)).putObj D (.deferred none))) (hR : R (.returned v) ((w.putObj E (.deferred none)).putObj D (.deferred none))) : bodyPostM F n P fn R .ret a w := by
  show LeavesInM F n P fn a.tmps R a.defers .returning w
  rw [hd]
  exact ⟨by simp, .inl ⟨_, _, rfl, run_takeDeferred hE, by simp, .inl ⟨_, _, rfl, run_takeDeferred hD, v, hr, hR⟩⟩⟩
end
/-- The marks' blocks are shut, one after the other. -/
def shutM (Ds : List Nat) (w : World) : World := Ds.foldl (fun w D => w.putObj D (.deferred none)) w
theorem leavesM {F : Fence} {n : Nat} {P : Program} {fn : Func} {tmps : Array Value} {R : Ending → World → Prop} {v : Value} : ∀ (Ds : List Nat) (w : World), (∀ D ∈ Ds, w.heap[D]? = some (.deferred (some []))) → Ds.Nodup →
    (results fn tmps).run P (shutM Ds w) = .ok v (shutM Ds w) → R (.returned v) (shutM Ds w) → LeavesInM F n P fn tmps R (Ds.map fun D => { target := .collected D, args := #[] }) .returning w
  | [], w, _, _, hr, hR => ⟨v, hr, hR⟩
  | D :: Ds, w, hK, hn, hr, hR => by
    have hn' := List.nodup_cons.1 hn
    refine ⟨by simp, .inl ⟨_, _, rfl, run_takeDeferred (hK D (List.mem_cons_self ..)), ?_⟩⟩
    refine leavesM Ds (w.putObj D (.deferred none)) (fun D' hD' => ?_) hn'.2 hr hR
    exact (World.putObj_heap_other (fun e => hn'.1 (by rw [← e]; exact hD'))).trans (hK D' (List.mem_cons_of_mem _ hD'))
theorem shutM_blk {B : Nat} {t : TypeId} {u : Array Value} : ∀ (Ds : List Nat) (w : World), (∀ D ∈ Ds, w.heap[D]? = some (.deferred (some []))) → Ds.Nodup → Blk w B t u → Blk (shutM Ds w) B t u
  | [], _, _, _, h => h
  | D :: Ds, w, hK, hn, h => by
    have hn' := List.nodup_cons.1 hn
    refine shutM_blk Ds (w.putObj D (.deferred none)) (fun D' hD' => (World.putObj_heap_other (fun e => hn'.1 (by rw [← e]; exact hD'))).trans (hK D' (List.mem_cons_of_mem _ hD'))) hn'.2 (h.grown (grownBy_putObj' _ _ _) (fun e => ?_))
    cases e
    have h2 := hK B (List.mem_cons_self ..)
    rw [show w.heap[B]? = _ from h] at h2
    cases h2
theorem shutM_below {w0 : World} : ∀ (Ds : List Nat) (w : World), (∀ D ∈ Ds, w.heap[D]? = some (.deferred (some []))) → Ds.Nodup → (∀ D ∈ Ds, w0.heap.size ≤ D) → Below w0.heap.size w0 w → Below w0.heap.size w0 (shutM Ds w)
  | [], _, _, _, _, h => h
  | D :: Ds, w, hK, hn, hD, h => by
    have hn' := List.nodup_cons.1 hn
    exact shutM_below Ds (w.putObj D (.deferred none)) (fun D' hD' => (World.putObj_heap_other (fun e => hn'.1 (by rw [← e]; exact hD'))).trans (hK D' (List.mem_cons_of_mem _ hD'))) hn'.2 (fun D' h' => hD D' (List.mem_cons_of_mem _ h')) (h.trans (belowK_b (w := w0) (Nat.le_refl _) w D _ _ (hD D (List.mem_cons_self ..)) (hK D (List.mem_cons_self ..)) rfl rfl))
/-- A law's end behind ranges over functions: the result's block holds true, the marks' blocks are shut. -/
theorem law_end {k : Nat} {P : Program} {fn : Func} {a : Act} {w W : World} (Ds : List Nat) {t : TypeId} {v0 : Value} (hres : ∀ V : World, V.cell? ⟨w.heap.size, 0, none⟩ = some (.bool true) → (results fn a.tmps).run P V = .ok (.bool true) V) (hd : a.defers = Ds.map fun D => { target := .collected D, args := #[] }) (hK : ∀ D ∈ Ds, W.heap[D]? = some (.deferred (some []))) (hn : Ds.Nodup)
    (hr : Blk W w.heap.size t #[v0]) (hb : Below w.heap.size w W) (hD : ∀ D ∈ Ds, w.heap.size ≤ D) :
    bodyPostM Fence.wide k P fn (fun e w' => e = .returned (.bool true) ∧ Below w.heap.size w w') .ret a (W.setCell ⟨w.heap.size, 0, none⟩ (.bool true)) := by
  show LeavesInM _ _ _ _ _ _ a.defers .returning _
  rw [hd]
  have hK2 : ∀ D ∈ Ds, (W.setCell ⟨w.heap.size, 0, none⟩ (.bool true)).heap[D]? = some (.deferred (some [])) := fun D h => (KeepsOthers.setCell _ _ _).same D _ (hK D h) rfl
  have hE := (shutM_blk Ds _ hK2 hn (hr.set_ 0 (.bool true))).cell 0
  simp at hE
  exact leavesM Ds _ hK2 hn (v := .bool true) (hres _ hE) ⟨rfl, shutM_below Ds _ hK2 hn hD (hb.setCell (p := ⟨w.heap.size, 0, none⟩) (Nat.le_refl _) _)⟩
/-- A part of the code that ends in its normal way alone. -/
theorem wp_thenF {P : Program} {c : Code} {K : Act → World → Prop} {Q : Exit → Act → World → Prop} {a : Act} {w : World} (h : c.wp P (Exit.then K fun _ _ _ => False) a w) : c.wp P (Exit.then K Q) a w :=
  wp_mono h (by intro e a w h; cases e <;> first | exact h | exact h.elim)
end Go.Proofs.YtmonepclhbappaaGreatDoor
/-
  Maps keyed by ints: the words of a range, in a fence; maps.Values at map[int]int64; slices.AppendSeq, slices.Collect at int64.
-/
namespace Go.Proofs.YtmonepclhbappaaGreatDoor
open Go.RowKit Go.Maps Go.Shelf
attribute [local go_sem] Oper.semAt_some
set_option maxRecDepth 100000
set_option linter.unusedVariables false
section
variable {F : Fence} {n : Nat} {P : Program} (w : World) {ops : Array Oper} {rest : List Oper} {o : Oper} {a : Act} {Q : Exit → Act → World → Prop} {kT : TypeId}
/-- 'range m'. -/
theorem wpListIn_rangeI (hg : o.guard = none) (m : Operand) (t : TypeId) (hop : o.op = Op.range t m) (e : TypeId) (hk : P.underlying kT = some (.int .i64)) (ht : P.underlying t = some (.map kT e)) (b : Nat) (es : List (Int × Value))
    (hm : a.eval m = .map (some b)) (hown : MapI P kT w b es)
    (hK : ∀ w', RangesI P kT w' b w.heap.size es [] → w.grownBy w' none → w'.heap.size = w.heap.size + 1 → wpListIn F n P ops Q rest (a.put o.dst (.pointer (some ⟨w.heap.size, 0, none⟩))) w') :
    wpListIn F n P ops Q (o :: rest) a w := by
  refine wpListIn_range_own w hg m t hop kT e (int_keyed hk) ht rawR b es.length (asD es) hm hown fun w' h1 h2 h3 => hK w' ⟨_, _, h1, (fun p hp => ?_), (fun p hp => absurd hp (by simp)), List.nodup_nil⟩ h2 h3
  rw [has_asD, atI_of_mem (MapI.inc hk hown) hp]
  simp

/-- The step. -/
theorem wpListIn_nextI (hg : o.guard = none) (it : Operand) (hop : o.op = Op.next it false) (hk : P.underlying kT = some (.int .i64)) (b r : Nat) (es done : List (Int × Value))
    (hit : a.eval it = .pointer (some ⟨r, 0, none⟩)) (h : RangesI P kT w b r es done)
    (hDone : done.Perm es → wpListIn F n P ops Q rest (a.put o.dst (.tuple #[.bool false])) w)
    (hMore : ∀ (p : Int × Value) (w' : World), p ∈ es → p ∉ done → RangesI P kT w' b r es (done ++ [p]) → w'.rangeLeft b r < w.rangeLeft b r → w.grownBy w' (some r) → w'.heap.size = w.heap.size →
      (Instr.entry (.pointer (some ⟨r, 0, none⟩))).run P w' = .ok (.tuple #[.int .i64 p.1, p.2]) w' → wpListIn F n P ops Q rest (a.put o.dst (.tuple #[.bool true, .int .i64 p.1, p.2])) w') :
    wpListIn F n P ops Q (o :: rest) a w := by
  have hI := h.map.inc hk
  have hperm := fun hall => h.done_perm hk hall
  obtain ⟨left, cnt, hrg, hleft, hsub, hnd⟩ := h
  refine wpListIn_next_ranges w hg it hop kT (int_keyed hk) rawR (Value.int .i64) id (fun key kl hkey => by obtain ⟨x, rfl, _⟩ := Maps.keyOf_int_inv hk hkey; exact ⟨x, rfl⟩) (fun v y hv => ⟨v, rfl⟩) b r es.length (asD es) left cnt hit hrg (fun _ hl => hDone (hperm fun p hp => ?_)) (fun x c kl y w' cnt' hkey hlk hv hat hrg' hlt hgr hsz hen => ?_)
  · have := hleft p hp
    rw [hl] at this
    simpa using this
  · obtain ⟨x', ex, rfl, hwx⟩ := Maps.keyOf_int_inv hk hkey
    cases ex
    have hhas : (atI es x).isSome = true := by rw [← has_asD]; exact Maps.has_true_of_atKey hat
    obtain ⟨v, hv'⟩ := Option.isSome_iff_exists.1 hhas
    have hc : c = v := by
      have h1 := hat (.held (.bool false))
      rw [atKey_asD, hv'] at h1
      have h2 := (Prod.mk.inj (Option.some.inj hv)).1
      rw [← h1] at h2
      exact DataW.held.inj h2
    subst hc
    have hp := atI_mem hv'
    have hnot : (x, c) ∉ done := fun hm => by
      exact (hleft _ hp).1 hlk hm
    refine hMore (x, c) w' hp hnot ⟨_, cnt', hrg', fun p hp' => ?_, fun p hp' => ?_, ?_⟩ (by rw [hrg'.left_eq, hrg.left_eq]; exact hlt) hgr hsz hen
    · show (left (.int .i64 p.1) && !(Lit.int .i64 p.1).sameKey (.int .i64 x)) = true ↔ _
      rw [Bool.and_eq_true, hleft p hp']
      by_cases hpx : p.1 = x
      · obtain rfl := inc_key hI hp' hp hpx
        simp [Lit.sameKey]
      · have hne : p ≠ (x, c) := fun e => hpx (by rw [e])
        simp [Lit.sameKey, hpx, hne]
    · rcases List.mem_append.1 hp' with h1 | h1
      · exact hsub p h1
      · obtain rfl := List.mem_singleton.1 h1
        exact hp
    · rw [List.nodup_append]
      exact ⟨hnd, by simp, fun p hp1 q hq => by obtain rfl := List.mem_singleton.1 hq; exact fun e => hnot (e ▸ hp1)⟩
end

/-- A map of int64s plainly. -/
abbrev Rv := List (Int × Int)
def ev (p : Int × Int) : Int × Value := (p.1, .int .i64 p.2)
abbrev MapV (w : World) (b : Nat) (r : Rv) : Prop := MapI Tryz.prog 3 w b (r.map ev)
def valI : Value → Int
  | .int _ x => x
  | _ => 0
def donV (d : List (Int × Value)) : List Int := d.map fun p => valI p.2
theorem rng_walk {P : Program} {kT : TypeId} {w : World} {b r : Nat} {es done : List (Int × Value)} (h : RangesI P kT w b r es done) : ∃ o : Obj, w.heap[r]? = some o ∧ o.isWalk = true := by
  obtain ⟨left, cnt, h1, _⟩ := h
  exact h1.iter_walk
theorem rngI_walks {P : Program} {kT : TypeId} {w w' : World} {b r : Nat} {es done : List (Int × Value)} (h : RangesI P kT w b r es done) (hk : KeepsWalks w w') : RangesI P kT w' b r es done := by
  obtain ⟨left, cnt, h1, h2⟩ := h
  have hw := h1.iter_walk
  obtain ⟨es', clock, since, seen, c0, g1, F, hs, hD, g2, rest⟩ := h1
  refine ⟨left, cnt, ⟨es', clock, since, seen, c0, hk.same _ _ g1 rfl, F, hs, hD, ?_, rest⟩, h2⟩
  exact hk.same _ _ g2 rfl
open Classical in
theorem sub_lenC {α : Type} : ∀ (a b : List α), a.Nodup → (∀ x ∈ a, x ∈ b) → a.length ≤ b.length
  | [], b, _, _ => Nat.zero_le _
  | x :: a, b, hn, h => by
    obtain ⟨h1, h2⟩ := List.nodup_cons.1 hn
    have hx := h x (List.mem_cons_self ..)
    have h3 := sub_lenC a (b.erase x) h2 fun y hy => (List.mem_erase_of_ne (fun e => h1 (by rw [← e]; exact hy))).2 (h y (List.mem_cons_of_mem _ hy))
    rw [List.length_erase_of_mem hx] at h3
    have : 0 < b.length := List.length_pos_of_mem hx
    rw [List.length_cons]
    omega
theorem done_le {P : Program} {kT : TypeId} {w : World} {b r : Nat} {es done : List (Int × Value)} (h : RangesI P kT w b r es done) : done.length ≤ es.length := by
  obtain ⟨left, cnt, _, _, h3, h4⟩ := h
  exact sub_lenC _ _ h4 fun p hp => h3 p hp

set_option maxHeartbeats 4000000 in
theorem values64_gives (d Bm mb : Nat) (hd : 1 ≤ d) (r : Rv) (w : World) (hB : w.cell? ⟨Bm, 0, none⟩ = some (.map (some mb))) (hBl : Bm < w.heap.size) (hm : MapV w mb r) :
    GivesKnown Fence.wide d Tryz.prog 108 #[.pointer (some ⟨Bm, 0, none⟩)] (fun x : Int => #[.int .i64 x]) (fun _ _ _ => True) (fun _ => KeepsWalks) (fun xs => xs.Perm (r.map (·.2))) (fun _ => True) r.length w := by
  intro l J Jx W hW hJ hJx hY h0
  have cm : W.cell? ⟨Bm, 0, none⟩ = some (.map (some mb)) := (hW.cell (p := ⟨Bm, 0, none⟩) hBl).trans hB
  have hM := MapI.keep hm hW
  have HM := Lib.hid hM
  have HY := Lib.hid hY
  have HJ := Lib.hid hJ
  have H0 := Lib.hid h0
  clear hW hB hM hY hJ h0 hm hJx
  refine callsIn_of_wp Tryz.func108 rfl trivial ?_ rfl
  simp only [Tryz.ntmps108, List.size_toArray, List.length_cons, List.length_nil, Nat.reduceAdd, Nat.reduceSub, Array.replicate_succ, Array.replicate_zero, List.push_toArray, List.append_toArray, List.nil_append, List.cons_append]
  gi_wp2_with (gi_at_range; refine wpListIn_rangeI _ rfl _ _ rfl 2 kInt Tryz.underlying121 mb _ rfl HM.out ?_; intro w0 hrg0 hg0 hs0; have HR0 := Lib.hid hrg0; have HG0 := Lib.hid hg0; clear hrg0 hg0 hs0)
  have HJ0 := Lib.hid (HJ.out [] W w0 none H0.out HG0.out (fun r e => by cases e))
  clear H0
  obtain ⟨it, hit⟩ : ∃ it, it = W.heap.size := ⟨_, rfl⟩
  rw [← hit] at HR0 ⊢
  have HIt := Lib.hid hit
  clear hit
  gi_loopw [] (fun wr => ∃ done : List (Int × Value), Hid (RangesI Tryz.prog 3 wr mb it (r.map ev) done) ∧ Hid (J (donV done) wr)) (fun wr => wr.rangeLeft mb it)
  case atStart => exact ⟨[], HR0, HJ0⟩
  case round =>
    obtain ⟨done, HRg, HJd⟩ := hrel
    gi_wp2_with (gi_at_next; refine wpListIn_nextI _ rfl _ rfl kInt mb it _ done rfl HRg.out ?_ ?_)
    · intro hperm
      have HPm := Lib.hid hperm
      clear hperm
      gi_wp2
      go_end0
      refine ⟨⟨_, rfl⟩, .inl ⟨donV done, ?_, HJd.out⟩⟩
      have h := HPm.out.map fun p : Int × Value => valI p.2
      rw [List.map_map] at h
      exact h
    · intro x c w2 qa qb hq hqe hpd hrg2 hlt2 hg2 hs2 hen
      obtain ⟨rfl, rfl⟩ : qa = x ∧ Value.int .i64 qb = c := by unfold ev at hqe; exact Prod.mk.inj hqe
      clear hqe
      have HJ2 := Lib.hid (HJ.out _ _ _ (some it) HJd.out hg2 (fun r e => by cases e; exact ⟨by have := HIt.out; omega, rng_walk HRg.out⟩))
      have hle := done_le hrg2
      rw [List.length_append, List.length_map] at hle
      have hyl : (donV done).length < r.length := by unfold donV; rw [List.length_map]; simp at hle; omega
      obtain ⟨fn, tmps, assign, body, hy, hR⟩ := HY.out (donV done) qb w2 HJ2.out trivial hyl
      have hdv : donV (done ++ [ev (qa, qb)]) = donV done ++ [qb] := by unfold donV; rw [List.map_append]; rfl
      rw [← hdv] at hR
      have HRr := Lib.hid hR
      have HRg2 := Lib.hid hrg2
      have HLt := Lib.hid hlt2
      clear hR hrg2 hlt2 hq hpd hg2 hs2 hle hyl hdv
      gi_wp2_with ((try refine ⟨fun h => (by cases h), ?_⟩); refine HRr.out.mono ?_; clear HRr; rintro e W3 (⟨rfl, hJ3, hk3⟩ | ⟨rfl, hx3⟩))
      · have HJ3 := Lib.hid hJ3
        have HR3 := Lib.hid (rngI_walks HRg2.out hk3)
        have HK3 := Lib.hid hk3
        clear hJ3 hk3 hy hen
        go_roundw
        case rel => exact ⟨done ++ [ev (qa, qb)], HR3, HJ3⟩
        case measure =>
          obtain ⟨left, cnt, h1, _⟩ := HRg2.out
          have h2 := h1.of_walks HK3.out
          rw [h2.left_eq, ← h1.left_eq]
          exact HLt.out
      · refine bodyPost_ret (results_none rfl _ _ _) rfl ?_
        exact ⟨⟨_, rfl⟩, .inr ⟨_, trivial, hx3⟩⟩
theorem Values64_any (mb : Option Nat) (w : World) : Calls Tryz.prog 72 #[.map mb] w fun e w' => e = .returned (.func (.func 108) #[] #[.pointer (some ⟨w.heap.size, 0, none⟩)]) ∧ w' = w.alloc (.cells #[.map mb] 121) := by
  go_enter Tryz.func72, Tryz.ntmps72
  go_wp2_with fail
  go_ret
  exact ⟨rfl, rfl⟩

set_option maxHeartbeats 4000000 in
theorem AppendSeq64_any (r : Rv) (Bm mb : Nat) (w : World) (hB : w.cell? ⟨Bm, 0, none⟩ = some (.map (some mb))) (hBl : Bm < w.heap.size) (hm : MapV w mb r) (hn : r.length ≤ 1048576) :
    Calls Tryz.prog 107 #[.slice none 0 0, .func (.func 108) #[] #[.pointer (some ⟨Bm, 0, none⟩)]] w fun e w' => ∃ (v : Value) (xs : List Int), e = .returned v ∧ xs.Perm (r.map (·.2)) ∧ w'.ownsRow w.heap.size 2 1 v xs.length (xs.map (Value.int .i64)) ∧ Below w.heap.size w w' := by
  refine (callsIn_wide (n := 5)).1 ?_
  refine callsIn_of_wp_marks Tryz.func107 rfl trivial ?_ rfl
  simp only [Tryz.ntmps107, List.size_toArray, List.length_cons, List.length_nil, Nat.reduceAdd, Nat.reduceSub, Array.replicate_succ, Array.replicate_zero, List.push_toArray, List.append_toArray, List.nil_append, List.cons_append]
  gi_wp2
  have hw1 : (w.alloc (.cells #[.slice none 0 0] 122)).heap.size = w.heap.size + 1 := by simp
  have hb1 := bel_al (Below.refl w.heap.size w) (.cells #[.slice none 0 0] 122)
  have hgv := values64_gives (5 - 1) Bm mb (by omega) r _ ((hb1.cell (p := ⟨Bm, 0, none⟩) hBl).trans hB) (by rw [hw1]; omega) (MapI.keep hm hb1)
  obtain ⟨i0, hi, hz0, hz1, hz2⟩ := info_parts elemI64r.hi
  refine rangeFunc_one (fun x b => { b with tmps := b.tmps.setIfInBounds 5 (.int .i64 x) }) rfl (by omega) (gf := 108) (lb := #[.pointer (some ⟨Bm, 0, none⟩)]) rfl trivial (enters_of Tryz.func108 (by kernel_rfl) rfl)
    hgv (fun pre x W l o o' hl ho h => trivial) (fun h k => h.trans k) (fun _ W l o o' _ hl ho hw => KeepsWalks.putObj _ hl hw) (Below.refl _ _)
    (fun pre W => (∃ v, Boxed W w.heap.size 122 v ∧ W.ownsRow w.heap.size 2 1 v pre.length (pre.map (Value.int .i64)) ∧ True) ∧ Below w.heap.size w W) (fun _ _ _ => False)
    (OwnFrom.and (Own.from (holdsRow_own w.heap.size w.heap.size 122 2 1 (fun pre : List Int => pre.length) (fun pre => pre.map (Value.int .i64)) (fun _ _ => True)) _) (ownFrom_below (Nat.le_refl _) (by rw [hw1]; omega)))
    (fun c s A B row hs _ _ => hs.elim) ⟨⟨_, Boxed.new _ _ _, World.ownsRow_nil _ _ _ _, trivial⟩, hb1⟩ ?assign ?body ?done ?stop
  case assign =>
    intro l x W K hK
    gi_wp2
    exact hK
  case body =>
    rintro lp pre x W ⟨⟨v, hv, hrow, _⟩, hB2⟩ hx hlt
    have hc := hv.cell
    have HV := Lib.hid hv
    have HR := Lib.hid hrow
    have HB := Lib.hid hB2
    clear hv hrow hB2 hgv
    gi_wp2_with (gi_at_builtin; refine wpListIn_append_own _ rfl _ _ 122 rfl w.heap.size 2 i0 (.int .i64 0) 1 8 Tryz.underlying122 hi hz0 hz1 hz2 rfl (by decide) _ _ _ rfl (HR.out.alloc _) ⟨W.heap.size, 0, none⟩ 1 1 [.int .i64 x] rfl rfl (cell_one_new _ _ _) (by simp [Value.oneCell']) (by unfold maxLen; omega) (by omega) (by have := HB.out.size; simp; omega) ?_; intro v' w1 hown' hgrow _; obtain ⟨g', cap', rfl⟩ := ownsRow_succ hown'; obtain ⟨hv1, hv2, hr2, hk2, hb2⟩ := HV.out.appended (by decide) HR.out HB.out.size (Nat.le_refl _) hown' hgrow; have hc1 := hv1.cell; have hf1 := hv1.frozen)
    refine ⟨hk2, hk2.walks, ⟨_, hv2, ?_, trivial⟩, HB.out.trans hb2⟩
    rw [List.length_append, List.map_append]
    exact hr2
  case done =>
    rintro D xs W hD hS ⟨⟨v, hv, hrow, _⟩, hB2⟩ hK
    have hc := hv.cell
    rw [hw1] at hD
    gi_wp2
    refine ⟨by simp, .inl ⟨_, _, rfl, run_takeDeferred hK, ?_⟩⟩
    refine ⟨_, results_tmp rfl _ _ _, _, xs, rfl, hS, ?_, hB2.trans (belowK_b (w := w) (Nat.le_refl _) W D _ _ (by omega) hK rfl rfl)⟩
    exact ownsRow_putObj hrow _ hK rfl
  case stop =>
    rintro D c pre W _ _ h _
    exact h.elim

theorem Collect64_any (r : Rv) (Bm mb : Nat) (w : World) (hB : w.cell? ⟨Bm, 0, none⟩ = some (.map (some mb))) (hBl : Bm < w.heap.size) (hm : MapV w mb r) (hn : r.length ≤ 1048576) :
    Calls Tryz.prog 71 #[.func (.func 108) #[] #[.pointer (some ⟨Bm, 0, none⟩)]] w fun e w' => ∃ (v : Value) (xs : List Int), e = .returned v ∧ xs.Perm (r.map (·.2)) ∧ w'.ownsRow w.heap.size 2 1 v xs.length (xs.map (Value.int .i64)) ∧ Below w.heap.size w w' := by
  have HC := Lib.hid (AppendSeq64_any r Bm mb w hB hBl hm hn)
  clear hB hBl hm hn
  go_enter Tryz.func71, Tryz.ntmps71
  go_wp2_with fail
  refine HC.out.mono ?_
  rintro e w' ⟨v, xs, rfl, hp, hown, hb⟩
  have HP := Lib.hid hp
  have HO := Lib.hid hown
  have HB := Lib.hid hb
  clear hp hown hb
  go_wp2_with fail
  go_ret
  exact ⟨v, xs, rfl, HP.out, HO.out, HB.out⟩
end Go.Proofs.YtmonepclhbappaaGreatDoor
/-
  Ranks: the contract of Of.
-/
namespace Go.Proofs.YtmonepclhbappaaGreatDoor
open Go.RowKit Go.Maps
set_option maxRecDepth 100000
set_option linter.unusedVariables false

def Nums (od : List Rw) : Prop := ∀ r ∈ od, ∀ q ∈ r, numOK q.1 ∧ ∀ b ∈ q.2, numOK b
theorem numOK.ok {x : Int} (h : numOK x) : i64ok x := ⟨by have := h.1; omega, by have := h.2; omega⟩
theorem getD_memO {od : List Rw} {i : Nat} (h : i < od.length) : od.getD i [] ∈ od := by rw [List.getD_eq_getElem?_getD, List.getElem?_eq_getElem h]; exact List.getElem_mem h
theorem Nums.key {od : List Rw} (h : Nums od) {i : Nat} (hi : i < od.length) {a : Int} (ha : a ∈ (od.getD i []).map (·.1)) : i64ok a := by
  obtain ⟨q, hq, rfl⟩ := List.mem_map.1 ha
  exact (h _ (getD_memO hi) q hq).1.ok
theorem Nums.link {od : List Rw} (h : Nums od) {i : Nat} (hi : i < od.length) {a b : Int} (hb : b ∈ lkR (od.getD i []) a) : i64ok b := by
  obtain ⟨q, hq, _, hb⟩ := lkR_mem hb
  exact ((h _ (getD_memO hi) q hq).2 b hb).ok
theorem Closed.link {od : List Rw} (h : Closed od) {i : Nat} (hi : i + 1 < od.length) {a b : Int} (hb : b ∈ lkR (od.getD i []) a) : b ∈ (od.getD (i + 1) []).map (·.1) := by
  obtain ⟨q, hq, _, hb⟩ := lkR_mem hb
  exact h i hi q hq b hb
theorem fit_nn {z : Int} (h0 : 0 ≤ z) (h1 : z ≤ 4611686018427387904) : fitB z = true := by
  unfold fitB
  simp
  omega
theorem keysAt_in {od : List Rw} {i : Nat} (h : i < od.length) : keysAt od (i : Int) = (od.getD i []).map (·.1) := if_pos (by omega)
theorem linksAt_in {od : List Rw} {i : Nat} (h : i < od.length) (a : Int) : linksAt od (i : Int) a = lkR (od.getD i []) a := if_pos (by omega)

/-- Rows behind i are done, of row i the first k numbers. -/
def Don (od : List Rw) (f : Int → Int → Int) (i k : Nat) : Prop :=
  (∀ (j : Nat) (a : Int), i < j → j < od.length → a ∈ (od.getD j []).map (·.1) → f j a = cnt od j a) ∧ ∀ a ∈ ((od.getD i []).map (·.1)).take k, f i a = cnt od i a
theorem Don.step {od : List Rw} {f : Int → Int → Int} {i k : Nat} {a : Int} (h : Don od f i k) (ha : ((od.getD i []).map (·.1))[k]? = some a) : Don od (updF f i a (cnt od i a)) i (k + 1) := by
  refine ⟨fun j b hj hn hb => ?_, fun b hb => ?_⟩
  · unfold updF
    rw [if_neg (by omega)]
    exact h.1 j b hj hn hb
  · unfold updF
    by_cases hba : b = a
    · subst hba
      rw [if_pos ⟨rfl, rfl⟩]
    · rw [if_neg (fun e => hba e.2)]
      refine h.2 b ?_
      obtain ⟨e1, e2⟩ := List.getElem?_eq_some_iff.1 ha
      rw [List.take_succ_eq_append_getElem e1, e2] at hb
      rcases List.mem_append.1 hb with hb | hb
      · exact hb
      · exact absurd (List.mem_singleton.1 hb) hba
def DonR (od : List Rw) (f : Int → Int → Int) (t : Nat) : Prop := ∀ (j : Nat) (a : Int), t ≤ j → j < od.length → a ∈ (od.getD j []).map (·.1) → f j a = cnt od j a
theorem DonR.don {od : List Rw} {f : Int → Int → Int} {i : Nat} (h : DonR od f (i + 1)) : Don od f i 0 := ⟨fun j a hj => h j a hj, fun a ha => by cases ha⟩
theorem Don.donR {od : List Rw} {f : Int → Int → Int} {i k : Nat} (h : Don od f i k) (hk : ((od.getD i []).map (·.1)).length ≤ k) : DonR od f i := fun j a hj hn ha => by
  by_cases e : i = j
  · subst e
    exact h.2 a (by rw [List.take_of_length_le hk]; exact ha)
  · exact h.1 j a (by omega) hn ha

end Go.Proofs.YtmonepclhbappaaGreatDoor
/-
  Ranks: the contracts of next, At.
-/
namespace Go.Proofs.YtmonepclhbappaaGreatDoor
open Go.RowKit Go.Maps
set_option maxRecDepth 100000
set_option linter.unusedVariables false

/-- What may come behind a path's beginning. -/
def nextL (od : List Rw) (l : List Int) : List Int := if l = [] then keysAt od 0 else linksAt od ((l.length : Int) - 1) (l.getD (l.length - 1) 0)

end Go.Proofs.YtmonepclhbappaaGreatDoor
/-
  Ranks plainly: which path a rank picks, step by step.
-/
namespace Go.Proofs.YtmonepclhbappaaGreatDoor
open Go.RowKit
set_option linter.unusedVariables false

/-- What may still come behind a beginning. -/
def sfx (od : List Rw) (l : List Int) : List (List Int) := (nextL od l).flatMap (tls (od.drop l.length))
theorem tls_last {od : List Rw} {i : Nat} (h : i + 1 = od.length) (a : Int) : tls (od.drop i) a = [[a]] := by rw [drop_one h]; rfl
theorem tls_step {od : List Rw} {i : Nat} (h : i + 1 < od.length) (a : Int) : tls (od.drop i) a = ((lkR (od.getD i []) a).flatMap (tls (od.drop (i + 1)))).map (a :: ·) := by
  obtain ⟨r2, rs, h1, h2⟩ := drop_two h
  rw [h1, h2, List.map_flatMap]
  rfl
theorem nextL_nil (od : List Rw) : nextL od [] = keysAt od 0 := if_pos rfl
theorem nextL_snoc (od : List Rw) (l : List Int) (a : Int) : nextL od (l ++ [a]) = linksAt od (l.length : Int) a := by
  unfold nextL
  rw [if_neg (by simp)]
  have e1 : (((l ++ [a]).length : Int) - 1) = (l.length : Int) := by rw [List.length_append]; simp
  have e2 : (l ++ [a]).getD ((l ++ [a]).length - 1) 0 = a := by
    rw [List.getD_eq_getElem?_getD, List.length_append]
    simp
  rw [e1, e2]
theorem sfx_snoc {od : List Rw} {l : List Int} (h : l.length + 1 < od.length) (a : Int) : tls (od.drop l.length) a = (sfx od (l ++ [a])).map (a :: ·) := by
  unfold sfx
  rw [tls_step h, nextL_snoc, linksAt_in (by omega), List.length_append]
  rfl
theorem sfx_nil {od : List Rw} (h : 1 ≤ od.length) : sfx od [] = allP od := by
  unfold sfx allP
  rw [nextL_nil, List.length_nil, List.drop_zero]
  have := keysAt_in (od := od) (i := 0) (by omega)
  rw [show ((0 : Nat) : Int) = 0 from rfl] at this
  rw [this]
/-- The path of a rank: a beginning, what is left of the rank. -/
def Leads (od : List Rw) (n : Nat) (P : List Int) (l : List Int) (k : Nat) : Prop := ∃ s, (sfx od l)[k]? = some s ∧ P = l ++ s
/-- .. while the numbers behind a beginning are gone through. -/
def LeadsIn (od : List Rw) (P : List Int) (l : List Int) (left : List Int) (k : Nat) : Prop := ∃ s, (left.flatMap (tls (od.drop l.length)))[k]? = some s ∧ P = l ++ s
theorem Leads.begin {od : List Rw} {n : Nat} {P l : List Int} {k : Nat} (h : Leads od n P l k) : LeadsIn od P l (nextL od l) k := h
theorem LeadsIn.skip {od : List Rw} {P l left : List Int} {a : Int} {k : Nat} (h : LeadsIn od P l (a :: left) k) (hk : (cnt od l.length a) ≤ (k : Int)) : LeadsIn od P l left (k - (cnt od l.length a).toNat) := by
  obtain ⟨s, h1, h2⟩ := h
  refine ⟨s, ?_, h2⟩
  unfold cnt at hk ⊢
  rw [List.flatMap_cons, List.getElem?_append_right (by omega)] at h1
  exact h1
theorem LeadsIn.left {od : List Rw} {P l left : List Int} {k : Nat} (h : LeadsIn od P l left k) : left ≠ [] := fun e => by
  obtain ⟨s, h1, _⟩ := h
  rw [e] at h1
  cases h1
theorem LeadsIn.pick {od : List Rw} {P l left : List Int} {a : Int} {k : Nat} (h : LeadsIn od P l (a :: left) k) (hl : l.length + 1 < od.length) (hk : (k : Int) < cnt od l.length a) (n : Nat) : Leads od n P (l ++ [a]) k := by
  obtain ⟨s, h1, h2⟩ := h
  unfold cnt at hk
  rw [List.flatMap_cons, List.getElem?_append_left (by omega), sfx_snoc hl, List.getElem?_map] at h1
  obtain ⟨s', h3, rfl⟩ := Option.map_eq_some_iff.1 h1
  exact ⟨s', h3, by rw [h2, List.append_assoc]; rfl⟩
theorem LeadsIn.last {od : List Rw} {P l left : List Int} {a : Int} {k : Nat} (h : LeadsIn od P l (a :: left) k) (hl : l.length + 1 = od.length) (hk : (k : Int) < cnt od l.length a) : P = l ++ [a] := by
  obtain ⟨s, h1, h2⟩ := h
  unfold cnt at hk
  rw [List.flatMap_cons, List.getElem?_append_left (by omega), tls_last hl] at h1
  rw [h2, List.mem_singleton.1 (List.mem_of_getElem? h1)]
end Go.Proofs.YtmonepclhbappaaGreatDoor
