/-
  Ranks: how many ways on from a number, plainly; the contract of sum, of Total.
-/
import Derived.Test.YtmonepclhbappaaDoorRankM
import Derived.Test.YtmonepclhbappaaDoorOdL
import Derived.Test.YtmonepclhbappaaDoorNumT
namespace Go.Proofs.YtmonepclhbappaaDoor
open Go.RowKit Go.Maps
set_option maxRecDepth 100000
set_option linter.unusedVariables false

/-- The ways on from a number of the first row. -/
def tls : List Rw → Int → List (List Int)
  | [], _ => []
  | [_], a => [[a]]
  | r :: r2 :: rs, a => (lkR r a).flatMap fun b => (tls (r2 :: rs) b).map (a :: ·)
def cnt (od : List Rw) (i : Nat) (a : Int) : Int := ((tls (od.drop i) a).length : Nat)
theorem drop_one {od : List Rw} {i : Nat} (h : i + 1 = od.length) : od.drop i = [od.getD i []] := by
  rw [List.drop_eq_getElem_cons (by omega), List.drop_eq_nil_of_le (by omega), List.getD_eq_getElem?_getD, List.getElem?_eq_getElem (by omega)]
  rfl
theorem drop_two {od : List Rw} {i : Nat} (h : i + 1 < od.length) : ∃ r2 rs, od.drop i = od.getD i [] :: r2 :: rs ∧ od.drop (i + 1) = r2 :: rs := by
  refine ⟨od[i + 1], od.drop (i + 1 + 1), ?_, List.drop_eq_getElem_cons (by omega)⟩
  rw [List.drop_eq_getElem_cons (by omega), List.drop_eq_getElem_cons (i := i + 1) (by omega), List.getD_eq_getElem?_getD, List.getElem?_eq_getElem (by omega)]
  rfl
theorem cnt_last {od : List Rw} {i : Nat} (h : i + 1 = od.length) (a : Int) : cnt od i a = 1 := by unfold cnt; rw [drop_one h]; rfl
theorem len_flatMap {α β : Type} (f : α → List β) : ∀ l : List α, ((l.flatMap f).length : Int) = sumZ (l.map fun x => ((f x).length : Int))
  | [] => rfl
  | x :: l => by rw [List.flatMap_cons, List.length_append, List.map_cons, sumZ, ← len_flatMap f l]; omega
theorem cnt_step {od : List Rw} {i : Nat} (h : i + 1 < od.length) (a : Int) : cnt od i a = sumZ ((lkR (od.getD i []) a).map (cnt od (i + 1))) := by
  obtain ⟨r2, rs, h1, h2⟩ := drop_two h
  unfold cnt
  rw [h1, h2]
  show (((lkR (od.getD i []) a).flatMap fun b => (tls (r2 :: rs) b).map (a :: ·)).length : Int) = _
  rw [len_flatMap]
  simp
/-- All paths, in order. -/
def allP (od : List Rw) : List (List Int) := ((od.getD 0 []).map (·.1)).flatMap (tls od)
def totP (od : List Rw) : Int := ((allP od).length : Nat)
theorem totP_sum (od : List Rw) : totP od = sumZ (((od.getD 0 []).map (·.1)).map (cnt od 0)) := by
  unfold totP allP
  rw [len_flatMap]
  rfl
/-- Links go to numbers of the next row. -/
def Closed (od : List Rw) : Prop := ∀ i, i + 1 < od.length → ∀ q ∈ od.getD i [], ∀ b ∈ q.2, b ∈ (od.getD (i + 1) []).map (·.1)
theorem lkR_mem {r : Rw} {a b : Int} (h : b ∈ lkR r a) : ∃ q ∈ r, q.1 = a ∧ b ∈ q.2 := by
  unfold lkR at h
  cases hf : r.find? fun p => decide (p.1 = a) with
  | none => rw [hf] at h; cases h
  | some p =>
    rw [hf] at h
    exact ⟨p, List.mem_of_find?_eq_some hf, by simpa using List.find?_some hf, h⟩
/-- Few enough to be counted. -/
def Fits (od : List Rw) : Prop := (∀ i a, i < od.length → cnt od i a ≤ 4611686018427387904) ∧ totP od ≤ 4611686018427387904
theorem cnt_nn (od : List Rw) (i : Nat) (a : Int) : 0 ≤ cnt od i a := Int.natCast_nonneg _

theorem elemI64r : Elem Tryd.prog 107 2 (.int .i64 0) 1 8 := ⟨Tryd.underlying107, by kernel_rfl, rfl, by decide⟩
set_option maxHeartbeats 4000000 in
theorem RankSum_any (q : Nat) (pv tv : Value) (mb m : Nat) (f : Int → Int → Int) (row : Int) (l : List Int) (A : Option Addr) (n c : Nat) (w : World) (hq : Blk w q 121 #[pv, .map (some mb), tv]) (hm : OnMap w mb m f) (hl : l.length = n) (hn : n ≤ 1000000) (hs : Sl w 1 A n (l.map (Value.int .i64))) (hrow : i64ok row) (hx : ∀ x ∈ l, i64ok x) (hf : ∀ x ∈ l, i64ok (f row x)) :
    Calls Tryd.prog 67 #[.pointer (some ⟨q, 0, none⟩), .int .i64 row, .slice A n c] w fun e w' => ∃ ev, e = .returned (.tuple #[.int .i64 (tn (sumZ (l.map (f row)))), ev]) ∧ (te txtSum (sumZ (l.map (f row)))).At w' ev ∧ Below w.heap.size w w' := by
  have HQ := Lib.hid hq
  have HM := Lib.hid hm
  have HS := Lib.hid hs
  have HL := Lib.hid hl
  have HRow := Lib.hid hrow
  have HX := Lib.hid hx
  have HF := Lib.hid hf
  clear hq hm hs hl hrow hx hf
  go_enter Tryd.func67, Tryd.ntmps67
  go_wp2_with fail
  go_loopw [8, 13] (fun nv iv wr => ∃ k : Nat, k ≤ n ∧ iv = .int .i64 k ∧ Hid (wr.ownsRow w.heap.size 2 1 nv k (((l.take k).map (f row)).map (Value.int .i64))) ∧ Hid (Below w.heap.size w wr)) (fun _ iv _ => n - (intOf iv).toNat)
  case atStart => exact ⟨0, Nat.zero_le _, rfl, Lib.hid (World.ownsRow_nil _ _ _ _), Lib.hid (Below.refl _ _)⟩
  case round =>
    obtain ⟨k, hk, rfl, HO, HB⟩ := hrel
    by_cases hlt : k < n
    · have hlt' : (k : Int) < (n : Int) := by omega
      have hkl : k < l.length := by rw [HL.out]; exact hlt
      obtain ⟨x, hxk⟩ : ∃ x, l[k] = x := ⟨_, rfl⟩
      obtain ⟨b, off, rfl, hc⟩ := (HS.out.keep HB.out).i64 HL.out hlt
      have hxm : x ∈ l := by rw [← hxk]; exact List.getElem_mem hkl
      have HXx := Lib.hid (HX.out x hxm)
      have HT := Lib.hid (show (((l.take k).map (f row)).map (Value.int .i64)) ++ [.int .i64 (f row x)] = ((l.take (k + 1)).map (f row)).map (Value.int .i64) from by rw [List.take_succ_eq_append_getElem hkl, hxk]; simp)
      have cq := (HQ.out.keep HB.out).cell 1
      simp at cq
      have HMr := Lib.hid (HM.out.keep HB.out)
      rw [hxk] at hc
      clear hxk hxm hkl
      go_wp2_with (first
        | (refine wpList_lookS _ rfl _ _ rfl mb m f (by go_simp) HMr.out row x (by go_simp) HRow.out HXx.out ?_)
        | (at_builtin; go_loud (refine wpList_push elemI64r _ _ rfl rfl HO.out HB.out (Nat.le_refl _) rfl rfl rfl (by simp [Value.oneCell']) (by unfold lim; omega) (by unfold lim; omega) ?_); intro v' w1 hown1 hb1; have HO1 := Lib.hid hown1; have HB1 := Lib.hid hb1; clear hown1 hb1))
      go_roundw
      case rel => exact ⟨k + 1, by omega, by go_num, Lib.hid (by rw [← HT.out]; exact HO1.out), HB1⟩
      case measure => simp [intOf]; omega
    · obtain rfl : k = n := by omega
      have hlt' : ¬ (k : Int) < (k : Int) := by omega
      obtain ⟨R, c', rfl, hsl⟩ := Sl.own HO.out
      have HE := Lib.hid (show (l.take k).map (f row) = l.map (f row) from by rw [List.take_of_length_le (by rw [HL.out]; exact Nat.le_refl _)])
      rw [HE.out] at hsl
      have HTo := Lib.hid (NumsTotal_any (l.map (f row)) R k c' wr (by rw [List.length_map]; exact HL.out) (by omega) (fun y hy => by obtain ⟨x, hx, rfl⟩ := List.mem_map.1 hy; exact HF.out x hx) hsl)
      clear hsl HO
      go_wp2_with (go_at_call 57; refine HTo.out.mono ?_; rintro e w2 ⟨ev, rfl, hev, hb⟩; have HEv := Lib.hid hev; have HB2 := Lib.hid hb; clear hev hb)
      go_ret2
      exact ⟨_, rfl, HEv.out, HB.out.andThen HB2.out⟩

/-- Ranks of an odag in memory. -/
def RkM (w : World) (q p : Nat) (od : List Rw) : Prop :=
  ∃ (mb m : Nat) (f : Int → Int → Int), Blk w q 121 #[.pointer (some ⟨p, 0, none⟩), .map (some mb), .int .i64 (totP od)] ∧ OnMap w mb m f ∧ OdM w p od ∧ ∀ (i : Nat) (a : Int), i < od.length → a ∈ (od.getD i []).map (·.1) → f i a = cnt od i a
theorem RkM.keep {w w' : World} {q p : Nat} {od : List Rw} (h : RkM w q p od) (hb : Below w.heap.size w w') : RkM w' q p od := by
  obtain ⟨mb, m, f, h1, h2, h3, h4⟩ := h
  exact ⟨mb, m, f, h1.keep hb, h2.keep hb, h3.keep hb, h4⟩
theorem RkTotal_any (q p : Nat) (od : List Rw) (w : World) (h : RkM w q p od) : Calls Tryd.prog 34 #[.pointer (some ⟨q, 0, none⟩)] w fun e w' => e = .returned (.int .i64 (totP od)) ∧ w = w' := by
  obtain ⟨mb, m, f, h1, _⟩ := h
  have c := h1.cell 2
  simp at c
  clear h1
  go_enter Tryd.func34, Tryd.ntmps34
  go_wp2_with fail
  go_ret
  exact ⟨rfl, rfl⟩
end Go.Proofs.YtmonepclhbappaaDoor
