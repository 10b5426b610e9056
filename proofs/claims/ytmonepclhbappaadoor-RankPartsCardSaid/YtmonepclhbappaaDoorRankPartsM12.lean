/-
  Part 12 of the proof of RankParts: RankG, Marks, Box, RankW, FrameR, SameQ, PartAt.
-/
import Derived.RangeFuncNested
import Derived.RangeFuncBound
import Derived.RangeFuncCalls
import Derived.RangeFuncLeaves
import Derived.Shelf.Abstract
import Derived.Shelf.RegionOpen
import Derived.OwnWalkIn
import Derived.TacticsInMore
import Derived.LoopNIn
import Derived.LoopIn
import Derived.Test.YtmonepclhbappaaDoorRankPartsM11
import Derived.Test.YtmonepclhbappaaDoorRankPartsM10
import Derived.RangeFuncKeeps
import Derived.Test.YtmonepclhbappaaDoorRankPartsM4
import Derived.Test.YtmonepclhbappaaDoorRankPartsM1
import Derived.Test.YtmonepclhbappaaDoorRankPartsM3
import Derived.BigQuiet
import Derived.Deep.DeepCutAuto
import Derived.Test.YtmonepclhbappaaDoorRankPartsM2
import Derived.Test.YtmonepclhbappaaDoorRankPartsM7
/-
  Ranks: Each: the paths of a part come one by one.
-/
namespace Go.Proofs.YtmonepclhbappaaDoor
open Go.RowKit Go.Shelf Go.Maps
attribute [local go_sem] Oper.semAt_some
set_option maxRecDepth 100000
set_option linter.unusedVariables false

theorem room_noneE {F : Fence} (hd : F.depth = none) (k : Nat) : F.room k := fun d h => by rw [hd] at h; cases h
theorem roundIn_anyE {F : Fence} (hd : F.depth = none) {m m' : Nat} {P : Program} {l : Nat} {f : FuncId} {tmps : Array Value} {assign body : Code} {w : World} {R : Ending → World → Prop}
    (h : RoundIn F m P l f tmps assign body w R) : RoundIn F m' P l f tmps assign body w R := ⟨h.1, fun c cs _ => h.2 c cs (room_noneE hd _)⟩
theorem yieldAt_anyE {F : Fence} (hd : F.depth = none) {m : Nat} (m' : Nat) {P : Program} {l : Nat} {args : Array Value} {W : World} {R : Ending → World → Prop} (h : YieldAt F m P l args W R) : YieldAt F m' P l args W R := by
  obtain ⟨fn, tmps, assign, body, hy, hR⟩ := h
  exact ⟨fn, tmps, assign, body, hy, roundIn_anyE hd hR⟩

/-- What a round knows of the row that it is handed: a new one, the next of the list. -/
def KnE (n₁ : Nat) (G : List (List Int)) (pre : List RowE) (x : RowE) (W : World) : Prop :=
  W.ownsRow n₁ 3 1 (rv x) x.2.2.length (x.2.2.map (Value.int .i64)) ∧ G[pre.length]? = some x.2.2
theorem knE_put {n₁ : Nat} {G : List (List Int)} (pre : List RowE) (x : RowE) (W : World) (l : Nat) (o o' : Obj) (hl : W.heap[l]? = some o) (ho : o.isCells = false) (h : KnE n₁ G pre x W) : KnE n₁ G pre x (W.putObj l o') := ⟨ownsRow_putObj h.1 o' hl ho, h.2⟩
/-- The paths of a part. -/
def partP (od : List Rw) (f t : Int) : List (List Int) := ((allP od).take (min t (totP od)).toNat).drop (max f 0).toNat
theorem partP_at {od : List Rw} {f t : Int} {i : Nat} (h : (max f 0).toNat + i < (min t (totP od)).toNat) : ∃ P, (allP od)[(max f 0).toNat + i]? = some P ∧ (partP od f t)[i]? = some P := by
  have hl : (max f 0).toNat + i < (allP od).length := by unfold totP at h; omega
  refine ⟨(allP od)[(max f 0).toNat + i], List.getElem?_eq_getElem hl, ?_⟩
  unfold partP
  rw [List.getElem?_drop, List.getElem?_take, if_pos h, List.getElem?_eq_getElem hl]
theorem partP_len (od : List Rw) (f t : Int) : (partP od f t).length = (min t (totP od)).toNat - (max f 0).toNat := by
  unfold partP
  rw [List.length_drop, List.length_take]
  unfold totP
  omega

set_option maxHeartbeats 16000000 in
theorem each_gives (d n₀ n₂ : Nat) (Bp Br q p N : Nat) (od : List Rw) (f t : Int) (w0 w : World) (hf : i64ok f) (ht : i64ok t) (hO : OdOK od N) (hk : RkM w0 q p od) (hn0 : w0.heap.size = n₀) (hb : Below n₀ w0 w) (hp : Blk w Bp 63 #[.int .i64 f, .int .i64 t]) (hr : Blk w Br 57 #[.pointer (some ⟨q, 0, none⟩)]) (hBr : n₂ ≤ Br) :
    GivesKnown Fence.wide d Tryd.prog 71 #[.pointer (some ⟨Bp, 0, none⟩), .pointer (some ⟨Br, 0, none⟩)] (fun x : RowE => #[rv x]) (KnE w.heap.size (partP od f t)) (fun _ => KT n₀ n₂) (fun xs => xs.length = (partP od f t).length) (fun pre => 0 < pre.length ∧ pre.length ≤ (partP od f t).length) (partP od f t).length w := by
  intro l J Jx W hW hJ hJx hY h0
  have hJ' : ∀ s A B, J s A → A.grownBy B none → J s B := fun s A B h hg => hJ s A B none h hg (fun r e => by cases e)
  have hYA : ∀ (m : Nat) (pre : List RowE) (x : RowE) (W1 : World), J pre W1 → KnE w.heap.size (partP od f t) pre x W1 → pre.length < (partP od f t).length → YieldAt Fence.wide m Tryd.prog l #[rv x] W1 fun e W' =>
    (e = .returned (.bool true) ∧ J (pre ++ [x]) W' ∧ KT n₀ n₂ W1 W') ∨ (e = .returned (.bool false) ∧ Jx (pre ++ [x]) W') := fun m pre x W1 h1 h2 h3 => yieldAt_anyE rfl m (hY pre x W1 h1 h2 h3)
  have hbW : Below n₀ w0 W := hb.trans (hW.mono (by rw [← hn0]; exact hb.size))
  have hp := hp.keep hW
  have hr := hr.keep hW
  have hws := hW.size
  have c0 := hp.cell 0
  have c1 := hp.cell 1
  have c2 := hr.cell 0
  simp at c0 c1 c2
  have HRW := Lib.hid (show RkM W q p od from hk.keep (by rw [hn0]; exact hbW))
  have HK := Lib.hid hk
  have HBW := Lib.hid hbW
  have HR := Lib.hid hr
  have HJ := Lib.hid hJ'
  have HY := Lib.hid hYA
  have H0 := Lib.hid h0
  have HO := Lib.hid hO
  have HWs := Lib.hid hws
  have HN0 := Lib.hid hn0
  have HTb := Lib.hid (show 0 ≤ totP od ∧ totP od ≤ 4611686018427387904 from ⟨Int.natCast_nonneg _, hO.F.2⟩)
  have HFt := Lib.hid (show -9223372036854775808 ≤ f ∧ f ≤ 9223372036854775807 ∧ -9223372036854775808 ≤ t ∧ t ≤ 9223372036854775807 from ⟨hf.1, hf.2, ht.1, ht.2⟩)
  have HLen := Lib.hid (partP_len od f t)
  have HAt := Lib.hid (fun i h => partP_at (od := od) (f := f) (t := t) (i := i) h)
  clear hW hY hJ hJx hJ' hYA hbW hk hb hp hr h0 hO hn0 hws hf ht
  refine callsIn_of_wp Tryd.func71 rfl trivial ?_ rfl
  simp only [Tryd.ntmps71, List.size_toArray, List.length_cons, List.length_nil, Nat.reduceAdd, Nat.reduceSub, Array.replicate_succ, Array.replicate_zero, List.push_toArray, List.append_toArray, List.nil_append, List.cons_append]
  refine wpIn_wide.2 ?_
  go_wp2_with fail
  go_region_held3 (fun w' => w'.cell? ⟨Bp, 0, none⟩ = some (.int .i64 f) ∧ w'.cell? ⟨Bp, 1, none⟩ = some (.int .i64 t) ∧ w'.cell? ⟨Br, 0, none⟩ = some (.pointer (some ⟨q, 0, none⟩))) (go_keep)
    ((go_at_call 34; refine (RkTotal_any q p od _ (HRW.out.keep (bel_drewN (Below.refl _ _) 1))).mono ?_; rintro e' w3 ⟨rfl, rfl⟩))
  have HKT := Lib.hid (show KT n₀ n₂ W (W.drewN 1) from KT.of_below (bel_drewN (Below.refl _ _) 1) (by rw [← HN0.out]; exact HBW.out.size))
  have HJ1 := Lib.hid (HJ.out _ _ _ H0.out (gb_below (bel_drewN (Below.refl W.heap.size W) 1) none))
  have HSz := Lib.hid (show (W.drewN 1).heap.size = W.heap.size from rfl)
  have d0 : (W.drewN 1).cell? ⟨Bp, 0, none⟩ = some (.int .i64 f) := c0
  clear c0 c1 c2 H0
  obtain ⟨w1, hw1⟩ : ∃ w1, w1 = W.drewN 1 := ⟨_, rfl⟩
  rw [← hw1] at HKT HJ1 HSz d0 ⊢
  clear hw1
  go_wp2_with fail
  clear d0
  refine (wpIn_wide (n := d)).1 ?_
  obtain ⟨lo, hlo⟩ : ∃ lo : Nat, max f 0 = (lo : Int) := ⟨(max f 0).toNat, by omega⟩
  obtain ⟨hi, hhi⟩ : ∃ hi : Nat, hi = (min t (totP od)).toNat := ⟨_, rfl⟩
  have HLen2 := Lib.hid (show (partP od f t).length = hi - lo from by rw [HLen.out, ← hhi, hlo]; rfl)
  have HAt2 := Lib.hid (fun i (h : lo + i < hi) => by have := HAt.out i (by rw [hlo, ← hhi]; exact h); rw [hlo] at this; exact this)
  have HLt := Lib.hid (show ∀ i : Nat, (lo + i < hi → (lo : Int) + (i : Int) < min t (totP od)) ∧ (¬ lo + i < hi → ¬ (lo : Int) + (i : Int) < min t (totP od)) from fun i => by omega)
  have HHi := Lib.hid (show hi ≤ 4611686018427387904 from by have := HTb.out; omega)
  have HLo := Lib.hid hlo
  obtain ⟨tq, hto⟩ : ∃ tq, min t (totP od) = tq := ⟨_, rfl⟩
  rw [hto] at HLt ⊢
  rw [hlo]
  clear hhi hto hlo HAt HLen HTb HFt
  gi_loopw [5] (fun iv wr => ∃ (i : Nat) (ys : List RowE), i ≤ hi - lo ∧ iv = .int .i64 ((lo : Int) + (i : Int)) ∧ Hid (ys.length = i) ∧ Hid (J ys wr) ∧ Hid (KT n₀ n₂ W wr)) (fun iv _ => hi - (intOf iv).toNat)
  case atStart => exact ⟨0, [], Nat.zero_le _, by simp, Lib.hid rfl, HJ1, HKT⟩
  case round =>
    obtain ⟨i, ys, hi1, rfl, HYs, HJi, HKi⟩ := hrel
    by_cases hlt : lo + i < hi
    · have hlt' := (HLt.out i).1 hlt
      obtain ⟨P, hP, hPp⟩ := HAt2.out i hlt
      have hcr := (HKi.out.blk HR.out hBr (by decide)).cell 0
      simp at hcr
      have HBw := Lib.hid (HBW.out.trans HKi.out.1)
      have hPl : P.length = N := HO.out.P P (List.mem_of_getElem? hP)
      have HA := Lib.hid ((At_ok q p N (lo + i) P od wr (HK.out.keep (by rw [HN0.out]; exact HBw.out)) HO.out.B HO.out.len HO.out.h1 HO.out.h8 HO.out.Nu HO.out.C HO.out.F hP hPl).mono (R' := fun e W1 => ∃ C c, e = .returned (.tuple #[.slice C N c, .nilIface]) ∧ KT n₀ n₂ wr W1 ∧ YieldAt Fence.wide (d - 1) Tryd.prog l #[.slice C N c] W1 fun e W' =>
        (e = .returned (.bool true) ∧ J (ys ++ [(C, c, P)]) W' ∧ KT n₀ n₂ W1 W') ∨ (e = .returned (.bool false) ∧ Jx (ys ++ [(C, c, P)]) W')) (fun e W1 h => by
          obtain ⟨v, rfl, hown, hb⟩ := h
          obtain ⟨C, c, rfl, hs⟩ := Sl.own hown
          have hsz := HBw.out.size
          have hsz2 := HKi.out.1.size
          refine ⟨C, c, rfl, KT.of_below hb (by rw [← HN0.out]; exact hsz), ?_⟩
          have h := HY.out (d - 1) ys (C, c, P) W1 (HJ.out _ _ _ HJi.out (gb_below hb none)) ⟨?_, by rw [HYs.out]; exact hPp⟩ (by rw [HYs.out, HLen2.out]; omega)
          · simp only [rv, hPl] at h
            exact h
          · simp only [rv, hPl]
            exact own_mono hown (Nat.le_trans HWs.out hsz2)))
      rw [show ((lo + i : Nat) : Int) = (lo : Int) + (i : Int) from Int.natCast_add _ _] at HA
      have hhi2 := HHi.out
      clear hP hPp hPl
      gi_wp2_with (first
        | ((try refine ⟨trivial, ?_⟩); (try refine ⟨fun h => (by cases h), ?_⟩); gi_at_call 38; refine (callsIn_wide.2 HA.out).mono ?_; clear HA; rintro e W1 ⟨C, c, rfl, hkt, fn, tmps, assign, body, hy, hR⟩; have HKt := Lib.hid hkt; have HRr := Lib.hid hR; clear hkt hR)
        | ((try refine ⟨fun h => (by cases h), ?_⟩); refine HRr.out.mono ?_; clear HRr; rintro e W2 (⟨rfl, hJ2, hk2⟩ | ⟨rfl, hx2⟩)))
      · have HJ2 := Lib.hid hJ2
        have HK2 := Lib.hid hk2
        clear hJ2 hk2 hy
        go_roundw
        case rel => exact ⟨i + 1, ys ++ [(C, c, P)], by omega, by go_num, Lib.hid (by rw [List.length_append, HYs.out]; rfl), HJ2, Lib.hid ((HKi.out.trans HKt.out).trans HK2.out)⟩
        case measure => simp [intOf]; omega
      · refine bodyPost_ret (results_none rfl _ _ _) rfl ?_
        exact ⟨⟨_, rfl⟩, .inr ⟨_, ⟨by rw [List.length_append]; simp, by rw [List.length_append, HYs.out, HLen2.out]; simp; omega⟩, hx2⟩⟩
    · have hlt' := (HLt.out i).2 hlt
      have HE := Lib.hid (show i = hi - lo from by omega)
      gi_wp2
      go_end0
      exact ⟨⟨_, rfl⟩, .inl ⟨ys, by rw [HYs.out, HLen2.out]; exact HE.out, HJi.out⟩⟩
end Go.Proofs.YtmonepclhbappaaDoor
/-
  Laws with ranges over functions: their ends, walked plainly.
-/
namespace Go.Proofs.YtmonepclhbappaaDoor
open Go.RowKit
set_option linter.unusedVariables false
section
variable {F : Fence} {n : Nat} {P : Program} {fn : Func} {R : Ending → World → Prop} {a : Act} {w : World} {v : Value}
theorem mks0 (hd : a.defers = []) (hr : (results fn a.tmps).run P w = .ok v w) (hR : R (.returned v) w) : bodyPostM F n P fn R .ret a w := by
  show LeavesInM F n P fn a.tmps R a.defers .returning w
  rw [hd]
  exact ⟨v, hr, hR⟩
theorem mks1 {D : Nat} (hd : a.defers = [{ target := .collected D, args := #[] }]) (hK : w.heap[D]? = some (.deferred (some [])))
    (hr : (results fn a.tmps).run P (w.putObj D (.deferred none)) = .ok v (w.putObj D (.deferred none))) (hR : R (.returned v) (w.putObj D (.deferred none))) : bodyPostM F n P fn R .ret a w := by
  show LeavesInM F n P fn a.tmps R a.defers .returning w
  rw [hd]
  exact ⟨by simp, .inl ⟨_, _, rfl, run_takeDeferred hK, v, hr, hR⟩⟩
theorem mks2 {D E : Nat} (hd : a.defers = [{ target := .collected E, args := #[] }, { target := .collected D, args := #[] }]) (hE : w.heap[E]? = some (.deferred (some []))) (hD : (w.putObj E (.deferred none)).heap[D]? = some (.deferred (some [])))
    (hr : (results fn a.tmps).run P ((w.putObj E (.deferred none)).putObj D (.deferred none)) = .ok v ((w.putObj E (.deferred none)).putObj D (.deferred none))) (hR : R (.returned v) ((w.putObj E (.deferred none)).putObj D (.deferred none))) : bodyPostM F n P fn R .ret a w := by
  show LeavesInM F n P fn a.tmps R a.defers .returning w
  rw [hd]
  exact ⟨by simp, .inl ⟨_, _, rfl, run_takeDeferred hE, by simp, .inl ⟨_, _, rfl, run_takeDeferred hD, v, hr, hR⟩⟩⟩
end
/-- The marks' blocks are shut, one after the other. -/
def shutM (Ds : List Nat) (w : World) : World := Ds.foldl (fun w D => w.putObj D (.deferred none)) w
theorem leavesM {F : Fence} {n : Nat} {P : Program} {fn : Func} {tmps : Array Value} {R : Ending → World → Prop} {v : Value} : ∀ (Ds : List Nat) (w : World), (∀ D ∈ Ds, w.heap[D]? = some (.deferred (some []))) → Ds.Nodup →
    (results fn tmps).run P (shutM Ds w) = .ok v (shutM Ds w) → R (.returned v) (shutM Ds w) → LeavesInM F n P fn tmps R (Ds.map fun D => { target := .collected D, args := #[] }) .returning w
  | [], w, _, _, hr, hR => ⟨v, hr, hR⟩
  | D :: Ds, w, hK, hn, hr, hR => by
    have hn' := List.nodup_cons.1 hn
    refine ⟨by simp, .inl ⟨_, _, rfl, run_takeDeferred (hK D (List.mem_cons_self ..)), ?_⟩⟩
    refine leavesM Ds (w.putObj D (.deferred none)) (fun D' hD' => ?_) hn'.2 hr hR
    exact (World.putObj_heap_other (fun e => hn'.1 (by rw [← e]; exact hD'))).trans (hK D' (List.mem_cons_of_mem _ hD'))
theorem shutM_blk {B : Nat} {t : TypeId} {u : Array Value} : ∀ (Ds : List Nat) (w : World), (∀ D ∈ Ds, w.heap[D]? = some (.deferred (some []))) → Ds.Nodup → Blk w B t u → Blk (shutM Ds w) B t u
  | [], _, _, _, h => h
  | D :: Ds, w, hK, hn, h => by
    have hn' := List.nodup_cons.1 hn
    refine shutM_blk Ds (w.putObj D (.deferred none)) (fun D' hD' => (World.putObj_heap_other (fun e => hn'.1 (by rw [← e]; exact hD'))).trans (hK D' (List.mem_cons_of_mem _ hD'))) hn'.2 (h.grown (grownBy_putObj' _ _ _) (fun e => ?_))
    cases e
    have h2 := hK B (List.mem_cons_self ..)
    rw [show w.heap[B]? = _ from h] at h2
    cases h2
theorem shutM_below {w0 : World} : ∀ (Ds : List Nat) (w : World), (∀ D ∈ Ds, w.heap[D]? = some (.deferred (some []))) → Ds.Nodup → (∀ D ∈ Ds, w0.heap.size ≤ D) → Below w0.heap.size w0 w → Below w0.heap.size w0 (shutM Ds w)
  | [], _, _, _, _, h => h
  | D :: Ds, w, hK, hn, hD, h => by
    have hn' := List.nodup_cons.1 hn
    exact shutM_below Ds (w.putObj D (.deferred none)) (fun D' hD' => (World.putObj_heap_other (fun e => hn'.1 (by rw [← e]; exact hD'))).trans (hK D' (List.mem_cons_of_mem _ hD'))) hn'.2 (fun D' h' => hD D' (List.mem_cons_of_mem _ h')) (h.trans (belowK_b (w := w0) (Nat.le_refl _) w D _ _ (hD D (List.mem_cons_self ..)) (hK D (List.mem_cons_self ..)) rfl rfl))
/-- A law's end behind ranges over functions: the result's block holds true, the marks' blocks are shut. -/
theorem law_end {k : Nat} {P : Program} {fn : Func} {a : Act} {w W : World} (Ds : List Nat) {t : TypeId} {v0 : Value} (hres : ∀ V : World, V.cell? ⟨w.heap.size, 0, none⟩ = some (.bool true) → (results fn a.tmps).run P V = .ok (.bool true) V) (hd : a.defers = Ds.map fun D => { target := .collected D, args := #[] }) (hK : ∀ D ∈ Ds, W.heap[D]? = some (.deferred (some []))) (hn : Ds.Nodup)
    (hr : Blk W w.heap.size t #[v0]) (hb : Below w.heap.size w W) (hD : ∀ D ∈ Ds, w.heap.size ≤ D) :
    bodyPostM Fence.wide k P fn (fun e w' => e = .returned (.bool true) ∧ Below w.heap.size w w') .ret a (W.setCell ⟨w.heap.size, 0, none⟩ (.bool true)) := by
  show LeavesInM _ _ _ _ _ _ a.defers .returning _
  rw [hd]
  have hK2 : ∀ D ∈ Ds, (W.setCell ⟨w.heap.size, 0, none⟩ (.bool true)).heap[D]? = some (.deferred (some [])) := fun D h => (KeepsOthers.setCell _ _ _).same D _ (hK D h) rfl
  have hE := (shutM_blk Ds _ hK2 hn (hr.set_ 0 (.bool true))).cell 0
  simp at hE
  exact leavesM Ds _ hK2 hn (v := .bool true) (hres _ hE) ⟨rfl, shutM_below Ds _ hK2 hn hD (hb.setCell (p := ⟨w.heap.size, 0, none⟩) (Nat.le_refl _) _)⟩
/-- A part of the code that ends in its normal way alone. -/
theorem wp_thenF {P : Program} {c : Code} {K : Act → World → Prop} {Q : Exit → Act → World → Prop} {a : Act} {w : World} (h : c.wp P (Exit.then K fun _ _ _ => False) a w) : c.wp P (Exit.then K Q) a w :=
  wp_mono h (by intro e a w h; cases e <;> first | exact h | exact h.elim)
end Go.Proofs.YtmonepclhbappaaDoor
/-
  Boxes (variables that lie in blocks) and rows under what an iterator may turn.
-/
namespace Go.Proofs.YtmonepclhbappaaDoor
open Go.RowKit
set_option linter.unusedVariables false
theorem own_notNC2 {w : World} {b B size n : Nat} {e : TypeId} {v : Value} {xs : List Value} (h : w.ownsRow B e size v n xs) (hm : NC w b) : some b ≠ v.ownBlock := fun e1 => by
  obtain ⟨_, h2⟩ := h
  obtain ⟨o, h3, h4⟩ := hm
  rcases h2 with ⟨rfl, _⟩ | ⟨g', cap, cur, rfl, _, h5, _⟩
  · cases e1
  · cases e1
    rw [h3] at h5
    cases h5
    cases h4
section
variable {A B : World} {row : Option Nat}
abbrev NonCell (A : World) (row : Option Nat) : Prop := ∀ r, row = some r → ∃ o : Obj, A.heap[r]? = some o ∧ o.isCells = false
theorem blk_gb {g : Nat} {t : TypeId} {cs : Array Value} (h : Blk A g t cs) (hg : A.grownBy B row) (hr : NonCell A row) : Blk B g t cs := h.grown hg fun e => by
  obtain ⟨o, h1, h2⟩ := hr g e.symm
  unfold Blk at h
  rw [h] at h1
  cases h1
  cases h2
theorem sl_gb {n : Nat} {C : Option Addr} {xs : List Value} (h : Sl A 1 C n xs) (hg : A.grownBy B row) (hr : NonCell A row) : Sl B 1 C n xs := by
  refine ⟨h.1, fun hn => ?_⟩
  obtain ⟨b, off, rfl, h2⟩ := h.2 hn
  refine ⟨b, off, rfl, fun j v hj => ?_⟩
  have hc := h2 j v hj
  refine (World.cell?_of_block (w := A) (a := ⟨b, off + j, none⟩) (hg.block b (World.block_lt_of_cell? A _ hc) fun e => ?_)).trans hc
  obtain ⟨o, h3, h4⟩ := hr b e.symm
  exact NC.cell ⟨o, h3, h4⟩ hc rfl
theorem row_gb {t : Option Addr × Nat × List Int} (h : RowOK A t) (hg : A.grownBy B row) (hr : NonCell A row) : RowOK B t := ⟨sl_gb h.1 hg hr, h.2⟩
theorem own_gb {B0 n : Nat} {e : TypeId} {v : Value} {xs : List Value} (h : A.ownsRow B0 e 1 v n xs) (hg : A.grownBy B row) (hr : NonCell A row) : B.ownsRow B0 e 1 v n xs :=
  own_block h fun g hv => hg.block g (h.lt g hv).2 fun e1 => by
    obtain ⟨o, h3, h4⟩ := hr g e1.symm
    exact own_notNC2 h ⟨o, h3, h4⟩ hv.symm
theorem rows_gb {v : Value} {its : List (Option Addr × Nat × List Int)} (h : RowsOK A v its) (hg : A.grownBy B row) (hr : NonCell A row) : RowsOK B v its := fun t ht => ⟨row_gb (h t ht).1 hg hr, fun x hx => ⟨Nat.lt_of_lt_of_le ((h t ht).2 x hx).1 hg.size, ((h t ht).2 x hx).2⟩⟩
theorem bel_gb {n₀ : Nat} {w0 : World} (h : Below n₀ w0 A) (hn : n₀ ≤ w0.heap.size) (hg : A.grownBy B row) (hr : ∀ r, row = some r → n₀ ≤ r) : Below n₀ w0 B := h.grown hg (Nat.le_trans hn h.size) fun k e => hr k e
/-- What a law holds while a range over a function goes on, kept by what the iterator does. -/
theorem ownFrom_of {β : Type} {n : Nat} {I : β → World → Prop} (h : ∀ s A B row, I s A → A.grownBy B row → NonCell A row → (∀ r, row = some r → n ≤ r) → I s B) : OwnFrom n I := fun s A B row hs hg hr => h s A B row hs hg (fun r e => (hr r e).2) (fun r e => (hr r e).1)
theorem ko_belowE {W W' : World} (hb : Below W.heap.size W W') : KeepsOthers W W' := ⟨hb.size, fun k o hk _ => (hb.block k (Array.getElem?_eq_some_iff.1 hk).1).trans hk⟩
/-- A row of ints behind a store into another block. -/
theorem sl_far {W : World} {n : Nat} {C : Option Addr} {xs : List Value} (h : Sl W 1 C n xs) {p : Addr} (hp : ∀ a : Addr, C = some a → a.block ≠ p.block) (u : Value) : Sl (W.setCell p u) 1 C n xs := by
  refine ⟨h.1, fun hn => ?_⟩
  obtain ⟨b, off, rfl, h2⟩ := h.2 hn
  refine ⟨b, off, rfl, fun j v hj => ?_⟩
  have hc := h2 j v hj
  exact (World.cell?_of_block (w := W) (a := ⟨b, off + j, none⟩) (Below.heap_setCell W p u b (hp _ rfl))).trans hc
end
/-- append in a fence: what the row was is known, what changes is that row alone. -/
theorem wpListIn_cat_at {F : Fence} {k : Nat} {P : Program} {ops : Array Oper} {rest : List Oper} {o : Oper} {a : Act} {Q : Exit → Act → World → Prop} {t e : TypeId} {z : Value} {size bytes : Nat} (E : Elem P t e z size bytes) {B : Nat} {W : World} (s x : Operand)
    (hgd : o.guard = none) (ho : o.op = .call { callee := .builtin .append, args := #[s, x], argTypes := #[t, t] })
    {v : Value} {n : Nat} {xs : List Value} (hown : W.ownsRow B e size v n xs) (hB : B ≤ W.heap.size)
    {A : Option Addr} {m c : Nat} {ys : List Value} (hy : Sl W size A m ys)
    (hs : a.eval s = v) (hx : a.eval x = .slice A m c) (h1 : ∀ u ∈ ys, u.oneCell' = true)
    (hlim : (n + m) * bytes ≤ lim) (hlim' : n + m ≤ lim)
    (h : ∀ v' w', w'.ownsRow B e size v' (n + m) (xs ++ ys) → Gr W w' v v' → wpListIn F k P ops Q rest (a.put o.dst v') w') : wpListIn F k P ops Q (o :: rest) a W := by
  obtain ⟨v', w', hr, h2, h3⟩ := run_cat_at (P := P) (ty := o.type) (c := c) E hown hB hy h1 hlim hlim'
  refine wpListIn_plain hgd fun K hK' => ?_
  unfold Oper.wpIn
  refine ⟨?_, ?_⟩
  · simp [Oper.about, ho, resolve, Target.leads, Sem.run_pure]
  · rw [Oper.semAt_plain F _ _ (by rw [ho]; intro c hc'; cases hc')]
    simp [execOp, ho, resolve, invoke, builtin, hs, hx, hr, Result.andThen]
    exact hK' _ _ (h v' w' h2 h3)
theorem KT.cat {n₀ n₂ B n : Nat} {W W' : World} {v v' : Value} {xs : List Value} (hown : W.ownsRow B 22 1 v n xs) (hg : Gr W W' v v') (h0 : n₀ ≤ W.heap.size) (hB : n₀ ≤ B) : KT n₀ n₂ W W' := by
  refine ⟨hg.below h0 fun k hk => Nat.le_trans hB (hown.lt k hk).1, fun k cs t fr _ ht hk => (hg.g.block k (Array.getElem?_eq_some_iff.1 hk).1 fun e => ?_).trans hk⟩
  rcases hown.2 with ⟨rfl, _⟩ | ⟨g', cap, cur, rfl, _, h5, _⟩
  · simp [Value.ownBlock] at e
  · obtain rfl : k = g' := by simpa [Value.ownBlock] using e
    rw [hk] at h5
    injection h5 with h5
    injection h5 with _ h6
    exact ht h6
theorem ko_cat {B n size : Nat} {e : TypeId} {W W' : World} {v v' : Value} {xs : List Value} (hown : W.ownsRow B e size v n xs) (hg : Gr W W' v v') : KeepsOthers W W' :=
  KeepsOthers.of_grownBy hg.g fun j o ej hj => by
    rcases hown.2 with ⟨rfl, _⟩ | ⟨g', cap, cur, rfl, _, h5, _⟩
    · simp [Value.ownBlock] at ej
    · obtain rfl : g' = j := by simpa [Value.ownBlock] using ej
      rw [h5] at hj
      injection hj with hj
      rw [← hj]
      rfl
end Go.Proofs.YtmonepclhbappaaDoor
/-
  The laws' Paths of a part: they are put one behind the other.
-/
namespace Go.Proofs.YtmonepclhbappaaDoor
open Go.RowKit Go.Maps
attribute [local go_sem] Oper.semAt_some
set_option maxRecDepth 100000
set_option linter.unusedVariables false

/-- What holds while rows are put into a row of rows that lies in a box. -/
def OutI (n₀ B Bo : Nat) (w0 : World) (G : List (List Int)) (pre : List RowE) (W : World) : Prop :=
  Below n₀ w0 W ∧ (∃ v, Blk W Bo 40 #[v] ∧ W.ownsRow B 22 1 v pre.length (pre.map rv) ∧ RowsOK W v pre ∧ ∀ t ∈ pre, ∀ x : Addr, t.1 = some x → B ≤ x.block) ∧ ∀ (i : Nat) (x : RowE), pre[i]? = some x → G[i]? = some x.2.2
theorem OutI.own {n₀ B Bo n : Nat} {w0 : World} {G : List (List Int)} (h0 : n₀ ≤ w0.heap.size) (hn : n₀ ≤ n) : OwnFrom n (OutI n₀ B Bo w0 G) := ownFrom_of fun s A B' row ⟨h1, ⟨v, h2, h3, h4, h6⟩, h5⟩ hg hr hge =>
  ⟨bel_gb h1 h0 hg (fun r e => Nat.le_trans hn (hge r e)), ⟨v, blk_gb h2 hg hr, own_gb h3 hg hr, rows_gb h4 hg hr, h6⟩, h5⟩
theorem getI_snoc {G : List (List Int)} {pre : List RowE} {x : RowE} (h : ∀ (i : Nat) (x : RowE), pre[i]? = some x → G[i]? = some x.2.2) (hx : G[pre.length]? = some x.2.2) : ∀ (i : Nat) (y : RowE), (pre ++ [x])[i]? = some y → G[i]? = some y.2.2 := fun j y hy => by
  rcases Nat.lt_or_ge j pre.length with hj | hj
  · rw [List.getElem?_append_left hj] at hy
    exact h j y hy
  · rw [List.getElem?_append_right hj] at hy
    obtain rfl : j = pre.length := by
      have := (List.getElem?_eq_some_iff.1 hy).1
      simp at this
      omega
    rw [Nat.sub_self] at hy
    obtain rfl : x = y := by simpa using hy
    exact hx
theorem getI_all {G : List (List Int)} {pre : List RowE} (h : ∀ (i : Nat) (x : RowE), pre[i]? = some x → G[i]? = some x.2.2) (hl : pre.length = G.length) : pre.map (·.2.2) = G := by
  refine List.ext_getElem? fun i => ?_
  rw [List.getElem?_map]
  cases hp : pre[i]? with
  | none =>
    rw [List.getElem?_eq_none_iff] at hp
    rw [List.getElem?_eq_none (by omega)]
    rfl
  | some x => rw [h i x hp]; rfl

set_option maxHeartbeats 16000000 in
theorem PathsR_any (q p N : Nat) (od : List Rw) (f t : Int) (w : World) (hf : i64ok f) (ht : i64ok t) (hO : OdOK od N) (hk : RkM w q p od) (hT : (partP od f t).length ≤ 100000000) :
    Calls Tryd.prog 36 #[.pointer (some ⟨q, 0, none⟩), .agg #[.int .i64 f, .int .i64 t]] w fun e w' => ∃ (A : Option Addr) (c : Nat) (jts : List RowE), e = .returned (.slice A jts.length c) ∧ jts.map (·.2.2) = partP od f t ∧ Sl w' 1 A jts.length (jts.map rv) ∧ AllRows w' jts ∧ Below w.heap.size w w' := by
  have HO := Lib.hid hO
  have HK := Lib.hid hk
  have HF := Lib.hid hf
  have HT := Lib.hid ht
  have HTl := Lib.hid hT
  clear hO hk hf ht hT
  refine (callsIn_wide (n := 5)).1 ?_
  refine callsIn_of_wp_marks Tryd.func36 rfl trivial ?_ rfl
  simp only [Tryd.ntmps36, List.size_toArray, List.length_cons, List.length_nil, Nat.reduceAdd, Nat.reduceSub, Array.replicate_succ, Array.replicate_zero, List.push_toArray, List.append_toArray, List.nil_append, List.cons_append]
  refine wpIn_wide.2 ?_
  go_upto_region 2 with (fail)
  obtain ⟨W6, hW6⟩ : ∃ W6, (w.alloc (.cells #[.int .i64 f, .int .i64 t] 63)).alloc (.cells #[.slice none 0 0] 40) = W6 := ⟨_, rfl⟩
  have hb6 : Below w.heap.size w W6 := by rw [← hW6]; exact bel_al (bel_al (Below.refl _ _) _) _
  have hp6 : Blk W6 w.heap.size 63 #[.int .i64 f, .int .i64 t] := by rw [← hW6]; exact (Blk.new w _ _).alloc _
  have ho6 : Blk W6 (w.heap.size + 1) 40 #[.slice none 0 0] := by
    have := Blk.new (w.alloc (.cells #[.int .i64 f, .int .i64 t] 63)) 40 #[.slice none 0 0]
    rw [World.size_alloc, hW6] at this
    exact this
  have hs6 : W6.heap.size = w.heap.size + 2 := by rw [← hW6]; simp
  rw [hW6]
  clear hW6
  have HS6 := Lib.hid hs6
  clear hs6
  have c0 := hp6.cell 0
  have c1 := hp6.cell 1
  simp at c0 c1
  go_wp2_with (go_at_call 32; refine (Each_any (some ⟨q, 0, none⟩) _ _ _).mono ?_; rintro e w5 ⟨rfl, rfl⟩)
  clear c0 c1
  obtain ⟨W5, hW5⟩ : ∃ W5, (W6.alloc (.cells #[.pointer (some ⟨q, 0, none⟩)] 57)).alloc (.cells #[.int .i64 f, .int .i64 t] 63) = W5 := ⟨_, rfl⟩
  have hb5 : Below W6.heap.size W6 W5 := by rw [← hW5]; exact bel_al (bel_al (Below.refl _ _) _) _
  have hr5 : Blk W5 W6.heap.size 57 #[.pointer (some ⟨q, 0, none⟩)] := by rw [← hW5]; exact (Blk.new W6 _ _).alloc _
  have hp5 : Blk W5 (W6.heap.size + 1) 63 #[.int .i64 f, .int .i64 t] := by
    have := Blk.new (W6.alloc (.cells #[.pointer (some ⟨q, 0, none⟩)] 57)) 63 #[.int .i64 f, .int .i64 t]
    rw [World.size_alloc, hW5] at this
    exact this
  rw [hW5]
  clear hW5
  have HB5 := Lib.hid (hb6.andThen hb5)
  have HL5 := Lib.hid hb5.size
  refine (wpIn_wide (n := 5)).1 ?_
  refine rangeFunc_one (fun x b => { b with tmps := b.tmps.setIfInBounds 6 (rv x) }) rfl (by omega) (gf := 71) (lb := #[.pointer (some ⟨W6.heap.size + 1, 0, none⟩), .pointer (some ⟨W6.heap.size, 0, none⟩)]) rfl trivial (enters_of Tryd.func71 (by kernel_rfl) rfl)
    (each_gives (5 - 1) w.heap.size W6.heap.size (W6.heap.size + 1) W6.heap.size q p N od f t w W5 HF.out HT.out HO.out HK.out rfl HB5.out hp5 hr5 (Nat.le_refl _)) knE_put KT.trans (fun _ W l o o' hl ho hc _ => KT.putObj o' (Nat.le_trans HB5.out.size hl) ho hc) (Below.refl _ _)
    (OutI w.heap.size W6.heap.size (w.heap.size + 1) w (partP od f t)) (fun _ _ _ => False) (OutI.own (Nat.le_refl _) HB5.out.size) (fun c s A B row hs _ _ => hs.elim)
    ⟨HB5.out, ⟨_, ho6.keep hb5, World.ownsRow_nil _ _ _ _, (fun t h => by cases h), fun t h => by cases h⟩, fun i x hx => by cases hx⟩ ?assign ?body ?done ?stop
  case assign =>
    intro l x W K hK
    gi_wp2
    exact hK
  case stop =>
    rintro D c pre W _ _ h _
    exact h.elim
  case body =>
    rintro l pre ⟨D, d, P⟩ W ⟨i1, ⟨v, i2, i3, i4, i6⟩, i5⟩ ⟨hown, hG⟩ hlt
    have cv := i2.cell 0
    simp at cv
    have hP : P ∈ allP od := by
      have := List.mem_of_getElem? hG
      unfold partP at this
      exact List.mem_of_mem_take (List.mem_of_mem_drop this)
    have hPl : P.length = N := HO.out.P P hP
    have hN1 := HO.out.h1
    obtain ⟨gx, gc, hgx, hg5⟩ := own_form hown (by simp only; omega)
    have hDx : D = some ⟨gx, 0, none⟩ := by cases hgx; rfl
    have hgW : gx < W.heap.size := (hown.lt gx (by rw [hgx]; rfl)).2
    have hrow : RowOK W (D, d, P) := ⟨Sl.of_own hown, own_cap hown⟩
    have hnov : ∀ x : Addr, D = some x → x.block < W.heap.size ∧ some x.block ≠ v.ownBlock := fun x hx => by
      rw [hDx] at hx
      cases hx
      refine ⟨hgW, fun e => ?_⟩
      have e2 : v.ownBlock ≠ some gx := by
        rcases hown.2 with ⟨h7, _⟩ | ⟨g', cap, cur, h7, _, h8, _⟩
        · rw [hgx] at h7; cases h7
        · rw [hgx] at h7
          cases h7
          intro h9
          rcases i3.2 with ⟨rfl, _⟩ | ⟨g2, cap2, cur2, rfl, _, h10, _⟩
          · simp [Value.ownBlock] at h9
          · obtain rfl : g2 = gx := by simpa [Value.ownBlock] using h9
            rw [h8] at h10
            injection h10 with h10
            injection h10 with _ h11
            exact absurd h11 (by decide)
      exact e2 e.symm
    have HI1 := Lib.hid i1
    have HI2 := Lib.hid i2
    have HI3 := Lib.hid i3
    have HI4 := Lib.hid i4
    have HI5 := Lib.hid i5
    have HI6 := Lib.hid (show ∀ t ∈ pre ++ [(D, d, P)], ∀ x : Addr, t.1 = some x → W6.heap.size ≤ x.block from fun t ht x hx => by
      rcases List.mem_append.1 ht with ht | ht
      · exact i6 t ht x hx
      · rw [List.mem_singleton.1 ht] at hx
        have hx' : D = some x := hx
        rw [hDx] at hx'
        cases hx'
        exact Nat.le_trans HL5.out hg5)
    have HGp := Lib.hid hG
    have HRow := Lib.hid hrow
    have HNo := Lib.hid hnov
    have hWs : W5.heap.size ≤ W.heap.size := by omega
    have hl6 := HL5.out
    have hs6 := HS6.out
    have HSz := Lib.hid (show W6.heap.size ≤ W.heap.size ∧ w.heap.size + 2 ≤ W6.heap.size from ⟨by omega, by omega⟩)
    have hpl : pre.length ≤ 100000000 := by have := HTl.out; omega
    obtain ⟨k, hk⟩ : ∃ k, k = pre.length := ⟨_, rfl⟩
    rw [← hk] at hpl HI3
    have HKk := Lib.hid hk
    clear i1 i2 i3 i4 i5 i6 hG hrow hnov hWs hl6 hs6 hown hgx hDx hgW hg5 hP hPl hN1 hlt hk
    simp only [rv]
    gi_wp2_with (gi_at_builtin; refine wpListIn_cat_at elemIntsQ _ _ rfl rfl (HI3.out.alloc _) (by have := HSz.out; simp; omega) (Sl.newAt W _ _ 1 rfl) rfl rfl (by simp [Value.oneCell']) (by unfold lim; omega) (by unfold lim; omega) ?_; intro v6 w6 hown6 hgr6; obtain ⟨g6, c6, rfl, _⟩ := own_form hown6 (by omega); have HO6 := Lib.hid hown6; have HG6 := Lib.hid hgr6; have fb := ((HI2.out.alloc (.cells #[.slice D P.length d] 22)).others (HI3.out.alloc (.cells #[.slice D P.length d] 22)) hgr6.g (by decide)).frozen 0; have cb := ((HI2.out.alloc (.cells #[.slice D P.length d] 22)).others (HI3.out.alloc (.cells #[.slice D P.length d] 22)) hgr6.g (by decide)).cell 0; simp at cb; clear hown6 hgr6)
    obtain ⟨v6, hv6⟩ : ∃ v6, v6 = Value.slice (some ⟨g6, 0, none⟩) (k + 1) c6 := ⟨_, rfl⟩
    rw [← hv6] at HO6 HG6 ⊢
    clear hv6
    have hI3a := HI3.out.alloc (.cells #[.slice D P.length d] 22)
    have hI2a := (HI2.out.alloc (.cells #[.slice D P.length d] 22)).others hI3a HG6.out.g (by decide)
    have hgr := HG6.out.after_alloc
    have hsz := HSz.out
    have hbx : Below w.heap.size W w6 := hgr.below (by omega) (fun k hk => by have := (HI3.out.lt k hk).1; omega)
    have hne6 : ∀ g, v6.ownBlock = some g → g ≠ w.heap.size + 1 := fun g hg e => own_notBlk HO6.out hI2a (by decide) (by rw [hg, e])
    have hset := Below.setCell hbx (p := ⟨w.heap.size + 1, 0, none⟩) (by simp) v6
    refine ⟨((KeepsOthers.alloc W _).trans (ko_cat hI3a HG6.out)).trans (KeepsOthers.setCell _ _ _), ?_, ?_⟩
    · exact (((KT.of_below (bel_al (Below.refl _ _) _) (by omega)).trans (KT.cat hI3a HG6.out (by simp; omega) (by omega))).trans (KT.set _ (by omega) (by omega)))
    · refine ⟨HI1.out.trans hset, ⟨v6, hI2a.set_ 0 v6, ?_, ?_, HI6.out⟩, getI_snoc HI5.out HGp.out⟩
      · have h := own_block HO6.out (w' := w6.setCell ⟨w.heap.size + 1, 0, none⟩ v6) fun g hg => Below.heap_setCell _ _ _ _ (hne6 g hg)
        rw [List.length_append, List.map_append, ← HKk.out]
        exact h
      · have h := RowsOK.grow (RowsOK.snoc HI4.out ⟨HRow.out, HNo.out⟩) hgr
        intro t ht
        obtain ⟨h1, h2⟩ := h t ht
        refine ⟨⟨?_, h1.2⟩, fun x hx => ⟨by rw [World.size_setCell]; exact (h2 x hx).1, (h2 x hx).2⟩⟩
        refine sl_far h1.1 (fun a ha e => ?_) _
        have h8 := HI6.out t ht a ha
        have e' : a.block = w.heap.size + 1 := e
        omega
  case done =>
    rintro D1 xs W hD hS ⟨i1, ⟨v, i2, i3, i4, i6⟩, i5⟩ hK1
    have cv := i2.cell 0
    simp at cv
    have HI1 := Lib.hid i1
    have HI3 := Lib.hid i3
    have HI4 := Lib.hid i4
    have HI5 := Lib.hid i5
    have HS := Lib.hid hS
    have HK1 := Lib.hid hK1
    have HD := Lib.hid (show w.heap.size ≤ D1 from Nat.le_trans HB5.out.size hD)
    clear i1 i2 i3 i4 i5 i6 hS hK1 hD
    obtain ⟨A, c, rfl, hsl⟩ := Sl.own HI3.out
    go_wp2_with fail
    refine mks1 rfl HK1.out (v := .slice A xs.length c) (by simp [results, Tryd.results36, go_sem]) ⟨A, c, xs, rfl, getI_all HI5.out HS.out, ?_, ?_, ?_⟩
    · exact sl_gb hsl (grownBy_putObj' W D1 (.deferred none)) (fun r e => by cases e; exact ⟨_, HK1.out, rfl⟩)
    · exact fun t ht => row_gb (HI4.out t ht).1 (grownBy_putObj' W D1 (.deferred none)) (fun r e => by cases e; exact ⟨_, HK1.out, rfl⟩)
    · exact bel_gb HI1.out (Nat.le_refl _) (grownBy_putObj' W D1 (.deferred none)) (fun r e => by cases e; exact HD.out)
end Go.Proofs.YtmonepclhbappaaDoor
/-
  Rows of ints that came in.
-/
namespace Go.Proofs.YtmonepclhbappaaDoor
open Go.ChangeShapes Go.WideShapes Go.ChangeAt Go.RowKit
set_option linter.unusedVariables false
section
variable {H : Type} {enc : TypeId × Value → H} {w : World} {base : Nat} {spare : Nat → Bool} {held : Bool}
theorem open_row {fuel : Nat} {v : Value} {y : DataW H × List MemPlace} (h : DataW.trod enc Tryd.prog w base spare held fuel 22 [v] = some y) : ∃ t : Option Addr × Nat × List Int, v = rv t ∧ RowOK w t := by
  rcases Deep.open_slice Tryd.underlying22 h with ⟨h0, _⟩ | ⟨a, len, cap, m, f', D, Pl, hv, _, hl, hm, hmm, _, hx⟩
  · injection h0 with h0 _
    exact ⟨(none, 0, []), h0, Sl.nil _ _ _, Nat.le_refl _, Nat.zero_le _⟩
  · injection hv with hv _
    subst hv
    obtain ⟨_, zs, h1, h2, _⟩ := open_sl_ints Tryd.underlying22 Tryd.underlying3 (by kernel_rfl) h
    subst h1
    exact ⟨(some a, cap, zs), rfl, h2, hl, Nat.le_trans hm (by decide)⟩
theorem rows_of {w : World} : ∀ css : List (List Value), (∀ cs ∈ css, ∃ t, cs = [rv t] ∧ RowOK w t) → ∃ its : List (Option Addr × Nat × List Int), css.flatten = its.map rv ∧ its.length = css.length ∧ AllRows w its
  | [], _ => ⟨[], rfl, rfl, fun t ht => by cases ht⟩
  | cs :: css, h => by
    obtain ⟨t, rfl, ht⟩ := h cs (List.mem_cons_self ..)
    obtain ⟨its, h1, h2, h3⟩ := rows_of css fun c hc => h c (List.mem_cons_of_mem _ hc)
    refine ⟨t :: its, by rw [List.flatten_cons, h1]; rfl, by simp [h2], fun u hu => ?_⟩
    rcases List.mem_cons.1 hu with rfl | hu
    · exact ht
    · exact h3 u hu
theorem open_sl_rows {fuel n c : Nat} {A : Option Addr} {x : DataW H × List MemPlace} (h : DataW.trod enc Tryd.prog w base spare held fuel 40 [.slice A n c] = some x) :
    n ≤ maxLen ∧ ∃ its : List (Option Addr × Nat × List Int), its.length = n ∧ Sl w 1 A n (its.map rv) ∧ AllRows w its := by
  obtain ⟨hm, css, h1, h2, h3⟩ := open_sl (s := 1) (by kernel_rfl) (by omega) Tryd.underlying40 h
  obtain ⟨its, h4, h5, h6⟩ := rows_of (w := w) css fun cs hc => by
    obtain ⟨hl, fu, y, hy⟩ := h3 cs hc
    obtain ⟨v, rfl⟩ : ∃ v, cs = [v] := List.length_eq_one_iff.1 hl
    obtain ⟨t, rfl, ht⟩ := open_row hy
    exact ⟨t, rfl, ht⟩
  rw [h4] at h2
  exact ⟨hm, its, by omega, h2, h6⟩
end
end Go.Proofs.YtmonepclhbappaaDoor
/-
  The document's SameInts changes nothing but what is drawn.
-/
namespace Go.Proofs.YtmonepclhbappaaDoor
open Go.RowKit
set_option maxRecDepth 100000
set_option linter.unusedVariables false

set_option maxHeartbeats 1000000 in
theorem SameInts_q (p q : List Int) (A B : Option Addr) (n m c d : Nat) (w : World) (hl : p.length = n) (hm : q.length = m) (hs : Sl w 1 A n (p.map (Value.int .i64))) (ht : Sl w 1 B m (q.map (Value.int .i64))) (hn : n ≤ 9223372036854775807) :
    Calls Tryd.prog 24 #[.slice A n c, .slice B m d] w fun e w' => e = .returned (.bool (decide (p = q))) ∧ ∃ k, w' = w.drewN k := by
  go_enter Tryd.func24, Tryd.ntmps24
  by_cases hnm : n = m
  · subst hnm
    go_wp2
    go_loopw [5] (fun i wr => ∃ k z : Nat, k ≤ n ∧ i = .int .i64 k ∧ p.take k = q.take k ∧ wr = w.drewN z) (fun i _ => n - (intOf i).toNat)
    case atStart => exact ⟨0, 0, Nat.zero_le _, rfl, rfl, rfl⟩
    case round =>
      obtain ⟨k, z, hk, rfl, heq, rfl⟩ := hrel
      by_cases hlt : k < n
      · have hj : k < p.length := by omega
        have hj' : k < q.length := by omega
        obtain ⟨b, off, u, rfl, e1, c1⟩ := hs.one hlt
        obtain ⟨b', off', u', rfl, e2, c2⟩ := ht.one hlt
        rw [List.getElem?_map, List.getElem?_eq_getElem hj] at e1
        rw [List.getElem?_map, List.getElem?_eq_getElem hj'] at e2
        obtain rfl := Option.some.inj e1
        obtain rfl := Option.some.inj e2
        have HT := Lib.hid (List.take_succ_eq_append_getElem hj)
        have HT' := Lib.hid (List.take_succ_eq_append_getElem hj')
        have HE := Lib.hid heq
        have HP := Lib.hid (fun h : p = q => (by subst h; rfl : p[k] = q[k]))
        generalize p[k] = x at *
        generalize q[k] = y at *
        clear e1 e2 heq hs ht
        by_cases hxy : x = y
        · subst hxy
          go_wp2_with fail
          go_quiet (fail)
          go_wp2_with fail
          go_roundw
          case rel => exact ⟨k + 1, _, by omega, by go_num, by rw [HT.out, HT'.out, HE.out], rfl⟩
          case measure => simp [intOf]; omega
        · have hb1 : (x == y) = false := by simpa using hxy
          go_wp2_with fail
          go_quiet (fail)
          go_wp2_with fail
          go_ret
          exact ⟨ret_bool (decide_eq_false (fun h => hxy (HP.out h))).symm, _, World.drewN_drewN _ _ _⟩
      · obtain rfl : k = n := by omega
        rw [List.take_of_length_le (by omega), List.take_of_length_le (by omega)] at heq
        have HE := Lib.hid heq
        clear heq hs ht
        go_wp2
        go_ret
        exact ⟨ret_bool (decide_eq_true HE.out).symm, _, rfl⟩
  · have hne : p ≠ q := fun h => hnm (by rw [← hl, ← hm, h])
    have HN := Lib.hid hne
    have hb1 : ((n : Int) == (m : Int)) = false := by simp; omega
    clear hne hs ht
    go_wp2
    go_ret
    exact ⟨ret_bool (decide_eq_false HN.out).symm, 0, rfl⟩
end Go.Proofs.YtmonepclhbappaaDoor
/-
  Parts of a split in memory.
-/
namespace Go.Proofs.YtmonepclhbappaaDoor
open Go.RowKit
set_option linter.unusedVariables false
theorem part_atR {w : World} {b off k t : Nat} {o : Option Addr} {tot : Int} (hs : Sl w 2 o k (Rk.cells (Rk.parts tot k))) (ho : o = some ⟨b, off, none⟩) (ht : t < k) :
    w.cell? ⟨b, off + t * 2, none⟩ = some (.int .i64 (Rk.start tot k (t : Int))) ∧ w.cell? ⟨b, off + t * 2 + 1, none⟩ = some (.int .i64 (Rk.start tot k ((t : Int) + 1))) := by
  subst ho
  obtain ⟨b', off', e, hc⟩ := hs.at_ ht
  cases e
  have hl : t < (Rk.parts tot k).length := by rw [Rk.parts_length]; exact ht
  obtain ⟨g0, g1⟩ := Rk.cells_at (Rk.parts tot k) t hl
  obtain ⟨u0, e0, c0⟩ := hc 0 (by omega)
  obtain ⟨u1, e1, c1⟩ := hc 1 (by omega)
  rw [g0] at e0
  rw [g1] at e1
  obtain rfl := Option.some.inj e0
  obtain rfl := Option.some.inj e1
  have e2 : (Rk.parts tot k)[t] = (Rk.start tot k (t : Int), Rk.start tot k ((t : Int) + 1)) := by
    have h9 := List.getElem?_eq_getElem hl
    have h8 : (Rk.parts tot k)[t]? = some (Rk.start tot k (t : Int), Rk.start tot k ((t : Int) + 1)) := by unfold Rk.parts; rw [List.getElem?_map, List.getElem?_range ht]; rfl
    exact Option.some.inj (h9.symm.trans h8)
  rw [e2] at c0 c1
  exact ⟨c0, by rw [Nat.add_assoc]; exact c1⟩
/-- Parts side by side. -/
theorem startsR (tot : Int) (k : Nat) (h0 : 0 ≤ tot) (t : Nat) (ht : t < k) : 0 ≤ Rk.start tot k (t : Int) ∧ Rk.start tot k (t : Int) ≤ Rk.start tot k ((t : Int) + 1) ∧ Rk.start tot k ((t : Int) + 1) ≤ tot ∧
    ∃ e : Int, 0 ≤ e ∧ e ≤ 1 ∧ e = (if (t : Int) < tot % (k : Int) then 1 else 0) ∧ Rk.start tot k ((t : Int) + 1) = Rk.start tot k (t : Int) + tot / (k : Int) + e := by
  have h1 := Rk.start_le tot k (t : Int) h0 (by omega) (by omega) (by omega)
  have h2 := Rk.start_le tot k ((t : Int) + 1) h0 (by omega) (by omega) (by omega)
  have h3 := Rk.start_succ tot k (t : Int)
  have h4 : 0 ≤ tot / (k : Int) := Int.ediv_nonneg h0 (by omega)
  refine ⟨h1.1, ?_, h2.2, (if (t : Int) < tot % (k : Int) then 1 else 0), by split <;> omega, by split <;> omega, rfl, h3⟩
  rw [h3]
  split <;> omega
end Go.Proofs.YtmonepclhbappaaDoor
