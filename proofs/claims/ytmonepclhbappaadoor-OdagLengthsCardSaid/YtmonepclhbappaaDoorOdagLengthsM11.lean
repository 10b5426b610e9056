/-
  Part 11 of the proof of OdagLengths: OdE, Law13, LenP, RankAt1, RankE, KeepT, RankG.
-/
import Derived.Test.YtmonepclhbappaaDoorOdagLengthsM10
import Derived.Test.YtmonepclhbappaaDoorOdagLengthsM9
import Derived.Deep.RegionHeld3
import Derived.RangeFuncFrom
import Derived.Test.YtmonepclhbappaaDoorOdagLengthsM8
import Derived.Test.YtmonepclhbappaaDoorOdagLengthsM4
import Derived.Test.YtmonepclhbappaaDoorOdagLengthsM2
import Derived.RangeFuncNested
import Derived.RangeFuncBound
import Derived.RangeFuncCalls
import Derived.RangeFuncLeaves
import Derived.Shelf.Abstract
import Derived.Shelf.RegionOpen
import Derived.OwnWalkIn
import Derived.TacticsInMore
import Derived.LoopNIn
import Derived.LoopIn
/-
  Odags: Cost: numbers and links.
-/
namespace Go.Proofs.YtmonepclhbappaaDoor
open Go.RowKit Go.Maps
set_option maxRecDepth 100000
set_option linter.unusedVariables false

/-- Numbers and links of a row, of rows. -/
def costR (r : Rw) : Nat := (r.map fun q => 1 + q.2.length).sum
def costO (od : List Rw) : Nat := (od.map costR).sum
theorem costR_snoc (r : Rw) (q : Int × List Int) : costR (r ++ [q]) = costR r + (1 + q.2.length) := by unfold costR; rw [List.map_append, List.sum_append]; simp
theorem costR_cons (q : Int × List Int) (r : Rw) : costR (q :: r) = (1 + q.2.length) + costR r := by unfold costR; rw [List.map_cons, List.sum_cons]
theorem costR_perm {r r' : Rw} (h : r.Perm r') : costR r = costR r' := by
  induction h with
  | nil => rfl
  | cons x _ ih => rw [costR_cons, costR_cons, ih]
  | swap x y l => rw [costR_cons, costR_cons, costR_cons, costR_cons]; omega
  | trans _ _ a b => rw [a, b]
theorem costO_take {od : List Rw} {i : Nat} (h : i < od.length) : costO (od.take (i + 1)) = costO (od.take i) + costR (od.getD i []) := by
  unfold costO
  rw [List.take_succ_eq_append_getElem h, List.map_append, List.sum_append, List.getD_eq_getElem?_getD, List.getElem?_eq_getElem h]
  simp
theorem costR_le {K : Nat} {r : Rw} (h : ∀ q ∈ r, q.2.length ≤ K) : costR r ≤ r.length * (K + 1) := by
  induction r with
  | nil => simp [costR]
  | cons q r ih =>
    have h1 := h q (List.mem_cons_self ..)
    have h2 := ih fun x hx => h x (List.mem_cons_of_mem _ hx)
    have e : costR (q :: r) = (1 + q.2.length) + costR r := by unfold costR; rw [List.map_cons, List.sum_cons]
    rw [e, List.length_cons, Nat.add_mul]
    omega

set_option maxHeartbeats 8000000 in
theorem Cost_any (p N : Nat) (od : List Rw) (w : World) (h : OdM w p od) (hO : OdOK od N) :
    Calls Tryd.prog 25 #[.pointer (some ⟨p, 0, none⟩)] w fun e w' => e = .returned (.int .i64 (costO od : Nat)) ∧ Below w.heap.size w w' := by
  have HOd := Lib.hid h
  have HO := Lib.hid hO
  have HLn := Lib.hid (OdLen_any p od w h)
  rw [hO.len] at HLn
  have hN8 := hO.h8
  have HRl := Lib.hid (show ∀ i, i < N → costR (od.getD i []) ≤ 3600060000 ∧ ∀ d : Rw, d.length ≤ (od.getD i []).length → (∀ q ∈ d, q ∈ od.getD i []) → costR d ≤ 3600060000 from fun i hi => by
    have h2 := hO.B _ (getD_memO (show i < od.length by rw [hO.len]; exact hi))
    have h3 := fun (d : Rw) (h5 : d.length ≤ (od.getD i []).length) (h6 : ∀ q ∈ d, q ∈ od.getD i []) => costR_le (r := d) (K := 60000) fun q hq => h2.2 q (h6 q hq)
    have h4 : ∀ d : Rw, d.length ≤ (od.getD i []).length → (∀ q ∈ d, q ∈ od.getD i []) → costR d ≤ 3600060000 := fun d h5 h6 => Nat.le_trans (h3 d h5 h6) (by have := h2.1; have h7 : d.length * (60000 + 1) ≤ 60000 * (60000 + 1) := Nat.mul_le_mul_right _ (by omega); omega)
    exact ⟨h4 _ (Nat.le_refl _) (fun q hq => hq), h4⟩)
  have HCt := Lib.hid (show ∀ i, i ≤ N → costO (od.take i) ≤ i * 3600060000 from fun i => by
    induction i with
    | zero => intro _; simp [costO]
    | succ i ih =>
      intro hi
      rw [costO_take (by rw [hO.len]; omega)]
      have := ih (by omega)
      have := (HRl.out i (by omega)).1
      omega)
  clear h hO
  go_enter Tryd.func25, Tryd.ntmps25
  go_wp2_with (go_at_call 52; refine HLn.out.mono ?_; clear HLn; rintro e w' ⟨rfl, rfl⟩)
  go_loopw [3, 9] (fun nv iv wr => ∃ (i : Nat), i ≤ N ∧ iv = .int .i64 (i : Int) ∧ nv = .int .i64 ((costO (od.take i) : Nat) : Int) ∧ Hid (Below w.heap.size w wr)) (fun _ iv _ => N - (intOf iv).toNat)
  case atStart => exact ⟨0, Nat.zero_le _, rfl, rfl, Lib.hid (Below.refl _ _)⟩
  case round =>
    obtain ⟨i, hi, rfl, rfl, HB⟩ := hrel
    by_cases hiN : i < N
    · have hiN' : (i : Int) < (N : Int) := by omega
      have hio : i < od.length := by rw [HO.out.len]; exact hiN
      obtain ⟨rb, ro, on, oc, mb, hon, co0, hoc, co1, hrow0⟩ := (HOd.out.keep HB.out).row hio
      obtain ⟨row, hrow⟩ : ∃ row, row = od.getD i [] := ⟨_, rfl⟩
      have HTk := Lib.hid (costO_take hio)
      rw [← hrow] at hrow0 HTk
      have HRowE := Lib.hid hrow
      have HRw := Lib.hid hrow0
      have hion : (i : Int) < (on : Int) := by rw [hon]; omega
      have hi0 : (0 : Int) ≤ (i : Int) := by omega
      obtain ⟨cb, hcb⟩ : ∃ cb, cb = costO (od.take i) := ⟨_, rfl⟩
      have hcbl : cb ≤ 8 * 3600060000 := by rw [hcb]; exact Nat.le_trans (HCt.out i hi) (Nat.mul_le_mul_right _ (by omega))
      rw [← hcb] at HTk ⊢
      have HRb := Lib.hid (HRl.out i hiN)
      rw [← hrow] at HRb
      clear hcb hrow hrow0 hon hio
      go_wp2_with (at_range; refine wpList_rangeR _ rfl _ rfl mb row rfl HRw.out ?_; intro w2 hrg hb2 hs2; have HRg := Lib.hid hrg; have HB2 := Lib.hid hb2; clear hrg hb2 hs2)
      obtain ⟨it, hit⟩ : ∃ it, it = wr.heap.size := ⟨_, rfl⟩
      have HIt := Lib.hid (show w.heap.size ≤ it from by rw [hit]; exact HB.out.size)
      have HB22 := Lib.hid (HB.out.andThen HB2.out)
      rw [← hit] at HRg ⊢
      clear co0 co1 hit HB HB2 HRw
      go_wp2_with fail
      go_frame
      go_loopw [3] (fun nv wx => ∃ done : Rw, nv = .int .i64 ((cb + costR done : Nat) : Int) ∧ Hid (RangesR wx mb it row done) ∧ Hid (Below w.heap.size w wx)) (fun _ wx => wx.rangeLeft mb it)
      case atStart => exact ⟨[], rfl, HRg, HB22⟩
      case round =>
        clear HRg HB22
        obtain ⟨done, rfl, HRg, HBx⟩ := hrel
        go_wp2_with (at_next; refine wpList_nextR _ rfl _ rfl mb it _ done rfl HRg.out ?_ ?_)
        · intro hperm
          have HPm := Lib.hid hperm
          clear hperm
          go_wp2_with fail
          go_roundw
          case rel => exact ⟨i + 1, by omega, by go_num, by rw [HTk.out, costR_perm HPm.out]; first | rfl | (congr 1; omega), HBx⟩
          case measure => (simp [intOf] <;> omega)
        · intro y A c l w3 hyl hyk hrow3 hrg3 hlt3 hg3 hnc3 hsz3 hen3
          have HRg3 := Lib.hid hrg3
          have HB3 := Lib.hid (bel_turn HBx.out hg3 HIt.out HBx.out.size)
          have hcd := HRb.out.2 (done ++ [(y, l)]) (done_leR hrg3) hrg3.sub
          have HSn := Lib.hid (costR_snoc done (y, l))
          rw [HSn.out] at hcd
          have HLt3 := Lib.hid hlt3
          obtain ⟨cd, hcd2⟩ : ∃ cd, cd = costR done := ⟨_, rfl⟩
          rw [← hcd2] at HSn hcd ⊢
          simp only at hcd
          have hw1 : IntKind.i64.wrap (1 + (l.length : Int)) = 1 + (l.length : Int) := by rw [IntKind.wrap_i64]; omega
          have hw2 : IntKind.i64.wrap (((cb + cd : Nat) : Int) + (1 + (l.length : Int))) = ((cb + cd : Nat) : Int) + (1 + (l.length : Int)) := by rw [IntKind.wrap_i64]; omega
          have hw3 : IntKind.i64.wrap ((cb : Int) + (cd : Int) + (1 + (l.length : Int))) = (cb : Int) + (cd : Int) + (1 + (l.length : Int)) := by rw [IntKind.wrap_i64]; omega
          clear hcd2 hyl hyk hrow3 hrg3 hlt3 hg3 hnc3 hsz3
          go_wp2_with fail
          go_roundw
          case rel => exact ⟨done ++ [(y, l)], by rw [HSn.out]; congr 1; simp only; omega, HRg3, HB3⟩
          case measure => exact HLt3.out
    · obtain rfl : i = N := by omega
      have hiN' : ¬ (i : Int) < (i : Int) := by omega
      have HTk := Lib.hid (show od.take i = od from List.take_of_length_le (by rw [HO.out.len]; exact Nat.le_refl _))
      rw [HTk.out]
      go_wp2_with fail
      go_ret
      exact ⟨rfl, HB.out⟩
end Go.Proofs.YtmonepclhbappaaDoor
/-
  The laws' alive of layer 13: the chapter's example; lengths that can't be.
-/
namespace Go.Proofs.YtmonepclhbappaaDoor
open Go.RowKit Go.Maps
set_option maxRecDepth 100000
set_option linter.unusedVariables false

theorem fresh_bad (n : Int) (w : World) (h : n < 1 ∨ 8 < n) : Calls Tryd.prog 53 #[.int .i64 n] w fun e w' => ∃ ev, e = .returned (.tuple #[.pointer none, ev]) ∧ (Err.flt 1 0 ⟨#[108, 101, 110, 103, 116, 104]⟩).At w' ev ∧ Below w.heap.size w w' := by
  by_cases h1 : n < 1
  · clear h
    go_enter Tryd.func53, Tryd.ntmps53
    go_wp2_with (go_at_call 44; refine (New_err _ _ _ _).mono ?_; rintro e w' ⟨v, rfl, hv, hb⟩; have HV := Lib.hid hv; have HB := Lib.hid hb; clear hv hb)
    go_ret2
    exact ⟨_, rfl, HV.out, HB.out⟩
  · have h8 : 8 < n := by omega
    clear h
    go_enter Tryd.func53, Tryd.ntmps53
    go_wp2_with (go_at_call 44; refine (New_err _ _ _ _).mono ?_; rintro e w' ⟨v, rfl, hv, hb⟩; have HV := Lib.hid hv; have HB := Lib.hid hb; clear hv hb)
    go_ret2
    exact ⟨_, rfl, HV.out, HB.out⟩
theorem OfOd_bad (n : Int) (Q : Option Addr) (m c : Nat) (w : World) (h : n < 1 ∨ 8 < n) : Calls Tryd.prog 21 #[.int .i64 n, .slice Q m c] w fun e w' => ∃ ev, e = .returned (.tuple #[.pointer none, ev]) ∧ (Err.flt 1 0 ⟨#[108, 101, 110, 103, 116, 104]⟩).At w' ev ∧ Below w.heap.size w w' := by
  have HFr := Lib.hid (fresh_bad n w h)
  clear h
  go_enter Tryd.func21, Tryd.ntmps21
  go_upto_region 2 with (go_at_call 53; refine HFr.out.mono ?_; clear HFr; rintro e w1 ⟨v, rfl, ⟨g, rfl, hbk⟩, hb⟩; have HV := Lib.hid hbk; have HB := Lib.hid hb; clear hbk hb)
  go_wp2_with fail
  go_ret2
  exact ⟨_, rfl, ⟨g, rfl, HV.out⟩, HB.out⟩
theorem blk_sl {w : World} {g : Nat} {t : TypeId} {cs : Array Value} (h : Blk w g t cs) : Sl w 1 (some ⟨g, 0, none⟩) cs.size cs.toList :=
  ⟨by simp, fun _ => ⟨g, 0, rfl, fun j u hu => by rw [Nat.zero_add, h.cell j]; simpa using hu⟩⟩

/-- Few lists, none longer than eight. -/
theorem odOf_ok8 (n : Nat) (ls : List (List Int)) (h1 : 1 ≤ n) (h8 : n ≤ 8) (hl : ls.length ≤ 16) (h : ∀ x ∈ ls, x.length = n) (hx : ∀ x ∈ ls, ∀ y ∈ x, numOK y) : OdOK (odOf n ls) n where
  B := fun r hr => (odOf_B n _ r hr).mono (by omega)
  len := odOf_len n _
  h1 := h1
  h8 := by omega
  Nu := odOf_nums n _ h hx
  C := odOf_closed n _ h
  F := fits_of (K := 16) (fun r hr => (odOf_B n _ r hr).mono hl) (by decide) (by rw [odOf_len]; exact h1) (by rw [odOf_len]; exact Nat.le_trans (Nat.pow_le_pow_right (by decide) h8) (by decide))
  P := fun p hp => by rw [allP_el (by rw [odOf_len]; exact h1) hp, odOf_len]
  S := odOf_rising n ls h
theorem ex_tot : totP (odOf 2 [[1, 2], [3, 2], [3, 4]]) = 3 := by kernel_rfl

set_option maxHeartbeats 4000000 in
theorem alive13 (w : World) (hg : ErrT w) : Calls Tryd.prog 20 #[] w fun e w' => e = .returned (.bool true) ∧ Below w.heap.size w w' := by
  obtain ⟨W3, hW3⟩ : ∃ W3, ((w.alloc (.cells #[.int .i64 1, .int .i64 2] 3)).alloc (.cells #[.int .i64 3, .int .i64 2] 3)).alloc (.cells #[.int .i64 3, .int .i64 4] 3) = W3 := ⟨_, rfl⟩
  obtain ⟨W4, hW4⟩ : ∃ W4, W3.alloc (.cells #[.slice (some ⟨w.heap.size, 0, none⟩) 2 2, .slice (some ⟨w.heap.size + 1, 0, none⟩) 2 2, .slice (some ⟨w.heap.size + 1 + 1, 0, none⟩) 2 2] 22) = W4 := ⟨_, rfl⟩
  have hb4 : Below w.heap.size w W4 := by rw [← hW4, ← hW3]; exact bel_al (bel_al (bel_al (bel_al (Below.refl _ _) _) _) _) _
  have r1 : Blk W4 w.heap.size 3 #[.int .i64 1, .int .i64 2] := by rw [← hW4, ← hW3]; exact (((Blk.new w _ _).alloc _).alloc _).alloc _
  have r2 : Blk W4 (w.heap.size + 1) 3 #[.int .i64 3, .int .i64 2] := by
    have := ((Blk.new (w.alloc (.cells #[.int .i64 1, .int .i64 2] 3)) 3 #[.int .i64 3, .int .i64 2]).alloc (.cells #[.int .i64 3, .int .i64 4] 3))
    rw [World.size_alloc, hW3] at this
    rw [← hW4]
    exact this.alloc _
  have r3 : Blk W4 (w.heap.size + 1 + 1) 3 #[.int .i64 3, .int .i64 4] := by
    have := Blk.new ((w.alloc (.cells #[.int .i64 1, .int .i64 2] 3)).alloc (.cells #[.int .i64 3, .int .i64 2] 3)) 3 #[.int .i64 3, .int .i64 4]
    rw [World.size_alloc, World.size_alloc, hW3] at this
    rw [← hW4]
    exact this.alloc _
  have r4 : Blk W4 W3.heap.size 22 #[.slice (some ⟨w.heap.size, 0, none⟩) 2 2, .slice (some ⟨w.heap.size + 1, 0, none⟩) 2 2, .slice (some ⟨w.heap.size + 1 + 1, 0, none⟩) 2 2] := by
    rw [← hW4]
    exact Blk.new W3 _ _
  obtain ⟨its, hits⟩ : ∃ its : List (Option Addr × Nat × List Int), its = [(some ⟨w.heap.size, 0, none⟩, 2, [1, 2]), (some ⟨w.heap.size + 1, 0, none⟩, 2, [3, 2]), (some ⟨w.heap.size + 1 + 1, 0, none⟩, 2, [3, 4])] := ⟨_, rfl⟩
  have hls : its.map (·.2.2) = [[1, 2], [3, 2], [3, 4]] := by rw [hits]; rfl
  have hlen : ∀ x ∈ its.map (·.2.2), x.length = 2 := by rw [hls]; intro x hx; simp at hx; rcases hx with rfl | rfl | rfl <;> rfl
  have hnum : ∀ x ∈ its.map (·.2.2), ∀ y ∈ x, numOK y := by
    rw [hls]
    intro x hx y hy
    unfold numOK
    simp at hx
    rcases hx with rfl | rfl | rfl <;> (simp at hy; omega)
  have HOf := Lib.hid (OfOd_any 2 its (some ⟨W3.heap.size, 0, none⟩) 3 3 W4 (by omega) (by omega) (by rw [hits]; rfl) (by omega) (by
      have := blk_sl r4
      rw [hits]
      exact this) (by
      rw [hits]
      intro t ht
      simp at ht
      rcases ht with rfl | rfl | rfl
      · exact ⟨blk_sl r1, Nat.le_refl _, by simp⟩
      · exact ⟨blk_sl r2, Nat.le_refl _, by simp⟩
      · exact ⟨blk_sl r3, Nat.le_refl _, by simp⟩) (fun t ht => ⟨hlen _ (List.mem_map.2 ⟨t, ht, rfl⟩), hnum _ (List.mem_map.2 ⟨t, ht, rfl⟩)⟩))
  have HOk := Lib.hid (odOf_ok8 2 (its.map (·.2.2)) (by omega) (by omega) (by rw [hls]; decide) hlen hnum)
  have HTot := Lib.hid (show totP (odOf 2 (its.map (·.2.2))) = 3 from by rw [hls]; exact ex_tot)
  obtain ⟨od, hod⟩ : ∃ od, od = odOf 2 (its.map (·.2.2)) := ⟨_, rfl⟩
  rw [← hod] at HOf HOk HTot
  have HG := Lib.hid hg
  have HB4 := Lib.hid hb4
  clear hod hlen hnum hls hits r1 r2 r3 r4 hb4 hg
  go_enter Tryd.func20, Tryd.ntmps20
  go_wp2_with (first
    | (go_at_call 21; refine HOf.out.mono ?_; clear HOf hW3 hW4; rintro e w1 ⟨p, rfl, ho, hb⟩; have HOd := Lib.hid ho; have HB1 := Lib.hid hb; clear ho hb)
    | (go_at_call 52; refine (by have h := OdLen_any p od w1 HOd.out; rw [HOk.out.len] at h; exact h : Calls _ _ _ _ _).mono ?_; rintro e w2 ⟨rfl, rfl⟩)
    | (go_at_call 22; refine (Count_any p 2 od w1 HOd.out HOk.out).mono ?_; rw [HTot.out]; rintro e w3 ⟨rfl, hb⟩; have HB3 := Lib.hid hb; clear hb)
    | (go_at_call 21; refine (OfOd_bad 9 none 0 0 w3 (by omega)).mono ?_; rintro e w4 ⟨ev, rfl, ⟨g, rfl, hbk⟩, hb⟩; have HCo := Lib.hid (Code_flt g 1 0 _ w4 (((HG.out.keep HB4.out).keep HB1.out).keep HB3.out |>.keep hb) hbk); have HB5 := Lib.hid hb; clear hbk hb)
    | (go_at_call 35; refine HCo.out.mono ?_; clear HCo; rintro e w5 ⟨rfl, hb⟩; have HB6 := Lib.hid hb; clear hb))
  go_ret
  exact ⟨rfl, (((HB4.out.andThen HB1.out).andThen HB3.out).andThen HB5.out).andThen HB6.out⟩
end Go.Proofs.YtmonepclhbappaaDoor
/-
  Odags plainly: of lists whose numbers go with all numbers; of none; of one alone.
-/
namespace Go.Proofs.YtmonepclhbappaaDoor
open Go.RowKit
set_option linter.unusedVariables false

def altL (n : Nat) (a b : Int) : List Int := (List.range n).map fun i => if i % 2 = 1 then b else a
def pre2 (n w a b : Nat) : List (List Int) := ((List.range a).flatMap fun c => (List.range w).map fun d => altL n (c : Nat) (d : Nat)) ++ (List.range b).map fun d => altL n (a : Nat) (d : Nat)
theorem altL_len (n : Nat) (a b : Int) : (altL n a b).length = n := by unfold altL; simp
theorem pre2_step (n w a b : Nat) : pre2 n w a (b + 1) = pre2 n w a b ++ [altL n (a : Nat) (b : Nat)] := by
  unfold pre2
  rw [List.range_succ, List.map_append, List.append_assoc]
  rfl
theorem pre2_row (n w a : Nat) : pre2 n w a w = pre2 n w (a + 1) 0 := by
  unfold pre2
  rw [List.range_succ, List.flatMap_append]
  simp
theorem pre2_len (n w : Nat) : ∀ a b, (pre2 n w a b).length = a * w + b
  | 0, b => by unfold pre2; simp
  | a + 1, b => by
    have h : (pre2 n w (a + 1) b).length = (pre2 n w (a + 1) 0).length + b := by unfold pre2; simp
    rw [h, ← pre2_row, pre2_len n w a w, Nat.succ_mul]
theorem pre2_el {n w a b : Nat} {x : List Int} (h : x ∈ pre2 n w a b) : ∃ c d : Nat, (c ≤ a ∧ (d < w ∨ d < b)) ∧ x = altL n (c : Nat) (d : Nat) := by
  unfold pre2 at h
  rcases List.mem_append.1 h with h | h
  · obtain ⟨c, hc, h⟩ := List.mem_flatMap.1 h
    obtain ⟨d, hd, rfl⟩ := List.mem_map.1 h
    exact ⟨c, d, ⟨by have := List.mem_range.1 hc; omega, .inl (List.mem_range.1 hd)⟩, rfl⟩
  · obtain ⟨d, hd, rfl⟩ := List.mem_map.1 h
    exact ⟨a, d, ⟨Nat.le_refl _, .inr (List.mem_range.1 hd)⟩, rfl⟩
theorem altL_num {n : Nat} {a b x : Int} (ha : numOK a) (hb : numOK b) (h : x ∈ altL n a b) : numOK x := by
  obtain ⟨i, _, rfl⟩ := List.mem_map.1 h
  split
  · exact hb
  · exact ha
theorem pre2_zero (n w : Nat) (h : 1 ≤ w) : (pre2 n w w 0)[0]? = some (altL n 0 0) := by
  obtain ⟨v, rfl⟩ : ∃ v, w = v + 1 := ⟨w - 1, by omega⟩
  unfold pre2
  rw [List.range_succ_eq_map, List.flatMap_cons, List.map_cons]
  rfl

def okNW (n w : Nat) : Bool := ((List.range n).all fun i => decide (((odOf n (pre2 n w w 0)).getD i []).length = w) && ((odOf n (pre2 n w w 0)).getD i []).all fun q => decide (q.2.length = if i + 1 < n then w else 0)) && decide (costO (odOf n (pre2 n w w 0)) = n * w + (n - 1) * w * w)
theorem okNW_all : ((List.range 8).all fun n => (List.range 4).all fun w => okNW (n + 1) (w + 1)) = true := by kernel_rfl
theorem okNW_at {n w : Nat} (h1 : 1 ≤ n) (h8 : n ≤ 8) (hw : 1 ≤ w) (h4 : w ≤ 4) : okNW n w = true := by
  have h := List.all_eq_true.1 (List.all_eq_true.1 okNW_all (n - 1) (List.mem_range.2 (by omega))) (w - 1) (List.mem_range.2 (by omega))
  rwa [show n - 1 + 1 = n by omega, show w - 1 + 1 = w by omega] at h
theorem sumZ_const {f : Int → Int} {c : Int} : ∀ {l : List Int}, (∀ x ∈ l, f x = c) → sumZ (l.map f) = l.length * c
  | [], _ => by simp [sumZ]
  | x :: l, h => by
    rw [List.map_cons, sumZ, h x (List.mem_cons_self ..), sumZ_const fun y hy => h y (List.mem_cons_of_mem _ hy), List.length_cons]
    rw [show ((l.length + 1 : Nat) : Int) = (l.length : Int) + 1 from by omega, Int.add_mul]
    omega
theorem cnt_full {od : List Rw} {w : Nat} (hC : Closed od) (hI : ∀ i, i < od.length → IncR (od.getD i [])) (hl : ∀ i, i + 1 < od.length → ∀ q ∈ od.getD i [], q.2.length = w) : ∀ (d i : Nat) (a : Int), i + d + 1 = od.length → a ∈ (od.getD i []).map (·.1) → cnt od i a = ((w ^ d : Nat) : Int)
  | 0, i, a, hi, _ => by rw [cnt_last (by omega)]; rfl
  | d + 1, i, a, hi, ha => by
    obtain ⟨q, hq, rfl⟩ := List.mem_map.1 ha
    rw [cnt_step (by omega), (hI i (by omega)).lk hq, sumZ_const fun b hb => cnt_full hC hI hl d (i + 1) b (by omega) (hC i (by omega) q hq b hb), hl i (by omega) q hq, ← Int.natCast_mul, Nat.pow_succ, Nat.mul_comm]
theorem full_tot {n w : Nat} (h1 : 1 ≤ n) (h8 : n ≤ 8) (hw : 1 ≤ w) (h4 : w ≤ 4) : totP (odOf n (pre2 n w w 0)) = ((w ^ n : Nat) : Int) := by
  have hlen : ∀ x ∈ pre2 n w w 0, x.length = n := fun x hx => by
    obtain ⟨c, d, _, rfl⟩ := pre2_el hx
    exact altL_len _ _ _
  have hk := okNW_at h1 h8 hw h4
  have hk1 := (Bool.and_eq_true_iff.1 hk).1
  have hrow : ∀ i, i < n → ((odOf n (pre2 n w w 0)).getD i []).length = w ∧ ∀ q ∈ (odOf n (pre2 n w w 0)).getD i [], q.2.length = if i + 1 < n then w else 0 := fun i hi => by
    have h := Bool.and_eq_true_iff.1 (List.all_eq_true.1 hk1 i (List.mem_range.2 hi))
    exact ⟨of_decide_eq_true h.1, fun q hq => of_decide_eq_true (List.all_eq_true.1 h.2 q hq)⟩
  have hol := odOf_len n (pre2 n w w 0)
  rw [totP_sum, sumZ_const (c := ((w ^ (n - 1) : Nat) : Int)) fun a ha => cnt_full (odOf_closed n _ hlen) (fun i hi => (odOf_rising n _ hlen i hi).1) (fun i hi q hq => by
    have := (hrow i (by omega)).2 q hq
    rwa [if_pos (by omega)] at this) (n - 1) 0 a (by omega) ha]
  rw [List.length_map, (hrow 0 (by omega)).1, ← Int.natCast_mul]
  congr 1
  conv => rhs; rw [show n = (n - 1) + 1 by omega, Nat.pow_succ, Nat.mul_comm]
theorem full_cost {n w : Nat} (h1 : 1 ≤ n) (h8 : n ≤ 8) (hw : 1 ≤ w) (h4 : w ≤ 4) : costO (odOf n (pre2 n w w 0)) = n * w + (n - 1) * w * w :=
  of_decide_eq_true (Bool.and_eq_true_iff.1 (okNW_at h1 h8 hw h4)).2
def ok1N (n : Nat) : Bool := decide (allP (odOf n [altL n 0 0]) = [altL n 0 0]) && (decide (allP (odOf n []) = []) && decide (costO (odOf n []) = 0))
theorem ok1N_all : ((List.range 8).all fun n => ok1N (n + 1)) = true := by kernel_rfl
theorem ok1N_at {n : Nat} (h1 : 1 ≤ n) (h8 : n ≤ 8) : allP (odOf n [altL n 0 0]) = [altL n 0 0] ∧ totP (odOf n []) = 0 ∧ costO (odOf n []) = 0 := by
  have h := List.all_eq_true.1 ok1N_all (n - 1) (List.mem_range.2 (by omega))
  rw [show n - 1 + 1 = n by omega] at h
  have h2 := Bool.and_eq_true_iff.1 h
  have h3 := Bool.and_eq_true_iff.1 h2.2
  refine ⟨of_decide_eq_true h2.1, ?_, of_decide_eq_true h3.2⟩
  unfold totP
  rw [of_decide_eq_true h3.1]
  rfl
end Go.Proofs.YtmonepclhbappaaDoor
/-
  Ranks: At where there is no such rank, At and Rank of nothing.
-/
namespace Go.Proofs.YtmonepclhbappaaDoor
open Go.RowKit Go.Maps
set_option maxRecDepth 100000
set_option linter.unusedVariables false

theorem At_nil (n : Int) (w : World) : Calls Tryd.prog 38 #[.pointer none, .int .i64 n] w fun e w' => ∃ ev, e = .returned (.tuple #[.slice none 0 0, ev]) ∧ (Err.flt 10 0 ⟨#[114, 97, 110, 107, 115]⟩).At w' ev ∧ Below w.heap.size w w' := by
  go_enter Tryd.func38, Tryd.ntmps38
  go_wp2_with (go_at_call 44; refine (New_err _ _ _ _).mono ?_; rintro e w' ⟨v, rfl, hv, hb⟩; have HV := Lib.hid hv; have HB := Lib.hid hb; clear hv hb)
  go_ret2
  exact ⟨_, rfl, HV.out, HB.out⟩
theorem At_out (q p : Nat) (od : List Rw) (n : Int) (w : World) (h : RkM w q p od) (hn : n < 0 ∨ totP od ≤ n) : Calls Tryd.prog 38 #[.pointer (some ⟨q, 0, none⟩), .int .i64 n] w fun e w' => ∃ ev, e = .returned (.tuple #[.slice none 0 0, ev]) ∧ (Err.flt 3 0 ⟨#[114, 97, 110, 107]⟩).At w' ev ∧ Below w.heap.size w w' := by
  obtain ⟨mb, m, f, hq, _⟩ := h
  have c2 := hq.cell 2
  simp at c2
  clear hq
  by_cases h0 : n < 0
  · go_enter Tryd.func38, Tryd.ntmps38
    go_wp2_with (go_at_call 44; refine (New_err _ _ _ _).mono ?_; rintro e w' ⟨v, rfl, hv, hb⟩; have HV := Lib.hid hv; have HB := Lib.hid hb; clear hv hb)
    go_ret2
    exact ⟨_, rfl, HV.out, HB.out⟩
  · have h1 : totP od ≤ n := by omega
    clear hn
    go_enter Tryd.func38, Tryd.ntmps38
    go_wp2_with (go_at_call 44; refine (New_err _ _ _ _).mono ?_; rintro e w' ⟨v, rfl, hv, hb⟩; have HV := Lib.hid hv; have HB := Lib.hid hb; clear hv hb)
    go_ret2
    exact ⟨_, rfl, HV.out, HB.out⟩
theorem Rank_nil (A : Option Addr) (n c : Nat) (w : World) : Calls Tryd.prog 39 #[.pointer none, .slice A n c] w fun e w' => ∃ ev, e = .returned (.tuple #[.int .i64 0, ev]) ∧ (Err.flt 10 0 ⟨#[114, 97, 110, 107, 115]⟩).At w' ev ∧ Below w.heap.size w w' := by
  go_enter Tryd.func39, Tryd.ntmps39
  go_wp2_with (go_at_call 44; refine (New_err _ _ _ _).mono ?_; rintro e w' ⟨v, rfl, hv, hb⟩; have HV := Lib.hid hv; have HB := Lib.hid hb; clear hv hb)
  go_ret2
  exact ⟨_, rfl, HV.out, HB.out⟩
end Go.Proofs.YtmonepclhbappaaDoor
/-
  Ranks: Each, where there is nothing to tell.
-/
namespace Go.Proofs.YtmonepclhbappaaDoor
open Go.RowKit Go.Maps
set_option maxRecDepth 100000
set_option linter.unusedVariables false

theorem Each_any (o : Option Addr) (f t : Int) (w : World) : Calls Tryd.prog 32 #[.pointer o, .agg #[.int .i64 f, .int .i64 t]] w fun e w' =>
    e = .returned (.func (.func 71) #[] #[.pointer (some ⟨w.heap.size + 1, 0, none⟩), .pointer (some ⟨w.heap.size, 0, none⟩)]) ∧ w' = (w.alloc (.cells #[.pointer o] 57)).alloc (.cells #[.int .i64 f, .int .i64 t] 63) := by
  go_enter Tryd.func32, Tryd.ntmps32
  go_wp2_with fail
  go_ret
  exact ⟨rfl, rfl⟩

set_option maxHeartbeats 4000000 in
theorem Each1_none (y : Value) (Bp Br q p : Nat) (od : List Rw) (f t : Int) (w : World) (hp : Blk w Bp 63 #[.int .i64 f, .int .i64 t]) (hr : Blk w Br 57 #[.pointer (some ⟨q, 0, none⟩)]) (hk : RkM w q p od) (hft : min t (totP od) ≤ max f 0) :
    Calls Tryd.prog 71 #[y, .pointer (some ⟨Bp, 0, none⟩), .pointer (some ⟨Br, 0, none⟩)] w fun e w' => (∃ v, e = .returned v) ∧ w.grownBy w' none := by
  have c0 := hp.cell 0
  have c1 := hp.cell 1
  have c2 := hr.cell 0
  simp at c0 c1 c2
  have HK := Lib.hid hk
  have hft' : ¬ max f 0 < min t (totP od) := by omega
  clear hp hr hk hft
  go_enter Tryd.func71, Tryd.ntmps71
  go_wp2_with fail
  go_region_held3 (fun w' => w'.cell? ⟨Bp, 0, none⟩ = some (.int .i64 f) ∧ w'.cell? ⟨Bp, 1, none⟩ = some (.int .i64 t) ∧ w'.cell? ⟨Br, 0, none⟩ = some (.pointer (some ⟨q, 0, none⟩))) (go_keep)
    ((go_at_call 34; refine (RkTotal_any q p od _ (HK.out.keep (bel_drewN (Below.refl _ _) 1))).mono ?_; rintro e' w3 ⟨rfl, rfl⟩))
  have hg : w.grownBy (w.drewN 1) none := gb_below (bel_drewN (Below.refl w.heap.size w) 1) none
  have d0 : (w.drewN 1).cell? ⟨Bp, 0, none⟩ = some (.int .i64 f) := c0
  have HG := Lib.hid hg
  clear hg c0 c1 c2 HK
  obtain ⟨w1, hw1⟩ : ∃ w1, w1 = w.drewN 1 := ⟨_, rfl⟩
  rw [← hw1] at HG d0 ⊢
  clear hw1
  go_wp2_with fail
  go_loop [5] (fun iv => iv = .int .i64 (max f 0)) (fun iv => 0)
  case atStart => rfl
  case round =>
    subst hrel
    go_wp2_with fail
    go_end0
    exact ⟨⟨_, rfl⟩, HG.out⟩
abbrev RowE := Option Addr × Nat × List Int
theorem each_none (k : Nat) (Bp Br q p : Nat) (od : List Rw) (f t : Int) (w : World) (hp : Blk w Bp 63 #[.int .i64 f, .int .i64 t]) (hr : Blk w Br 57 #[.pointer (some ⟨q, 0, none⟩)]) (hk : RkM w q p od) (hft : min t (totP od) ≤ max f 0) :
    GivesKnown Fence.wide k Tryd.prog 71 #[.pointer (some ⟨Bp, 0, none⟩), .pointer (some ⟨Br, 0, none⟩)] (fun x : RowE => #[rv x]) (fun _ _ _ => False) (fun _ _ _ => True) (fun xs => xs = []) (fun _ => False) 0 w := by
  intro l J Jx W hW hJ hJx hY h0
  refine (callsIn_wide.2 (Each1_none (.func (.yield l) #[] #[]) Bp Br q p od f t W (hp.keep hW) (hr.keep hW) (hk.keep hW) hft)).mono fun e W' ⟨hv, hg⟩ => ⟨hv, .inl ⟨[], rfl, hJ _ _ _ none h0 hg (fun r e => by cases e)⟩⟩
end Go.Proofs.YtmonepclhbappaaDoor
/-
  What a round of a range over a function leaves be: all below a place, and, from another place on, cells that are no rows of rows.
-/
namespace Go.Proofs.YtmonepclhbappaaDoor
open Go.RowKit
set_option linter.unusedVariables false

def KT (n₀ n₂ : Nat) (W W' : World) : Prop := Below n₀ W W' ∧ ∀ k cs t fr, n₂ ≤ k → t ≠ 22 → W.heap[k]? = some (.cells cs t fr) → W'.heap[k]? = some (.cells cs t fr)
section
variable {n₀ n₂ : Nat} {A B C W W' : World}
theorem KT.refl (n₀ n₂ : Nat) (W : World) : KT n₀ n₂ W W := ⟨Below.refl _ _, fun _ _ _ _ _ _ h => h⟩
theorem KT.trans (h : KT n₀ n₂ A B) (k : KT n₀ n₂ B C) : KT n₀ n₂ A C := ⟨h.1.trans k.1, fun j cs t fr hj ht ho => k.2 j cs t fr hj ht (h.2 j cs t fr hj ht ho)⟩
theorem KT.of_below (h : Below W.heap.size W W') (hn : n₀ ≤ W.heap.size) : KT n₀ n₂ W W' := ⟨h.mono hn, fun k cs t fr _ _ ho => (h.block k (Array.getElem?_eq_some_iff.1 ho).1).trans ho⟩
theorem KT.putObj {l : Nat} {o : Obj} (o' : Obj) (hn : n₀ ≤ l) (hl : W.heap[l]? = some o) (ho : o.isCells = false) : KT n₀ n₂ W (W.putObj l o') := by
  have hg := grownBy_putObj' W l o'
  refine ⟨⟨hg.os, hg.tape, hg.output, hg.size, fun k hk => World.putObj_heap_other (by omega)⟩, fun k cs t fr _ _ hk => ?_⟩
  by_cases e : k = l
  · subst e
    rw [hl] at hk
    cases hk
    cases ho
  · exact (World.putObj_heap_other e).trans hk
theorem KT.set {b j : Nat} (u : Value) (h0 : n₀ ≤ b) (h2 : b < n₂) : KT n₀ n₂ W (W.setCell ⟨b, j, none⟩ u) :=
  ⟨bel_set (Below.refl _ _) (p := ⟨b, j, none⟩) h0 u, fun k cs t fr hk _ ho => (Below.heap_setCell W ⟨b, j, none⟩ u k (fun e => by have e' : k = b := e; omega)).trans ho⟩
theorem KT.blk {g : Nat} {t : TypeId} {cs : Array Value} (h : KT n₀ n₂ W W') (hb : Blk W g t cs) (hg : n₂ ≤ g) (ht : t ≠ 22) : Blk W' g t cs := h.2 g cs t (0, 0) hg ht hb
theorem KT.own {n B0 : Nat} {v : Value} {xs : List Value} {e : TypeId} (h : KT n₀ n₂ W W') (hb : W.ownsRow B0 e 1 v n xs) (hg : n₂ ≤ B0) (he : e ≠ 22) : W'.ownsRow B0 e 1 v n xs := by
  refine ⟨hb.1, ?_⟩
  rcases hb.2 with h' | ⟨g, cap, cur, rfl, h1, h2, h3⟩
  · exact .inl h'
  · exact .inr ⟨g, cap, cur, rfl, h1, h.2 g _ _ _ (by omega) he h2, h3⟩
end
/-- A slice of ints that lies below n₀, or from n₂ on in a row of ints. -/
def SnT (n₀ n₂ : Nat) (W : World) (A : Option Addr) (n : Nat) (xs : List Value) : Prop := Sl W 1 A n xs ∧ ∀ x : Addr, A = some x → x.block < n₀ ∨ (n₂ ≤ x.block ∧ ∃ cs fr, W.heap[x.block]? = some (.cells cs 3 fr))
theorem SnT.keep {n₀ n₂ : Nat} {W W' : World} {A : Option Addr} {n : Nat} {xs : List Value} (h : SnT n₀ n₂ W A n xs) (hk : KT n₀ n₂ W W') : SnT n₀ n₂ W' A n xs := by
  refine ⟨⟨h.1.1, fun hn => ?_⟩, fun x hx => ?_⟩
  · obtain ⟨b, off, rfl, h2⟩ := h.1.2 hn
    refine ⟨b, off, rfl, fun j v hj => ?_⟩
    have h3 := h2 j v hj
    rcases h.2 _ rfl with h4 | ⟨h4, cs, fr, h5⟩
    · exact (hk.1.cell (p := ⟨b, off + j, none⟩) h4).trans h3
    · have h6 := hk.2 b cs _ fr h4 (by decide) h5
      exact (World.cell?_of_block (w := W) (a := ⟨b, off + j, none⟩) (h6.trans h5.symm)).trans h3
  · rcases h.2 x hx with h4 | ⟨h4, cs, fr, h5⟩
    · exact .inl h4
    · exact .inr ⟨h4, cs, fr, hk.2 _ cs _ fr h4 (by decide) h5⟩
theorem SnT.nil (n₀ n₂ : Nat) (W : World) : SnT n₀ n₂ W none 0 [] := ⟨Sl.nil _ _ _, fun x h => by cases h⟩
theorem SnT.of_own {n₀ n₂ B0 n c : Nat} {W : World} {A : Option Addr} {xs : List Value} (h : W.ownsRow B0 3 1 (.slice A n c) n xs) (hB : n₂ ≤ B0) : SnT n₀ n₂ W A n xs := by
  refine ⟨Sl.of_own h, fun x hx => ?_⟩
  subst hx
  rcases h.2 with ⟨h1, _⟩ | ⟨g, cap, cur, h1, h2, h3, _⟩
  · cases h1
  · cases h1
    exact .inr ⟨Nat.le_trans hB h2, cur, _, h3⟩
end Go.Proofs.YtmonepclhbappaaDoor
/-
  Ranks: Each: the paths of a part come one by one.
-/
namespace Go.Proofs.YtmonepclhbappaaDoor
open Go.RowKit Go.Shelf Go.Maps
attribute [local go_sem] Oper.semAt_some
set_option maxRecDepth 100000
set_option linter.unusedVariables false

theorem room_noneE {F : Fence} (hd : F.depth = none) (k : Nat) : F.room k := fun d h => by rw [hd] at h; cases h
theorem roundIn_anyE {F : Fence} (hd : F.depth = none) {m m' : Nat} {P : Program} {l : Nat} {f : FuncId} {tmps : Array Value} {assign body : Code} {w : World} {R : Ending → World → Prop}
    (h : RoundIn F m P l f tmps assign body w R) : RoundIn F m' P l f tmps assign body w R := ⟨h.1, fun c cs _ => h.2 c cs (room_noneE hd _)⟩
theorem yieldAt_anyE {F : Fence} (hd : F.depth = none) {m : Nat} (m' : Nat) {P : Program} {l : Nat} {args : Array Value} {W : World} {R : Ending → World → Prop} (h : YieldAt F m P l args W R) : YieldAt F m' P l args W R := by
  obtain ⟨fn, tmps, assign, body, hy, hR⟩ := h
  exact ⟨fn, tmps, assign, body, hy, roundIn_anyE hd hR⟩

/-- What a round knows of the row that it is handed: a new one, the next of the list. -/
def KnE (n₁ : Nat) (G : List (List Int)) (pre : List RowE) (x : RowE) (W : World) : Prop :=
  W.ownsRow n₁ 3 1 (rv x) x.2.2.length (x.2.2.map (Value.int .i64)) ∧ G[pre.length]? = some x.2.2
theorem knE_put {n₁ : Nat} {G : List (List Int)} (pre : List RowE) (x : RowE) (W : World) (l : Nat) (o o' : Obj) (hl : W.heap[l]? = some o) (ho : o.isCells = false) (h : KnE n₁ G pre x W) : KnE n₁ G pre x (W.putObj l o') := ⟨ownsRow_putObj h.1 o' hl ho, h.2⟩
/-- The paths of a part. -/
def partP (od : List Rw) (f t : Int) : List (List Int) := ((allP od).take (min t (totP od)).toNat).drop (max f 0).toNat
theorem partP_at {od : List Rw} {f t : Int} {i : Nat} (h : (max f 0).toNat + i < (min t (totP od)).toNat) : ∃ P, (allP od)[(max f 0).toNat + i]? = some P ∧ (partP od f t)[i]? = some P := by
  have hl : (max f 0).toNat + i < (allP od).length := by unfold totP at h; omega
  refine ⟨(allP od)[(max f 0).toNat + i], List.getElem?_eq_getElem hl, ?_⟩
  unfold partP
  rw [List.getElem?_drop, List.getElem?_take, if_pos h, List.getElem?_eq_getElem hl]
theorem partP_len (od : List Rw) (f t : Int) : (partP od f t).length = (min t (totP od)).toNat - (max f 0).toNat := by
  unfold partP
  rw [List.length_drop, List.length_take]
  unfold totP
  omega

set_option maxHeartbeats 16000000 in
theorem each_gives (d n₀ n₂ : Nat) (Bp Br q p N : Nat) (od : List Rw) (f t : Int) (w0 w : World) (hf : i64ok f) (ht : i64ok t) (hO : OdOK od N) (hk : RkM w0 q p od) (hn0 : w0.heap.size = n₀) (hb : Below n₀ w0 w) (hp : Blk w Bp 63 #[.int .i64 f, .int .i64 t]) (hr : Blk w Br 57 #[.pointer (some ⟨q, 0, none⟩)]) (hBr : n₂ ≤ Br) :
    GivesKnown Fence.wide d Tryd.prog 71 #[.pointer (some ⟨Bp, 0, none⟩), .pointer (some ⟨Br, 0, none⟩)] (fun x : RowE => #[rv x]) (KnE w.heap.size (partP od f t)) (fun _ => KT n₀ n₂) (fun xs => xs.length = (partP od f t).length) (fun pre => 0 < pre.length ∧ pre.length ≤ (partP od f t).length) (partP od f t).length w := by
  intro l J Jx W hW hJ hJx hY h0
  have hJ' : ∀ s A B, J s A → A.grownBy B none → J s B := fun s A B h hg => hJ s A B none h hg (fun r e => by cases e)
  have hYA : ∀ (m : Nat) (pre : List RowE) (x : RowE) (W1 : World), J pre W1 → KnE w.heap.size (partP od f t) pre x W1 → pre.length < (partP od f t).length → YieldAt Fence.wide m Tryd.prog l #[rv x] W1 fun e W' =>
    (e = .returned (.bool true) ∧ J (pre ++ [x]) W' ∧ KT n₀ n₂ W1 W') ∨ (e = .returned (.bool false) ∧ Jx (pre ++ [x]) W') := fun m pre x W1 h1 h2 h3 => yieldAt_anyE rfl m (hY pre x W1 h1 h2 h3)
  have hbW : Below n₀ w0 W := hb.trans (hW.mono (by rw [← hn0]; exact hb.size))
  have hp := hp.keep hW
  have hr := hr.keep hW
  have hws := hW.size
  have c0 := hp.cell 0
  have c1 := hp.cell 1
  have c2 := hr.cell 0
  simp at c0 c1 c2
  have HRW := Lib.hid (show RkM W q p od from hk.keep (by rw [hn0]; exact hbW))
  have HK := Lib.hid hk
  have HBW := Lib.hid hbW
  have HR := Lib.hid hr
  have HJ := Lib.hid hJ'
  have HY := Lib.hid hYA
  have H0 := Lib.hid h0
  have HO := Lib.hid hO
  have HWs := Lib.hid hws
  have HN0 := Lib.hid hn0
  have HTb := Lib.hid (show 0 ≤ totP od ∧ totP od ≤ 4611686018427387904 from ⟨Int.natCast_nonneg _, hO.F.2⟩)
  have HFt := Lib.hid (show -9223372036854775808 ≤ f ∧ f ≤ 9223372036854775807 ∧ -9223372036854775808 ≤ t ∧ t ≤ 9223372036854775807 from ⟨hf.1, hf.2, ht.1, ht.2⟩)
  have HLen := Lib.hid (partP_len od f t)
  have HAt := Lib.hid (fun i h => partP_at (od := od) (f := f) (t := t) (i := i) h)
  clear hW hY hJ hJx hJ' hYA hbW hk hb hp hr h0 hO hn0 hws hf ht
  refine callsIn_of_wp Tryd.func71 rfl trivial ?_ rfl
  simp only [Tryd.ntmps71, List.size_toArray, List.length_cons, List.length_nil, Nat.reduceAdd, Nat.reduceSub, Array.replicate_succ, Array.replicate_zero, List.push_toArray, List.append_toArray, List.nil_append, List.cons_append]
  refine wpIn_wide.2 ?_
  go_wp2_with fail
  go_region_held3 (fun w' => w'.cell? ⟨Bp, 0, none⟩ = some (.int .i64 f) ∧ w'.cell? ⟨Bp, 1, none⟩ = some (.int .i64 t) ∧ w'.cell? ⟨Br, 0, none⟩ = some (.pointer (some ⟨q, 0, none⟩))) (go_keep)
    ((go_at_call 34; refine (RkTotal_any q p od _ (HRW.out.keep (bel_drewN (Below.refl _ _) 1))).mono ?_; rintro e' w3 ⟨rfl, rfl⟩))
  have HKT := Lib.hid (show KT n₀ n₂ W (W.drewN 1) from KT.of_below (bel_drewN (Below.refl _ _) 1) (by rw [← HN0.out]; exact HBW.out.size))
  have HJ1 := Lib.hid (HJ.out _ _ _ H0.out (gb_below (bel_drewN (Below.refl W.heap.size W) 1) none))
  have HSz := Lib.hid (show (W.drewN 1).heap.size = W.heap.size from rfl)
  have d0 : (W.drewN 1).cell? ⟨Bp, 0, none⟩ = some (.int .i64 f) := c0
  clear c0 c1 c2 H0
  obtain ⟨w1, hw1⟩ : ∃ w1, w1 = W.drewN 1 := ⟨_, rfl⟩
  rw [← hw1] at HKT HJ1 HSz d0 ⊢
  clear hw1
  go_wp2_with fail
  clear d0
  refine (wpIn_wide (n := d)).1 ?_
  obtain ⟨lo, hlo⟩ : ∃ lo : Nat, max f 0 = (lo : Int) := ⟨(max f 0).toNat, by omega⟩
  obtain ⟨hi, hhi⟩ : ∃ hi : Nat, hi = (min t (totP od)).toNat := ⟨_, rfl⟩
  have HLen2 := Lib.hid (show (partP od f t).length = hi - lo from by rw [HLen.out, ← hhi, hlo]; rfl)
  have HAt2 := Lib.hid (fun i (h : lo + i < hi) => by have := HAt.out i (by rw [hlo, ← hhi]; exact h); rw [hlo] at this; exact this)
  have HLt := Lib.hid (show ∀ i : Nat, (lo + i < hi → (lo : Int) + (i : Int) < min t (totP od)) ∧ (¬ lo + i < hi → ¬ (lo : Int) + (i : Int) < min t (totP od)) from fun i => by omega)
  have HHi := Lib.hid (show hi ≤ 4611686018427387904 from by have := HTb.out; omega)
  have HLo := Lib.hid hlo
  obtain ⟨tq, hto⟩ : ∃ tq, min t (totP od) = tq := ⟨_, rfl⟩
  rw [hto] at HLt ⊢
  rw [hlo]
  clear hhi hto hlo HAt HLen HTb HFt
  gi_loopw [5] (fun iv wr => ∃ (i : Nat) (ys : List RowE), i ≤ hi - lo ∧ iv = .int .i64 ((lo : Int) + (i : Int)) ∧ Hid (ys.length = i) ∧ Hid (J ys wr) ∧ Hid (KT n₀ n₂ W wr)) (fun iv _ => hi - (intOf iv).toNat)
  case atStart => exact ⟨0, [], Nat.zero_le _, by simp, Lib.hid rfl, HJ1, HKT⟩
  case round =>
    obtain ⟨i, ys, hi1, rfl, HYs, HJi, HKi⟩ := hrel
    by_cases hlt : lo + i < hi
    · have hlt' := (HLt.out i).1 hlt
      obtain ⟨P, hP, hPp⟩ := HAt2.out i hlt
      have hcr := (HKi.out.blk HR.out hBr (by decide)).cell 0
      simp at hcr
      have HBw := Lib.hid (HBW.out.trans HKi.out.1)
      have hPl : P.length = N := HO.out.P P (List.mem_of_getElem? hP)
      have HA := Lib.hid ((At_ok q p N (lo + i) P od wr (HK.out.keep (by rw [HN0.out]; exact HBw.out)) HO.out.B HO.out.len HO.out.h1 HO.out.h8 HO.out.Nu HO.out.C HO.out.F hP hPl).mono (R' := fun e W1 => ∃ C c, e = .returned (.tuple #[.slice C N c, .nilIface]) ∧ KT n₀ n₂ wr W1 ∧ YieldAt Fence.wide (d - 1) Tryd.prog l #[.slice C N c] W1 fun e W' =>
        (e = .returned (.bool true) ∧ J (ys ++ [(C, c, P)]) W' ∧ KT n₀ n₂ W1 W') ∨ (e = .returned (.bool false) ∧ Jx (ys ++ [(C, c, P)]) W')) (fun e W1 h => by
          obtain ⟨v, rfl, hown, hb⟩ := h
          obtain ⟨C, c, rfl, hs⟩ := Sl.own hown
          have hsz := HBw.out.size
          have hsz2 := HKi.out.1.size
          refine ⟨C, c, rfl, KT.of_below hb (by rw [← HN0.out]; exact hsz), ?_⟩
          have h := HY.out (d - 1) ys (C, c, P) W1 (HJ.out _ _ _ HJi.out (gb_below hb none)) ⟨?_, by rw [HYs.out]; exact hPp⟩ (by rw [HYs.out, HLen2.out]; omega)
          · simp only [rv, hPl] at h
            exact h
          · simp only [rv, hPl]
            exact own_mono hown (Nat.le_trans HWs.out hsz2)))
      rw [show ((lo + i : Nat) : Int) = (lo : Int) + (i : Int) from Int.natCast_add _ _] at HA
      have hhi2 := HHi.out
      clear hP hPp hPl
      gi_wp2_with (first
        | ((try refine ⟨trivial, ?_⟩); (try refine ⟨fun h => (by cases h), ?_⟩); gi_at_call 38; refine (callsIn_wide.2 HA.out).mono ?_; clear HA; rintro e W1 ⟨C, c, rfl, hkt, fn, tmps, assign, body, hy, hR⟩; have HKt := Lib.hid hkt; have HRr := Lib.hid hR; clear hkt hR)
        | ((try refine ⟨fun h => (by cases h), ?_⟩); refine HRr.out.mono ?_; clear HRr; rintro e W2 (⟨rfl, hJ2, hk2⟩ | ⟨rfl, hx2⟩)))
      · have HJ2 := Lib.hid hJ2
        have HK2 := Lib.hid hk2
        clear hJ2 hk2 hy
        go_roundw
        case rel => exact ⟨i + 1, ys ++ [(C, c, P)], by omega, by go_num, Lib.hid (by rw [List.length_append, HYs.out]; rfl), HJ2, Lib.hid ((HKi.out.trans HKt.out).trans HK2.out)⟩
        case measure => simp [intOf]; omega
      · refine bodyPost_ret (results_none rfl _ _ _) rfl ?_
        exact ⟨⟨_, rfl⟩, .inr ⟨_, ⟨by rw [List.length_append]; simp, by rw [List.length_append, HYs.out, HLen2.out]; simp; omega⟩, hx2⟩⟩
    · have hlt' := (HLt.out i).2 hlt
      have HE := Lib.hid (show i = hi - lo from by omega)
      gi_wp2
      go_end0
      exact ⟨⟨_, rfl⟩, .inl ⟨ys, by rw [HYs.out, HLen2.out]; exact HE.out, HJi.out⟩⟩
end Go.Proofs.YtmonepclhbappaaDoor
