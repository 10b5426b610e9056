/-
  Part 11 of the proof of RankMany: OdE, Law13, LenP, LawEnd, AddP, ManyP, RankE.
-/
import Derived.Test.YtmonepclhbappaaDoorRankManyM10
import Derived.Test.YtmonepclhbappaaDoorRankManyM9
import Derived.Test.YtmonepclhbappaaDoorRankManyM8
import Derived.Test.YtmonepclhbappaaDoorRankManyM2
import Derived.Deep.RegionHeld3
import Derived.RangeFuncFrom
import Derived.Test.YtmonepclhbappaaDoorRankManyM4
/-
  Odags: Cost: numbers and links.
-/
namespace Go.Proofs.YtmonepclhbappaaDoor
open Go.RowKit Go.Maps
set_option maxRecDepth 100000
set_option linter.unusedVariables false

/-- Numbers and links of a row, of rows. -/
def costR (r : Rw) : Nat := (r.map fun q => 1 + q.2.length).sum
def costO (od : List Rw) : Nat := (od.map costR).sum
theorem costR_snoc (r : Rw) (q : Int × List Int) : costR (r ++ [q]) = costR r + (1 + q.2.length) := by unfold costR; rw [List.map_append, List.sum_append]; simp
theorem costR_cons (q : Int × List Int) (r : Rw) : costR (q :: r) = (1 + q.2.length) + costR r := by unfold costR; rw [List.map_cons, List.sum_cons]
theorem costR_perm {r r' : Rw} (h : r.Perm r') : costR r = costR r' := by
  induction h with
  | nil => rfl
  | cons x _ ih => rw [costR_cons, costR_cons, ih]
  | swap x y l => rw [costR_cons, costR_cons, costR_cons, costR_cons]; omega
  | trans _ _ a b => rw [a, b]
theorem costO_take {od : List Rw} {i : Nat} (h : i < od.length) : costO (od.take (i + 1)) = costO (od.take i) + costR (od.getD i []) := by
  unfold costO
  rw [List.take_succ_eq_append_getElem h, List.map_append, List.sum_append, List.getD_eq_getElem?_getD, List.getElem?_eq_getElem h]
  simp
theorem costR_le {K : Nat} {r : Rw} (h : ∀ q ∈ r, q.2.length ≤ K) : costR r ≤ r.length * (K + 1) := by
  induction r with
  | nil => simp [costR]
  | cons q r ih =>
    have h1 := h q (List.mem_cons_self ..)
    have h2 := ih fun x hx => h x (List.mem_cons_of_mem _ hx)
    have e : costR (q :: r) = (1 + q.2.length) + costR r := by unfold costR; rw [List.map_cons, List.sum_cons]
    rw [e, List.length_cons, Nat.add_mul]
    omega

set_option maxHeartbeats 8000000 in
theorem Cost_any (p N : Nat) (od : List Rw) (w : World) (h : OdM w p od) (hO : OdOK od N) :
    Calls Tryd.prog 25 #[.pointer (some ⟨p, 0, none⟩)] w fun e w' => e = .returned (.int .i64 (costO od : Nat)) ∧ Below w.heap.size w w' := by
  have HOd := Lib.hid h
  have HO := Lib.hid hO
  have HLn := Lib.hid (OdLen_any p od w h)
  rw [hO.len] at HLn
  have hN8 := hO.h8
  have HRl := Lib.hid (show ∀ i, i < N → costR (od.getD i []) ≤ 3600060000 ∧ ∀ d : Rw, d.length ≤ (od.getD i []).length → (∀ q ∈ d, q ∈ od.getD i []) → costR d ≤ 3600060000 from fun i hi => by
    have h2 := hO.B _ (getD_memO (show i < od.length by rw [hO.len]; exact hi))
    have h3 := fun (d : Rw) (h5 : d.length ≤ (od.getD i []).length) (h6 : ∀ q ∈ d, q ∈ od.getD i []) => costR_le (r := d) (K := 60000) fun q hq => h2.2 q (h6 q hq)
    have h4 : ∀ d : Rw, d.length ≤ (od.getD i []).length → (∀ q ∈ d, q ∈ od.getD i []) → costR d ≤ 3600060000 := fun d h5 h6 => Nat.le_trans (h3 d h5 h6) (by have := h2.1; have h7 : d.length * (60000 + 1) ≤ 60000 * (60000 + 1) := Nat.mul_le_mul_right _ (by omega); omega)
    exact ⟨h4 _ (Nat.le_refl _) (fun q hq => hq), h4⟩)
  have HCt := Lib.hid (show ∀ i, i ≤ N → costO (od.take i) ≤ i * 3600060000 from fun i => by
    induction i with
    | zero => intro _; simp [costO]
    | succ i ih =>
      intro hi
      rw [costO_take (by rw [hO.len]; omega)]
      have := ih (by omega)
      have := (HRl.out i (by omega)).1
      omega)
  clear h hO
  go_enter Tryd.func25, Tryd.ntmps25
  go_wp2_with (go_at_call 52; refine HLn.out.mono ?_; clear HLn; rintro e w' ⟨rfl, rfl⟩)
  go_loopw [3, 9] (fun nv iv wr => ∃ (i : Nat), i ≤ N ∧ iv = .int .i64 (i : Int) ∧ nv = .int .i64 ((costO (od.take i) : Nat) : Int) ∧ Hid (Below w.heap.size w wr)) (fun _ iv _ => N - (intOf iv).toNat)
  case atStart => exact ⟨0, Nat.zero_le _, rfl, rfl, Lib.hid (Below.refl _ _)⟩
  case round =>
    obtain ⟨i, hi, rfl, rfl, HB⟩ := hrel
    by_cases hiN : i < N
    · have hiN' : (i : Int) < (N : Int) := by omega
      have hio : i < od.length := by rw [HO.out.len]; exact hiN
      obtain ⟨rb, ro, on, oc, mb, hon, co0, hoc, co1, hrow0⟩ := (HOd.out.keep HB.out).row hio
      obtain ⟨row, hrow⟩ : ∃ row, row = od.getD i [] := ⟨_, rfl⟩
      have HTk := Lib.hid (costO_take hio)
      rw [← hrow] at hrow0 HTk
      have HRowE := Lib.hid hrow
      have HRw := Lib.hid hrow0
      have hion : (i : Int) < (on : Int) := by rw [hon]; omega
      have hi0 : (0 : Int) ≤ (i : Int) := by omega
      obtain ⟨cb, hcb⟩ : ∃ cb, cb = costO (od.take i) := ⟨_, rfl⟩
      have hcbl : cb ≤ 8 * 3600060000 := by rw [hcb]; exact Nat.le_trans (HCt.out i hi) (Nat.mul_le_mul_right _ (by omega))
      rw [← hcb] at HTk ⊢
      have HRb := Lib.hid (HRl.out i hiN)
      rw [← hrow] at HRb
      clear hcb hrow hrow0 hon hio
      go_wp2_with (at_range; refine wpList_rangeR _ rfl _ rfl mb row rfl HRw.out ?_; intro w2 hrg hb2 hs2; have HRg := Lib.hid hrg; have HB2 := Lib.hid hb2; clear hrg hb2 hs2)
      obtain ⟨it, hit⟩ : ∃ it, it = wr.heap.size := ⟨_, rfl⟩
      have HIt := Lib.hid (show w.heap.size ≤ it from by rw [hit]; exact HB.out.size)
      have HB22 := Lib.hid (HB.out.andThen HB2.out)
      rw [← hit] at HRg ⊢
      clear co0 co1 hit HB HB2 HRw
      go_wp2_with fail
      go_frame
      go_loopw [3] (fun nv wx => ∃ done : Rw, nv = .int .i64 ((cb + costR done : Nat) : Int) ∧ Hid (RangesR wx mb it row done) ∧ Hid (Below w.heap.size w wx)) (fun _ wx => wx.rangeLeft mb it)
      case atStart => exact ⟨[], rfl, HRg, HB22⟩
      case round =>
        clear HRg HB22
        obtain ⟨done, rfl, HRg, HBx⟩ := hrel
        go_wp2_with (at_next; refine wpList_nextR _ rfl _ rfl mb it _ done rfl HRg.out ?_ ?_)
        · intro hperm
          have HPm := Lib.hid hperm
          clear hperm
          go_wp2_with fail
          go_roundw
          case rel => exact ⟨i + 1, by omega, by go_num, by rw [HTk.out, costR_perm HPm.out]; first | rfl | (congr 1; omega), HBx⟩
          case measure => (simp [intOf] <;> omega)
        · intro y A c l w3 hyl hyk hrow3 hrg3 hlt3 hg3 hnc3 hsz3 hen3
          have HRg3 := Lib.hid hrg3
          have HB3 := Lib.hid (bel_turn HBx.out hg3 HIt.out HBx.out.size)
          have hcd := HRb.out.2 (done ++ [(y, l)]) (done_leR hrg3) hrg3.sub
          have HSn := Lib.hid (costR_snoc done (y, l))
          rw [HSn.out] at hcd
          have HLt3 := Lib.hid hlt3
          obtain ⟨cd, hcd2⟩ : ∃ cd, cd = costR done := ⟨_, rfl⟩
          rw [← hcd2] at HSn hcd ⊢
          simp only at hcd
          have hw1 : IntKind.i64.wrap (1 + (l.length : Int)) = 1 + (l.length : Int) := by rw [IntKind.wrap_i64]; omega
          have hw2 : IntKind.i64.wrap (((cb + cd : Nat) : Int) + (1 + (l.length : Int))) = ((cb + cd : Nat) : Int) + (1 + (l.length : Int)) := by rw [IntKind.wrap_i64]; omega
          have hw3 : IntKind.i64.wrap ((cb : Int) + (cd : Int) + (1 + (l.length : Int))) = (cb : Int) + (cd : Int) + (1 + (l.length : Int)) := by rw [IntKind.wrap_i64]; omega
          clear hcd2 hyl hyk hrow3 hrg3 hlt3 hg3 hnc3 hsz3
          go_wp2_with fail
          go_roundw
          case rel => exact ⟨done ++ [(y, l)], by rw [HSn.out]; congr 1; simp only; omega, HRg3, HB3⟩
          case measure => exact HLt3.out
    · obtain rfl : i = N := by omega
      have hiN' : ¬ (i : Int) < (i : Int) := by omega
      have HTk := Lib.hid (show od.take i = od from List.take_of_length_le (by rw [HO.out.len]; exact Nat.le_refl _))
      rw [HTk.out]
      go_wp2_with fail
      go_ret
      exact ⟨rfl, HB.out⟩
end Go.Proofs.YtmonepclhbappaaDoor
/-
  The laws' alive of layer 13: the chapter's example; lengths that can't be.
-/
namespace Go.Proofs.YtmonepclhbappaaDoor
open Go.RowKit Go.Maps
set_option maxRecDepth 100000
set_option linter.unusedVariables false

theorem fresh_bad (n : Int) (w : World) (h : n < 1 ∨ 8 < n) : Calls Tryd.prog 53 #[.int .i64 n] w fun e w' => ∃ ev, e = .returned (.tuple #[.pointer none, ev]) ∧ (Err.flt 1 0 ⟨#[108, 101, 110, 103, 116, 104]⟩).At w' ev ∧ Below w.heap.size w w' := by
  by_cases h1 : n < 1
  · clear h
    go_enter Tryd.func53, Tryd.ntmps53
    go_wp2_with (go_at_call 44; refine (New_err _ _ _ _).mono ?_; rintro e w' ⟨v, rfl, hv, hb⟩; have HV := Lib.hid hv; have HB := Lib.hid hb; clear hv hb)
    go_ret2
    exact ⟨_, rfl, HV.out, HB.out⟩
  · have h8 : 8 < n := by omega
    clear h
    go_enter Tryd.func53, Tryd.ntmps53
    go_wp2_with (go_at_call 44; refine (New_err _ _ _ _).mono ?_; rintro e w' ⟨v, rfl, hv, hb⟩; have HV := Lib.hid hv; have HB := Lib.hid hb; clear hv hb)
    go_ret2
    exact ⟨_, rfl, HV.out, HB.out⟩
theorem OfOd_bad (n : Int) (Q : Option Addr) (m c : Nat) (w : World) (h : n < 1 ∨ 8 < n) : Calls Tryd.prog 21 #[.int .i64 n, .slice Q m c] w fun e w' => ∃ ev, e = .returned (.tuple #[.pointer none, ev]) ∧ (Err.flt 1 0 ⟨#[108, 101, 110, 103, 116, 104]⟩).At w' ev ∧ Below w.heap.size w w' := by
  have HFr := Lib.hid (fresh_bad n w h)
  clear h
  go_enter Tryd.func21, Tryd.ntmps21
  go_upto_region 2 with (go_at_call 53; refine HFr.out.mono ?_; clear HFr; rintro e w1 ⟨v, rfl, ⟨g, rfl, hbk⟩, hb⟩; have HV := Lib.hid hbk; have HB := Lib.hid hb; clear hbk hb)
  go_wp2_with fail
  go_ret2
  exact ⟨_, rfl, ⟨g, rfl, HV.out⟩, HB.out⟩
theorem blk_sl {w : World} {g : Nat} {t : TypeId} {cs : Array Value} (h : Blk w g t cs) : Sl w 1 (some ⟨g, 0, none⟩) cs.size cs.toList :=
  ⟨by simp, fun _ => ⟨g, 0, rfl, fun j u hu => by rw [Nat.zero_add, h.cell j]; simpa using hu⟩⟩

/-- Few lists, none longer than eight. -/
theorem odOf_ok8 (n : Nat) (ls : List (List Int)) (h1 : 1 ≤ n) (h8 : n ≤ 8) (hl : ls.length ≤ 16) (h : ∀ x ∈ ls, x.length = n) (hx : ∀ x ∈ ls, ∀ y ∈ x, numOK y) : OdOK (odOf n ls) n where
  B := fun r hr => (odOf_B n _ r hr).mono (by omega)
  len := odOf_len n _
  h1 := h1
  h8 := by omega
  Nu := odOf_nums n _ h hx
  C := odOf_closed n _ h
  F := fits_of (K := 16) (fun r hr => (odOf_B n _ r hr).mono hl) (by decide) (by rw [odOf_len]; exact h1) (by rw [odOf_len]; exact Nat.le_trans (Nat.pow_le_pow_right (by decide) h8) (by decide))
  P := fun p hp => by rw [allP_el (by rw [odOf_len]; exact h1) hp, odOf_len]
  S := odOf_rising n ls h
theorem ex_tot : totP (odOf 2 [[1, 2], [3, 2], [3, 4]]) = 3 := by kernel_rfl

set_option maxHeartbeats 4000000 in
theorem alive13 (w : World) (hg : ErrT w) : Calls Tryd.prog 20 #[] w fun e w' => e = .returned (.bool true) ∧ Below w.heap.size w w' := by
  obtain ⟨W3, hW3⟩ : ∃ W3, ((w.alloc (.cells #[.int .i64 1, .int .i64 2] 3)).alloc (.cells #[.int .i64 3, .int .i64 2] 3)).alloc (.cells #[.int .i64 3, .int .i64 4] 3) = W3 := ⟨_, rfl⟩
  obtain ⟨W4, hW4⟩ : ∃ W4, W3.alloc (.cells #[.slice (some ⟨w.heap.size, 0, none⟩) 2 2, .slice (some ⟨w.heap.size + 1, 0, none⟩) 2 2, .slice (some ⟨w.heap.size + 1 + 1, 0, none⟩) 2 2] 22) = W4 := ⟨_, rfl⟩
  have hb4 : Below w.heap.size w W4 := by rw [← hW4, ← hW3]; exact bel_al (bel_al (bel_al (bel_al (Below.refl _ _) _) _) _) _
  have r1 : Blk W4 w.heap.size 3 #[.int .i64 1, .int .i64 2] := by rw [← hW4, ← hW3]; exact (((Blk.new w _ _).alloc _).alloc _).alloc _
  have r2 : Blk W4 (w.heap.size + 1) 3 #[.int .i64 3, .int .i64 2] := by
    have := ((Blk.new (w.alloc (.cells #[.int .i64 1, .int .i64 2] 3)) 3 #[.int .i64 3, .int .i64 2]).alloc (.cells #[.int .i64 3, .int .i64 4] 3))
    rw [World.size_alloc, hW3] at this
    rw [← hW4]
    exact this.alloc _
  have r3 : Blk W4 (w.heap.size + 1 + 1) 3 #[.int .i64 3, .int .i64 4] := by
    have := Blk.new ((w.alloc (.cells #[.int .i64 1, .int .i64 2] 3)).alloc (.cells #[.int .i64 3, .int .i64 2] 3)) 3 #[.int .i64 3, .int .i64 4]
    rw [World.size_alloc, World.size_alloc, hW3] at this
    rw [← hW4]
    exact this.alloc _
  have r4 : Blk W4 W3.heap.size 22 #[.slice (some ⟨w.heap.size, 0, none⟩) 2 2, .slice (some ⟨w.heap.size + 1, 0, none⟩) 2 2, .slice (some ⟨w.heap.size + 1 + 1, 0, none⟩) 2 2] := by
    rw [← hW4]
    exact Blk.new W3 _ _
  obtain ⟨its, hits⟩ : ∃ its : List (Option Addr × Nat × List Int), its = [(some ⟨w.heap.size, 0, none⟩, 2, [1, 2]), (some ⟨w.heap.size + 1, 0, none⟩, 2, [3, 2]), (some ⟨w.heap.size + 1 + 1, 0, none⟩, 2, [3, 4])] := ⟨_, rfl⟩
  have hls : its.map (·.2.2) = [[1, 2], [3, 2], [3, 4]] := by rw [hits]; rfl
  have hlen : ∀ x ∈ its.map (·.2.2), x.length = 2 := by rw [hls]; intro x hx; simp at hx; rcases hx with rfl | rfl | rfl <;> rfl
  have hnum : ∀ x ∈ its.map (·.2.2), ∀ y ∈ x, numOK y := by
    rw [hls]
    intro x hx y hy
    unfold numOK
    simp at hx
    rcases hx with rfl | rfl | rfl <;> (simp at hy; omega)
  have HOf := Lib.hid (OfOd_any 2 its (some ⟨W3.heap.size, 0, none⟩) 3 3 W4 (by omega) (by omega) (by rw [hits]; rfl) (by omega) (by
      have := blk_sl r4
      rw [hits]
      exact this) (by
      rw [hits]
      intro t ht
      simp at ht
      rcases ht with rfl | rfl | rfl
      · exact ⟨blk_sl r1, Nat.le_refl _, by simp⟩
      · exact ⟨blk_sl r2, Nat.le_refl _, by simp⟩
      · exact ⟨blk_sl r3, Nat.le_refl _, by simp⟩) (fun t ht => ⟨hlen _ (List.mem_map.2 ⟨t, ht, rfl⟩), hnum _ (List.mem_map.2 ⟨t, ht, rfl⟩)⟩))
  have HOk := Lib.hid (odOf_ok8 2 (its.map (·.2.2)) (by omega) (by omega) (by rw [hls]; decide) hlen hnum)
  have HTot := Lib.hid (show totP (odOf 2 (its.map (·.2.2))) = 3 from by rw [hls]; exact ex_tot)
  obtain ⟨od, hod⟩ : ∃ od, od = odOf 2 (its.map (·.2.2)) := ⟨_, rfl⟩
  rw [← hod] at HOf HOk HTot
  have HG := Lib.hid hg
  have HB4 := Lib.hid hb4
  clear hod hlen hnum hls hits r1 r2 r3 r4 hb4 hg
  go_enter Tryd.func20, Tryd.ntmps20
  go_wp2_with (first
    | (go_at_call 21; refine HOf.out.mono ?_; clear HOf hW3 hW4; rintro e w1 ⟨p, rfl, ho, hb⟩; have HOd := Lib.hid ho; have HB1 := Lib.hid hb; clear ho hb)
    | (go_at_call 52; refine (by have h := OdLen_any p od w1 HOd.out; rw [HOk.out.len] at h; exact h : Calls _ _ _ _ _).mono ?_; rintro e w2 ⟨rfl, rfl⟩)
    | (go_at_call 22; refine (Count_any p 2 od w1 HOd.out HOk.out).mono ?_; rw [HTot.out]; rintro e w3 ⟨rfl, hb⟩; have HB3 := Lib.hid hb; clear hb)
    | (go_at_call 21; refine (OfOd_bad 9 none 0 0 w3 (by omega)).mono ?_; rintro e w4 ⟨ev, rfl, ⟨g, rfl, hbk⟩, hb⟩; have HCo := Lib.hid (Code_flt g 1 0 _ w4 (((HG.out.keep HB4.out).keep HB1.out).keep HB3.out |>.keep hb) hbk); have HB5 := Lib.hid hb; clear hbk hb)
    | (go_at_call 35; refine HCo.out.mono ?_; clear HCo; rintro e w5 ⟨rfl, hb⟩; have HB6 := Lib.hid hb; clear hb))
  go_ret
  exact ⟨rfl, (((HB4.out.andThen HB1.out).andThen HB3.out).andThen HB5.out).andThen HB6.out⟩
end Go.Proofs.YtmonepclhbappaaDoor
/-
  Odags plainly: of lists whose numbers go with all numbers; of none; of one alone.
-/
namespace Go.Proofs.YtmonepclhbappaaDoor
open Go.RowKit
set_option linter.unusedVariables false

def altL (n : Nat) (a b : Int) : List Int := (List.range n).map fun i => if i % 2 = 1 then b else a
def pre2 (n w a b : Nat) : List (List Int) := ((List.range a).flatMap fun c => (List.range w).map fun d => altL n (c : Nat) (d : Nat)) ++ (List.range b).map fun d => altL n (a : Nat) (d : Nat)
theorem altL_len (n : Nat) (a b : Int) : (altL n a b).length = n := by unfold altL; simp
theorem pre2_step (n w a b : Nat) : pre2 n w a (b + 1) = pre2 n w a b ++ [altL n (a : Nat) (b : Nat)] := by
  unfold pre2
  rw [List.range_succ, List.map_append, List.append_assoc]
  rfl
theorem pre2_row (n w a : Nat) : pre2 n w a w = pre2 n w (a + 1) 0 := by
  unfold pre2
  rw [List.range_succ, List.flatMap_append]
  simp
theorem pre2_len (n w : Nat) : ∀ a b, (pre2 n w a b).length = a * w + b
  | 0, b => by unfold pre2; simp
  | a + 1, b => by
    have h : (pre2 n w (a + 1) b).length = (pre2 n w (a + 1) 0).length + b := by unfold pre2; simp
    rw [h, ← pre2_row, pre2_len n w a w, Nat.succ_mul]
theorem pre2_el {n w a b : Nat} {x : List Int} (h : x ∈ pre2 n w a b) : ∃ c d : Nat, (c ≤ a ∧ (d < w ∨ d < b)) ∧ x = altL n (c : Nat) (d : Nat) := by
  unfold pre2 at h
  rcases List.mem_append.1 h with h | h
  · obtain ⟨c, hc, h⟩ := List.mem_flatMap.1 h
    obtain ⟨d, hd, rfl⟩ := List.mem_map.1 h
    exact ⟨c, d, ⟨by have := List.mem_range.1 hc; omega, .inl (List.mem_range.1 hd)⟩, rfl⟩
  · obtain ⟨d, hd, rfl⟩ := List.mem_map.1 h
    exact ⟨a, d, ⟨Nat.le_refl _, .inr (List.mem_range.1 hd)⟩, rfl⟩
theorem altL_num {n : Nat} {a b x : Int} (ha : numOK a) (hb : numOK b) (h : x ∈ altL n a b) : numOK x := by
  obtain ⟨i, _, rfl⟩ := List.mem_map.1 h
  split
  · exact hb
  · exact ha
theorem pre2_zero (n w : Nat) (h : 1 ≤ w) : (pre2 n w w 0)[0]? = some (altL n 0 0) := by
  obtain ⟨v, rfl⟩ : ∃ v, w = v + 1 := ⟨w - 1, by omega⟩
  unfold pre2
  rw [List.range_succ_eq_map, List.flatMap_cons, List.map_cons]
  rfl

def okNW (n w : Nat) : Bool := ((List.range n).all fun i => decide (((odOf n (pre2 n w w 0)).getD i []).length = w) && ((odOf n (pre2 n w w 0)).getD i []).all fun q => decide (q.2.length = if i + 1 < n then w else 0)) && decide (costO (odOf n (pre2 n w w 0)) = n * w + (n - 1) * w * w)
theorem okNW_all : ((List.range 8).all fun n => (List.range 4).all fun w => okNW (n + 1) (w + 1)) = true := by kernel_rfl
theorem okNW_at {n w : Nat} (h1 : 1 ≤ n) (h8 : n ≤ 8) (hw : 1 ≤ w) (h4 : w ≤ 4) : okNW n w = true := by
  have h := List.all_eq_true.1 (List.all_eq_true.1 okNW_all (n - 1) (List.mem_range.2 (by omega))) (w - 1) (List.mem_range.2 (by omega))
  rwa [show n - 1 + 1 = n by omega, show w - 1 + 1 = w by omega] at h
theorem sumZ_const {f : Int → Int} {c : Int} : ∀ {l : List Int}, (∀ x ∈ l, f x = c) → sumZ (l.map f) = l.length * c
  | [], _ => by simp [sumZ]
  | x :: l, h => by
    rw [List.map_cons, sumZ, h x (List.mem_cons_self ..), sumZ_const fun y hy => h y (List.mem_cons_of_mem _ hy), List.length_cons]
    rw [show ((l.length + 1 : Nat) : Int) = (l.length : Int) + 1 from by omega, Int.add_mul]
    omega
theorem cnt_full {od : List Rw} {w : Nat} (hC : Closed od) (hI : ∀ i, i < od.length → IncR (od.getD i [])) (hl : ∀ i, i + 1 < od.length → ∀ q ∈ od.getD i [], q.2.length = w) : ∀ (d i : Nat) (a : Int), i + d + 1 = od.length → a ∈ (od.getD i []).map (·.1) → cnt od i a = ((w ^ d : Nat) : Int)
  | 0, i, a, hi, _ => by rw [cnt_last (by omega)]; rfl
  | d + 1, i, a, hi, ha => by
    obtain ⟨q, hq, rfl⟩ := List.mem_map.1 ha
    rw [cnt_step (by omega), (hI i (by omega)).lk hq, sumZ_const fun b hb => cnt_full hC hI hl d (i + 1) b (by omega) (hC i (by omega) q hq b hb), hl i (by omega) q hq, ← Int.natCast_mul, Nat.pow_succ, Nat.mul_comm]
theorem full_tot {n w : Nat} (h1 : 1 ≤ n) (h8 : n ≤ 8) (hw : 1 ≤ w) (h4 : w ≤ 4) : totP (odOf n (pre2 n w w 0)) = ((w ^ n : Nat) : Int) := by
  have hlen : ∀ x ∈ pre2 n w w 0, x.length = n := fun x hx => by
    obtain ⟨c, d, _, rfl⟩ := pre2_el hx
    exact altL_len _ _ _
  have hk := okNW_at h1 h8 hw h4
  have hk1 := (Bool.and_eq_true_iff.1 hk).1
  have hrow : ∀ i, i < n → ((odOf n (pre2 n w w 0)).getD i []).length = w ∧ ∀ q ∈ (odOf n (pre2 n w w 0)).getD i [], q.2.length = if i + 1 < n then w else 0 := fun i hi => by
    have h := Bool.and_eq_true_iff.1 (List.all_eq_true.1 hk1 i (List.mem_range.2 hi))
    exact ⟨of_decide_eq_true h.1, fun q hq => of_decide_eq_true (List.all_eq_true.1 h.2 q hq)⟩
  have hol := odOf_len n (pre2 n w w 0)
  rw [totP_sum, sumZ_const (c := ((w ^ (n - 1) : Nat) : Int)) fun a ha => cnt_full (odOf_closed n _ hlen) (fun i hi => (odOf_rising n _ hlen i hi).1) (fun i hi q hq => by
    have := (hrow i (by omega)).2 q hq
    rwa [if_pos (by omega)] at this) (n - 1) 0 a (by omega) ha]
  rw [List.length_map, (hrow 0 (by omega)).1, ← Int.natCast_mul]
  congr 1
  conv => rhs; rw [show n = (n - 1) + 1 by omega, Nat.pow_succ, Nat.mul_comm]
theorem full_cost {n w : Nat} (h1 : 1 ≤ n) (h8 : n ≤ 8) (hw : 1 ≤ w) (h4 : w ≤ 4) : costO (odOf n (pre2 n w w 0)) = n * w + (n - 1) * w * w :=
  of_decide_eq_true (Bool.and_eq_true_iff.1 (okNW_at h1 h8 hw h4)).2
def ok1N (n : Nat) : Bool := decide (allP (odOf n [altL n 0 0]) = [altL n 0 0]) && (decide (allP (odOf n []) = []) && decide (costO (odOf n []) = 0))
theorem ok1N_all : ((List.range 8).all fun n => ok1N (n + 1)) = true := by kernel_rfl
theorem ok1N_at {n : Nat} (h1 : 1 ≤ n) (h8 : n ≤ 8) : allP (odOf n [altL n 0 0]) = [altL n 0 0] ∧ totP (odOf n []) = 0 ∧ costO (odOf n []) = 0 := by
  have h := List.all_eq_true.1 ok1N_all (n - 1) (List.mem_range.2 (by omega))
  rw [show n - 1 + 1 = n by omega] at h
  have h2 := Bool.and_eq_true_iff.1 h
  have h3 := Bool.and_eq_true_iff.1 h2.2
  refine ⟨of_decide_eq_true h2.1, ?_, of_decide_eq_true h3.2⟩
  unfold totP
  rw [of_decide_eq_true h3.1]
  rfl
end Go.Proofs.YtmonepclhbappaaDoor
/-
  How a law ends behind ranges over functions; how many paths there are.
-/
namespace Go.Proofs.YtmonepclhbappaaDoor
open Go.RowKit
set_option linter.unusedVariables false

/-- A law's end behind ranges over functions, its result in block B. -/
theorem law_endAt {k : Nat} {P : Program} {fn : Func} {a : Act} {w W : World} (Ds : List Nat) (B : Nat) {t : TypeId} {v0 : Value} (hB : w.heap.size ≤ B) (hres : ∀ V : World, V.cell? ⟨B, 0, none⟩ = some (.bool true) → (results fn a.tmps).run P V = .ok (.bool true) V) (hd : a.defers = Ds.map fun D => { target := .collected D, args := #[] }) (hK : ∀ D ∈ Ds, W.heap[D]? = some (.deferred (some []))) (hn : Ds.Nodup)
    (hr : Blk W B t #[v0]) (hb : Below w.heap.size w W) (hD : ∀ D ∈ Ds, w.heap.size ≤ D) :
    bodyPostM Fence.wide k P fn (fun e w' => e = .returned (.bool true) ∧ Below w.heap.size w w') .ret a (W.setCell ⟨B, 0, none⟩ (.bool true)) := by
  show LeavesInM _ _ _ _ _ _ a.defers .returning _
  rw [hd]
  have hK2 : ∀ D ∈ Ds, (W.setCell ⟨B, 0, none⟩ (.bool true)).heap[D]? = some (.deferred (some [])) := fun D h => (KeepsOthers.setCell _ _ _).same D _ (hK D h) rfl
  have hE := (shutM_blk Ds _ hK2 hn (hr.set_ 0 (.bool true))).cell 0
  simp at hE
  exact leavesM Ds _ hK2 hn (v := .bool true) (hres _ hE) ⟨rfl, shutM_below Ds _ hK2 hn hD (hb.setCell (p := ⟨B, 0, none⟩) hB _)⟩

theorem ownK {w w' : World} {B size n : Nat} {e : TypeId} {v : Value} {xs : List Value} (h : w.ownsRow B e size v n xs) (hb : Below w.heap.size w w') : w'.ownsRow B e size v n xs := own_block h fun g hg => hb.block g (h.lt g hg).2
/-- How many paths there are at most. -/
theorem allP_pow {od : List Rw} {K : Nat} (hB : OdB K od) (h1 : 1 ≤ od.length) : (allP od).length ≤ K ^ od.length := by
  have h0 : totP od = ((allP od).length : Int) := rfl
  have h2 := sumZ_le (l := ((od.getD 0 []).map (·.1)).map (cnt od 0)) (K := ((K ^ (od.length - 1) : Nat) : Int)) fun x hx => by
    obtain ⟨b, _, rfl⟩ := List.mem_map.1 hx
    exact cnt_le hB _ 0 b (by omega)
  rw [List.length_map, List.length_map, ← totP_sum, h0] at h2
  have h3 := (hB _ (getD_memO (show 0 < od.length by omega))).1
  have h4 : (od.getD 0 []).length * K ^ (od.length - 1) ≤ K ^ od.length := by
    have e : K ^ od.length = K * K ^ (od.length - 1) := by
      conv => lhs; rw [show od.length = (od.length - 1) + 1 by omega, Nat.pow_succ, Nat.mul_comm]
    rw [e]
    exact Nat.mul_le_mul_right _ h3
  rw [← Int.natCast_mul] at h2
  omega
end Go.Proofs.YtmonepclhbappaaDoor
/-
  Odags plainly: one list more: what is there stays, in its order; costs.
-/
namespace Go.Proofs.YtmonepclhbappaaDoor
open Go.RowKit
set_option linter.unusedVariables false

/-- A sum over rising numbers, over more of them. -/
theorem inc_sum : ∀ {l l' : List Int} {f g : Int → Nat}, Inc l → Inc l' → (∀ x ∈ l, x ∈ l') → (∀ x ∈ l, f x ≤ g x) → (l.map f).sum ≤ (l'.map g).sum
  | [], l', f, g, _, _, _, _ => by simp
  | a :: l, [], f, g, _, _, h, _ => by cases h a (List.mem_cons_self ..)
  | a :: l, b :: l', f, g, h1, h2, h, hf => by
    have h1' := List.pairwise_cons.1 h1
    have h2' := List.pairwise_cons.1 h2
    by_cases e : a = b
    · subst e
      have := inc_sum (f := f) (g := g) h1'.2 h2'.2 (fun x hx => by
        rcases List.mem_cons.1 (h x (List.mem_cons_of_mem _ hx)) with e | h3
        · subst e
          exact absurd (h1'.1 x hx) (Int.lt_irrefl _)
        · exact h3) fun x hx => hf x (List.mem_cons_of_mem _ hx)
      have h4 := hf a (List.mem_cons_self ..)
      simp only [List.map_cons, List.sum_cons]
      omega
    · have hal : a ∈ l' := by
        rcases List.mem_cons.1 (h a (List.mem_cons_self ..)) with e' | h3
        · exact absurd e' e
        · exact h3
      have hba := h2'.1 a hal
      have := inc_sum (f := f) (g := g) h1 h2'.2 (fun x hx => by
        rcases List.mem_cons.1 (h x hx) with e' | h3
        · subst e'
          rcases List.mem_cons.1 hx with e' | hx
          · exact absurd e'.symm e
          · have := h1'.1 x hx
            omega
        · exact h3) hf
      simp only [List.map_cons, List.sum_cons] at this ⊢
      omega
theorem sum_one (l : List Int) : (l.map fun _ => 1).sum = l.length := by
  induction l with
  | nil => rfl
  | cons a l ih => rw [List.map_cons, List.sum_cons, ih, List.length_cons]; omega
theorem inc_len {l l' : List Int} (h1 : Inc l) (h2 : Inc l') (h : ∀ x ∈ l, x ∈ l') : l.length ≤ l'.length := by
  have := inc_sum (f := fun _ => 1) (g := fun _ => 1) h1 h2 h fun x hx => Nat.le_refl _
  rwa [sum_one, sum_one] at this
theorem costR_keys {r : Rw} (h : IncR r) : costR r = ((r.map (·.1)).map fun a => 1 + (lkR r a).length).sum := by
  unfold costR
  rw [List.map_map]
  congr 1
  refine List.map_congr_left fun q hq => ?_
  simp only [Function.comp]
  rw [h.lk hq]
theorem linkedB_mono {ls ls' : List (List Int)} (hs : ∀ x ∈ ls, x ∈ ls') {i : Nat} {a b : Int} (h : linkedB ls i a b = true) : linkedB ls' i a b = true := by
  unfold linkedB at h ⊢
  obtain ⟨x, hx, e⟩ := List.any_eq_true.1 h
  exact List.any_eq_true.2 ⟨x, hs x hx, e⟩
theorem col_mono {ls ls' : List (List Int)} (hs : ∀ x ∈ ls, x ∈ ls') {i : Nat} {a : Int} (h : a ∈ col ls i) : a ∈ col ls' i := by
  unfold col at h ⊢
  rw [setL_mem] at h ⊢
  obtain ⟨x, hx, e⟩ := List.mem_map.1 h
  exact List.mem_map.2 ⟨x, hs x hx, e⟩
theorem lnks_mono {ls ls' : List (List Int)} (hs : ∀ x ∈ ls, x ∈ ls') {i : Nat} {a b : Int} (h : b ∈ lnks ls i a) : b ∈ lnks ls' i a := lnks_mem.2 (linkedB_mono hs (lnks_mem.1 h))
theorem costO_mono {n : Nat} {ls ls' : List (List Int)} (h : ∀ x ∈ ls, x.length = n) (h' : ∀ x ∈ ls', x.length = n) (hs : ∀ x ∈ ls, x ∈ ls') : costO (odOf n ls) ≤ costO (odOf n ls') := by
  have key : ∀ i, i ≤ n → costO ((odOf n ls).take i) ≤ costO ((odOf n ls').take i) := fun i => by
    induction i with
    | zero => intro _; simp [costO]
    | succ i ih =>
      intro hi
      rw [costO_take (by rw [odOf_len]; exact hi), costO_take (by rw [odOf_len]; exact hi)]
      have h1 := ih (by omega)
      obtain ⟨g1, g2, g3⟩ := odOf_row n i hi ls h
      obtain ⟨k1, k2, k3⟩ := odOf_row n i hi ls' h'
      have h2 : costR ((odOf n ls).getD i []) ≤ costR ((odOf n ls').getD i []) := by
        rw [costR_keys g1, costR_keys k1, keys_col hi h, keys_col hi h']
        refine inc_sum (setL_inc _) (setL_inc _) (fun x hx => col_mono hs hx) fun x hx => ?_
        rw [g3, k3]
        have := inc_len (setL_inc _) (setL_inc _) fun b (hb : b ∈ lnks ls i x) => lnks_mono hs hb
        unfold lnks at this ⊢
        omega
      omega
  have := key n (Nat.le_refl _)
  rwa [List.take_of_length_le (by rw [odOf_len]; exact Nat.le_refl _), List.take_of_length_le (by rw [odOf_len]; exact Nat.le_refl _)] at this
theorem odOf_mem {n : Nat} {ls ls' : List (List Int)} (h : ∀ x ∈ ls, x.length = n) (h' : ∀ x ∈ ls', x.length = n) (hs : ∀ x, x ∈ ls ↔ x ∈ ls') : odOf n ls = odOf n ls' :=
  odOf_ext h h' (fun i _ a => ⟨col_mono fun x hx => (hs x).1 hx, col_mono fun x hx => (hs x).2 hx⟩) fun i _ a b => ⟨lnks_mono fun x hx => (hs x).1 hx, lnks_mono fun x hx => (hs x).2 hx⟩
/-- One list alone. -/
theorem one_paths {n : Nat} {x : List Int} (h1 : 1 ≤ n) (hx : x.length = n) : allP (odOf n [x]) = [x] := by
  have hm := ls_path (ls := [x]) h1 (fun y hy => by rw [List.mem_singleton.1 hy]; exact hx) (List.mem_singleton_self x)
  have hl := allP_pow (od := odOf n [x]) (K := 1) (odOf_B n [x]) (by rw [odOf_len]; exact h1)
  rw [Nat.one_pow] at hl
  match hA : allP (odOf n [x]), hm, hl with
  | [y], hm, _ => rw [List.mem_singleton.1 hm]
  | y :: z :: r, _, hl => simp at hl
theorem one_cost {n : Nat} {x : List Int} (h1 : 1 ≤ n) (h4 : n ≤ 4) (hx : x.length = n) : costO (odOf n [x]) + 1 = 2 * n := by
  subst hx
  match x, h1, h4 with
  | [a], _, _ => rfl
  | [a, b], _, _ => rfl
  | [a, b, c], _, _ => rfl
  | [a, b, c, d], _, _ => rfl
theorem nextD_mono {ls ls' : List (List Int)} (hs : ∀ x ∈ ls, x ∈ ls') {p : List Int} {a : Int} (h : a ∈ nextD ls p) : a ∈ nextD ls' p := by
  unfold nextD at h ⊢
  split at h
  · rename_i e
    rw [if_pos e]
    exact col_mono hs h
  · rename_i e
    rw [if_neg e]
    obtain ⟨g1, g2⟩ := List.mem_filter.1 h
    exact List.mem_filter.2 ⟨col_mono hs g1, linkedB_mono hs g2⟩
/-- No path is taken away. -/
theorem paths_mono {n : Nat} {ls ls' : List (List Int)} (h1 : 1 ≤ n) (h : ∀ x ∈ ls, x.length = n) (h' : ∀ x ∈ ls', x.length = n) (hs : ∀ x ∈ ls, x ∈ ls') {p : List Int} (hp : p ∈ allP (odOf n ls)) : p ∈ allP (odOf n ls') := by
  have hpl : p.length = n := by rw [allP_el (by rw [odOf_len]; exact h1) hp, odOf_len]
  have key : ∀ i, i ≤ n → p.take i ∈ prefs (odOf n ls') i := by
    intro i
    induction i with
    | zero => intro _; rw [List.take_zero]; exact List.mem_singleton_self _
    | succ i ih =>
      intro hi
      have hlt : i < p.length := by omega
      refine (prefs_next (a := p[i]) (List.getElem?_eq_getElem hlt)).2 ⟨ih (by omega), ?_⟩
      have hti : (p.take i).length = i := by rw [List.length_take]; omega
      have h2 := path_link (by rw [odOf_len]; exact h1) hp (List.getElem?_eq_getElem hlt)
      rw [nextD_eq h (by omega)] at h2
      rw [nextD_eq h' (by omega)]
      exact nextD_mono hs h2
  have := key n (Nat.le_refl _)
  rw [List.take_of_length_le (by omega)] at this
  have h2 := prefs_end (od := odOf n ls') (by rw [odOf_len]; exact h1)
  rw [odOf_len] at h2
  rwa [h2] at this
/-- Where a walk along the paths of more stands when so many have come. -/
def atK (G G0 : List (List Int)) : Nat → Nat
  | 0 => 0
  | k + 1 => G.findIdx (fun y => decide (y = G0.getD k [])) + 1
theorem atK_ok {G G0 : List (List Int)} (hG : G.Pairwise fun p q => cmpL p q = -1) (hG0 : G0.Pairwise fun p q => cmpL p q = -1) (hs : ∀ p ∈ G0, p ∈ G) {k : Nat} {y : List Int} (hy : G0[k]? = some y) :
    atK G G0 k < atK G G0 (k + 1) ∧ atK G G0 (k + 1) ≤ G.length ∧ G[atK G G0 (k + 1) - 1]? = some y ∧ ∀ j, j + 1 < atK G G0 (k + 1) → ∀ z, G[j]? = some z → z ≠ y := by
  have pos : ∀ {k : Nat} {y : List Int}, G0[k]? = some y → ∃ J, atK G G0 (k + 1) = J + 1 ∧ G[J]? = some y := fun {k y} hy => by
    have hyG := hs y (List.mem_of_getElem? hy)
    have e : G0.getD k [] = y := by rw [List.getD_eq_getElem?_getD, hy]; rfl
    have hlt : G.findIdx (fun z => decide (z = G0.getD k [])) < G.length := List.findIdx_lt_length_of_exists ⟨y, hyG, by rw [e]; exact decide_eq_true rfl⟩
    refine ⟨_, rfl, ?_⟩
    rw [List.getElem?_eq_getElem hlt]
    have := List.findIdx_getElem (w := hlt)
    exact congrArg some ((of_decide_eq_true this).trans e)
  have lt : ∀ {i j : Nat} {x z : List Int}, G[i]? = some x → G[j]? = some z → i < j → cmpL x z = -1 := fun {i j x z} hx hz hij => by
    obtain ⟨b1, e1⟩ := List.getElem?_eq_some_iff.1 hx
    obtain ⟨b2, e2⟩ := List.getElem?_eq_some_iff.1 hz
    have := List.pairwise_iff_getElem.1 hG i j b1 b2 hij
    rwa [e1, e2] at this
  obtain ⟨J, hJ, hGJ⟩ := pos hy
  have hJl := (List.getElem?_eq_some_iff.1 hGJ).1
  rw [hJ]
  refine ⟨?_, hJl, hGJ, fun j hj z hz e => ?_⟩
  · rcases k with _ | k
    · exact Nat.succ_pos _
    · have hk := (List.getElem?_eq_some_iff.1 hy).1
      obtain ⟨x, hx⟩ : ∃ x, G0[k]? = some x := ⟨_, List.getElem?_eq_getElem (by omega)⟩
      obtain ⟨I, hI, hGI⟩ := pos hx
      rw [hI]
      have hxy : cmpL x y = -1 := by
        obtain ⟨b1, e1⟩ := List.getElem?_eq_some_iff.1 hx
        obtain ⟨b2, e2⟩ := List.getElem?_eq_some_iff.1 hy
        have := List.pairwise_iff_getElem.1 hG0 k (k + 1) b1 b2 (by omega)
        rwa [e1, e2] at this
      rcases Nat.lt_or_ge I J with h | h
      · omega
      · exfalso
        rcases Nat.lt_or_ge J I with h2 | h2
        · have h3 := lt hGJ hGI h2
          rw [cmpL_neg x y, hxy] at h3
          cases h3
        · obtain rfl : I = J := by omega
          rw [hGI] at hGJ
          cases hGJ
          rw [cmpL_zero.2 rfl] at hxy
          cases hxy
  · subst e
    have h3 := lt hz hGJ (by omega)
    rw [cmpL_zero.2 rfl] at h3
    cases h3
end Go.Proofs.YtmonepclhbappaaDoor
/-
  Odags plainly: of many lists of two numbers in turn: they can be counted.
-/
namespace Go.Proofs.YtmonepclhbappaaDoor
open Go.RowKit
set_option linter.unusedVariables false

/-- The first J lists of two numbers below w in turn. -/
def preM (n w J : Nat) : List (List Int) := (List.range J).map fun j => altL n ((j / w : Nat) : Int) ((j % w : Nat) : Int)
theorem preM_len (n w J : Nat) : (preM n w J).length = J := by unfold preM; simp
theorem preM_step (n w J : Nat) : preM n w (J + 1) = preM n w J ++ [altL n ((J / w : Nat) : Int) ((J % w : Nat) : Int)] := by
  unfold preM
  rw [List.range_succ, List.map_append]
  rfl
theorem preM_next {n w a b : Nat} (hb : b < w) : preM n w (a * w + b + 1) = preM n w (a * w + b) ++ [altL n (a : Int) (b : Int)] := by
  rw [preM_step]
  have h1 : (a * w + b) / w = a := by
    rw [Nat.mul_comm, Nat.mul_add_div (by omega), Nat.div_eq_of_lt hb, Nat.add_zero]
  have h2 : (a * w + b) % w = b := by
    rw [Nat.mul_comm, Nat.mul_add_mod, Nat.mod_eq_of_lt hb]
  rw [h1, h2]
theorem preM_el {n w J : Nat} {x : List Int} (h : x ∈ preM n w J) : ∃ j, j < J ∧ x = altL n ((j / w : Nat) : Int) ((j % w : Nat) : Int) := by
  obtain ⟨j, hj, rfl⟩ := List.mem_map.1 h
  exact ⟨j, List.mem_range.1 hj, rfl⟩
theorem preM_el_len {n w J : Nat} : ∀ x ∈ preM n w J, x.length = n := fun x hx => by
  obtain ⟨j, _, rfl⟩ := preM_el hx
  exact altL_len _ _ _
theorem preM_num {n w J : Nat} (hw : 2 ≤ w) (hw2 : w ≤ 301) (hJ : J ≤ 600) : ∀ x ∈ preM n w J, ∀ y ∈ x, numOK y := fun x hx y hy => by
  obtain ⟨j, hj, rfl⟩ := preM_el hx
  have h1 : j / w ≤ j := Nat.div_le_self _ _
  have h2 : j % w < w := Nat.mod_lt _ (by omega)
  generalize j / w = q at h1 hy
  generalize j % w = r at h2 hy
  refine altL_num ?_ ?_ hy <;> unfold numOK <;> omega
theorem altL_at {n : Nat} {a b : Int} {i : Nat} (h : i < n) : (altL n a b).getD i 0 = if i % 2 = 1 then b else a := by
  unfold altL
  rw [List.getD_eq_getElem?_getD, List.getElem?_map, List.getElem?_range h]
  rfl
theorem inc_below {l : List Int} (h : Inc l) {K : Nat} (hb : ∀ x ∈ l, 0 ≤ x ∧ x < (K : Int)) : l.length ≤ K := by
  have h2 : Inc ((List.range K).map fun k : Nat => (k : Int)) := List.pairwise_map.2 (List.pairwise_lt_range.imp fun {a b} hab => by omega)
  have := inc_len h h2 fun x hx => by
    have := hb x hx
    exact List.mem_map.2 ⟨x.toNat, List.mem_range.2 (by omega), by omega⟩
  rwa [List.length_map, List.length_range] at this
/-- How many links there are at most to a row. -/
def linkB (w i : Nat) : Nat := if i % 2 = 1 then w else 599 / w + 1
theorem lnks_preM {n w J i : Nat} (hw : 2 ≤ w) (hJ : J ≤ 600) (hi : i + 1 < n) (a : Int) : (lnks (preM n w J) i a).length ≤ linkB w (i + 1) := by
  refine inc_below (setL_inc _) fun b hb => ?_
  have h1 := lnks_mem.1 (show b ∈ lnks (preM n w J) i a from hb)
  unfold linkedB at h1
  obtain ⟨x, hx, e⟩ := List.any_eq_true.1 h1
  obtain ⟨_, _, e⟩ := of_decide_eq_true e
  obtain ⟨j, hj, rfl⟩ := preM_el hx
  rw [altL_at hi] at e
  unfold linkB
  subst e
  have h2 : j % w < w := Nat.mod_lt _ (by omega)
  have h3 : j / w ≤ 599 / w := Nat.div_le_div_right (by omega)
  generalize j / w = q at h3 ⊢
  generalize j % w = r at h2 ⊢
  generalize 599 / w = s at h3 ⊢
  split <;> omega
theorem linkB_pair {w i : Nat} (hw : 2 ≤ w) (hw2 : w ≤ 301) : linkB w i ≤ 900 ∧ linkB w i * linkB w (i + 1) ≤ 900 := by
  have h1 : 599 / w * w ≤ 599 := Nat.div_mul_le_self _ _
  have h2 : 599 / w ≤ 599 := Nat.div_le_self _ _
  have h3 : (599 / w + 1) * w = 599 / w * w + w := Nat.succ_mul _ _
  unfold linkB
  rcases Nat.mod_two_eq_zero_or_one i with h | h
  · rw [if_neg (by omega), if_pos (by omega)]
    omega
  · rw [if_pos h, if_neg (by omega), Nat.mul_comm w]
    omega
theorem cnt_two {od : List Rw} {w : Nat} (hw : 2 ≤ w) (hw2 : w ≤ 301) (hl : ∀ i, i + 1 < od.length → ∀ a, (lkR (od.getD i []) a).length ≤ linkB w (i + 1)) : ∀ (d i : Nat) (a : Int), i + d + 1 = od.length → cnt od i a ≤ ((900 ^ ((d + 1) / 2) : Nat) : Int)
  | 0, i, a, h => by rw [cnt_last (by omega)]; simp
  | 1, i, a, h => by
    rw [cnt_step (by omega)]
    have h1 := sumZ_le (l := (lkR (od.getD i []) a).map (cnt od (i + 1))) (K := 1) fun x hx => by
      obtain ⟨b, _, rfl⟩ := List.mem_map.1 hx
      rw [cnt_last (by omega)]
      exact Int.le_refl _
    rw [List.length_map] at h1
    have h2 := hl i (by omega) a
    have h3 := (linkB_pair (w := w) (i := i + 1) hw hw2).1
    have h4 : (900 : Nat) ^ ((1 + 1) / 2) = 900 := rfl
    rw [h4]
    omega
  | d + 2, i, a, h => by
    rw [cnt_step (by omega)]
    have h0 : ∀ b, cnt od (i + 1) b ≤ ((linkB w (i + 1 + 1) * 900 ^ ((d + 1) / 2) : Nat) : Int) := fun b => by
      rw [cnt_step (by omega)]
      have h1 := sumZ_le (l := (lkR (od.getD (i + 1) []) b).map (cnt od (i + 1 + 1))) (K := ((900 ^ ((d + 1) / 2) : Nat) : Int)) fun x hx => by
        obtain ⟨c, _, rfl⟩ := List.mem_map.1 hx
        exact cnt_two hw hw2 hl d (i + 1 + 1) c (by omega)
      rw [List.length_map] at h1
      refine Int.le_trans h1 ?_
      rw [← Int.natCast_mul]
      exact Int.ofNat_le.2 (Nat.mul_le_mul_right _ (hl (i + 1) (by omega) b))
    have h1 := sumZ_le (l := (lkR (od.getD i []) a).map (cnt od (i + 1))) (K := ((linkB w (i + 1 + 1) * 900 ^ ((d + 1) / 2) : Nat) : Int)) fun x hx => by
      obtain ⟨c, _, rfl⟩ := List.mem_map.1 hx
      exact h0 c
    rw [List.length_map, ← Int.natCast_mul] at h1
    refine Int.le_trans h1 (Int.ofNat_le.2 ?_)
    have e : (d + 2 + 1) / 2 = (d + 1) / 2 + 1 := by omega
    rw [e, Nat.pow_succ, Nat.mul_comm _ 900, ← Nat.mul_assoc]
    exact Nat.mul_le_mul_right _ (Nat.le_trans (Nat.mul_le_mul_right _ (hl i (by omega) a)) (linkB_pair hw hw2).2)
theorem preM_fits {n w J : Nat} (h1 : 1 ≤ n) (h8 : n ≤ 8) (hw : 2 ≤ w) (hw2 : w ≤ 301) (hJ : J ≤ 600) : Fits (odOf n (preM n w J)) := by
  have hl : ∀ i, i + 1 < (odOf n (preM n w J)).length → ∀ a, (lkR ((odOf n (preM n w J)).getD i []) a).length ≤ linkB w (i + 1) := fun i hi a => by
    rw [odOf_len] at hi
    rw [(odOf_row n i (by omega) _ preM_el_len).2.2]
    exact lnks_preM hw hJ hi a
  have hc : ∀ d, d ≤ 7 → (900 : Nat) ^ ((d + 1) / 2) ≤ 656100000000 := fun d hd => Nat.le_trans (Nat.pow_le_pow_right (by decide) (show (d + 1) / 2 ≤ 4 by omega)) (by decide)
  refine ⟨fun i a hi => ?_, ?_⟩
  · rw [odOf_len] at hi
    have h2 := cnt_two hw hw2 hl (n - 1 - i) i a (by rw [odOf_len]; omega)
    have h3 := hc (n - 1 - i) (by omega)
    omega
  · rw [totP_sum]
    have h2 := sumZ_le (l := (((odOf n (preM n w J)).getD 0 []).map (·.1)).map (cnt (odOf n (preM n w J)) 0)) (K := ((656100000000 : Nat) : Int)) fun x hx => by
      obtain ⟨b, _, rfl⟩ := List.mem_map.1 hx
      have h2 := cnt_two hw hw2 hl (n - 1) 0 b (by rw [odOf_len]; omega)
      have h3 := hc (n - 1) (by omega)
      omega
    rw [List.length_map, List.length_map] at h2
    have h3 := (odOf_B n (preM n w J) _ (getD_memO (show 0 < (odOf n (preM n w J)).length by rw [odOf_len]; omega))).1
    rw [preM_len] at h3
    omega
theorem preM_ok {n w J : Nat} (h1 : 1 ≤ n) (h8 : n ≤ 8) (hw : 2 ≤ w) (hw2 : w ≤ 301) (hJ : J ≤ 600) : OdOK (odOf n (preM n w J)) n where
  B := fun r hr => (odOf_B n _ r hr).mono (by rw [preM_len]; omega)
  len := odOf_len n _
  h1 := h1
  h8 := by omega
  Nu := odOf_nums n _ preM_el_len (preM_num hw hw2 hJ)
  C := odOf_closed n _ preM_el_len
  F := preM_fits h1 h8 hw hw2 hJ
  P := fun p hp => by rw [allP_el (by rw [odOf_len]; exact h1) hp, odOf_len]
  S := odOf_rising n _ preM_el_len
theorem preM_pos {n w J : Nat} (h1 : 1 ≤ n) (hJ : 1 ≤ J) : 0 < (allP (odOf n (preM n w J))).length := by
  have hm : altL n ((0 / w : Nat) : Int) ((0 % w : Nat) : Int) ∈ preM n w J := List.mem_map.2 ⟨0, List.mem_range.2 (by omega), rfl⟩
  exact List.length_pos_of_mem (ls_path h1 preM_el_len hm)
end Go.Proofs.YtmonepclhbappaaDoor
/-
  Ranks: Each, where there is nothing to tell.
-/
namespace Go.Proofs.YtmonepclhbappaaDoor
open Go.RowKit Go.Maps
set_option maxRecDepth 100000
set_option linter.unusedVariables false

theorem Each_any (o : Option Addr) (f t : Int) (w : World) : Calls Tryd.prog 32 #[.pointer o, .agg #[.int .i64 f, .int .i64 t]] w fun e w' =>
    e = .returned (.func (.func 71) #[] #[.pointer (some ⟨w.heap.size + 1, 0, none⟩), .pointer (some ⟨w.heap.size, 0, none⟩)]) ∧ w' = (w.alloc (.cells #[.pointer o] 57)).alloc (.cells #[.int .i64 f, .int .i64 t] 63) := by
  go_enter Tryd.func32, Tryd.ntmps32
  go_wp2_with fail
  go_ret
  exact ⟨rfl, rfl⟩

set_option maxHeartbeats 4000000 in
theorem Each1_none (y : Value) (Bp Br q p : Nat) (od : List Rw) (f t : Int) (w : World) (hp : Blk w Bp 63 #[.int .i64 f, .int .i64 t]) (hr : Blk w Br 57 #[.pointer (some ⟨q, 0, none⟩)]) (hk : RkM w q p od) (hft : min t (totP od) ≤ max f 0) :
    Calls Tryd.prog 71 #[y, .pointer (some ⟨Bp, 0, none⟩), .pointer (some ⟨Br, 0, none⟩)] w fun e w' => (∃ v, e = .returned v) ∧ w.grownBy w' none := by
  have c0 := hp.cell 0
  have c1 := hp.cell 1
  have c2 := hr.cell 0
  simp at c0 c1 c2
  have HK := Lib.hid hk
  have hft' : ¬ max f 0 < min t (totP od) := by omega
  clear hp hr hk hft
  go_enter Tryd.func71, Tryd.ntmps71
  go_wp2_with fail
  go_region_held3 (fun w' => w'.cell? ⟨Bp, 0, none⟩ = some (.int .i64 f) ∧ w'.cell? ⟨Bp, 1, none⟩ = some (.int .i64 t) ∧ w'.cell? ⟨Br, 0, none⟩ = some (.pointer (some ⟨q, 0, none⟩))) (go_keep)
    ((go_at_call 34; refine (RkTotal_any q p od _ (HK.out.keep (bel_drewN (Below.refl _ _) 1))).mono ?_; rintro e' w3 ⟨rfl, rfl⟩))
  have hg : w.grownBy (w.drewN 1) none := gb_below (bel_drewN (Below.refl w.heap.size w) 1) none
  have d0 : (w.drewN 1).cell? ⟨Bp, 0, none⟩ = some (.int .i64 f) := c0
  have HG := Lib.hid hg
  clear hg c0 c1 c2 HK
  obtain ⟨w1, hw1⟩ : ∃ w1, w1 = w.drewN 1 := ⟨_, rfl⟩
  rw [← hw1] at HG d0 ⊢
  clear hw1
  go_wp2_with fail
  go_loop [5] (fun iv => iv = .int .i64 (max f 0)) (fun iv => 0)
  case atStart => rfl
  case round =>
    subst hrel
    go_wp2_with fail
    go_end0
    exact ⟨⟨_, rfl⟩, HG.out⟩
abbrev RowE := Option Addr × Nat × List Int
theorem each_none (k : Nat) (Bp Br q p : Nat) (od : List Rw) (f t : Int) (w : World) (hp : Blk w Bp 63 #[.int .i64 f, .int .i64 t]) (hr : Blk w Br 57 #[.pointer (some ⟨q, 0, none⟩)]) (hk : RkM w q p od) (hft : min t (totP od) ≤ max f 0) :
    GivesKnown Fence.wide k Tryd.prog 71 #[.pointer (some ⟨Bp, 0, none⟩), .pointer (some ⟨Br, 0, none⟩)] (fun x : RowE => #[rv x]) (fun _ _ _ => False) (fun _ _ _ => True) (fun xs => xs = []) (fun _ => False) 0 w := by
  intro l J Jx W hW hJ hJx hY h0
  refine (callsIn_wide.2 (Each1_none (.func (.yield l) #[] #[]) Bp Br q p od f t W (hp.keep hW) (hr.keep hW) (hk.keep hW) hft)).mono fun e W' ⟨hv, hg⟩ => ⟨hv, .inl ⟨[], rfl, hJ _ _ _ none h0 hg (fun r e => by cases e)⟩⟩
end Go.Proofs.YtmonepclhbappaaDoor
