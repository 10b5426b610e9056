/-
  Part 15 of the proof of LoadMore: GrC, GrR, WireK, WireL, WireN, WireO, ListS.
-/
import Derived.BigQuiet
import Derived.Test.YtbbmgcdocolakaaGreatDoorLoadMoreM13
import Derived.Test.YtbbmgcdocolakaaGreatDoorLoadMoreM14
import Derived.Test.YtbbmgcdocolakaaGreatDoorLoadMoreM12
import Derived.BigRegion
import Derived.Deep.RegionLaw
import Derived.Laws.OwnMore
import Derived.Test.YtbbmgcdocolakaaGreatDoorLoadMoreM3
import Derived.Test.YtbbmgcdocolakaaGreatDoorLoadMoreM8
import Derived.Test.YtbbmgcdocolakaaGreatDoorLoadMoreM9
import Derived.Test.YtbbmgcdocolakaaGreatDoorLoadMoreM11
import Derived.Shelf.Spec.SlicesGrow
set_option linter.unusedVariables false
/-
  graph.check: what is wrong with an edge.
-/
namespace Go.Proofs.YtbbmgcdocolakaaGreatDoor
open Go.RowKit
attribute [local go_sem ↓] Go.wp_at_zero Go.wp_at_succ
set_option maxRecDepth 100000
set_option linter.unusedVariables false

set_option maxHeartbeats 4000000 in
theorem check_any (a b at_ : Int) (n : Nat) (acc : List (Int × Int)) (mb k : Nat) (f : Int → Int → Bool) (w : World) (hM : OnEd w mb k f) (hf : ∀ i j, f i j = decide ((i, j) ∈ acc)) (ha : i64e a) (hb : i64e b) :
    Calls Tryz.prog 58 #[.agg #[.int .i64 a, .int .i64 b], .int .i64 at_, .int .i64 (n : Int), .map (some mb)] w fun e w' => Below w.heap.size w w' ∧ ((Gh.badE n acc (a, b) = 0 ∧ e = .returned .nilIface) ∨ (Gh.badE n acc (a, b) ≠ 0 ∧ ∃ v, e = .returned v ∧ (Err.step ⟨#[101, 100, 103, 101]⟩ (.flt (Gh.badE n acc (a, b)) at_ ⟨#[101, 100, 103, 101]⟩)).At w' v)) := by
  obtain ⟨w0, hw0⟩ : ∃ W, W = w.alloc (.cells #[.int .i64 a, .int .i64 b] 76) := ⟨_, rfl⟩
  have HBc := Lib.hid (show Below w.heap.size w w0 from by rw [hw0]; exact bel_al (Below.refl _ _) _)
  have HMc := Lib.hid (hM.keep HBc.out)
  have HKc := Lib.hid (show Blk w0 w.heap.size 76 #[.int .i64 a, .int .i64 b] from by rw [hw0]; exact Blk.new _ _ _)
  have HTt := Lib.hid (gturned_any a b w0)
  have HFf := Lib.hid hf
  have HiA := Lib.hid ha
  have HiB := Lib.hid hb
  have k0 := HKc.out.cell 0
  have k1 := HKc.out.cell 1
  simp at k0 k1
  clear hM hf ha hb
  go_enter Tryz.func58, Tryz.ntmps58
  go_upto_region 1 with (fail)
  rw [← hw0]
  clear hw0
  rcases Int.lt_trichotomy a b with h | h | h
  · have h1 : ¬ b < a := by omega
    have h2 : ¬ b ≤ a := by omega
    have h3 : a ≤ b := by omega
    have hmn : min a b = a := by omega
    have hmx : max a b = b := by omega
    have HT := Lib.hid (show turnE (a, b) = (a, b) by unfold turnE; rw [if_pos (by simp only; omega)])
    have HBd := Lib.hid (show Gh.badE n acc (a, b) = if a < 0 ∨ (n : Int) ≤ b then 3 else if a = b then 1 else if (a, b) ∈ acc then 4 else 0 by unfold Gh.badE; rw [HT.out])
    have HTu := Lib.hid (show Calls Tryz.prog 59 #[.agg #[.int .i64 a, .int .i64 b]] w0 fun e w' => e = .returned (.agg #[.int .i64 a, .int .i64 b]) ∧ Below w0.heap.size w0 w' from HTt.out.mono fun e w' h => ⟨by rw [h.1, HT.out]; rfl, h.2⟩)
    clear HTt
    by_cases h4 : a < 0
    · have HR := Lib.hid (show Gh.badE n acc (a, b) = 3 by rw [HBd.out, if_pos (.inl h4)])
      clear HBd
      go_wp2_with (first
        | (go_at_call 39; refine HI.out.mono ?_; clear HI; rintro e w5 ⟨v5, rfl, hv5, hb5⟩; have HV5 := Lib.hid hv5; have HB5 := Lib.hid (HBn.out.andThen hb5); clear hv5 hb5)
        | (go_at_call 29; refine (New_err _ _ _ _).mono ?_; rintro e w4 ⟨v4, rfl, hv4, hb4⟩; have HI := Lib.hid (In_any ⟨#[101, 100, 103, 101]⟩ (.flt 3 at_ ⟨#[101, 100, 103, 101]⟩) v4 w4 hv4); have HBn := Lib.hid (HBc.out.andThen hb4); clear hv4 hb4))
      go_ret
      refine ⟨HB5.out, .inr ⟨by rw [HR.out]; decide, v5, rfl, ?_⟩⟩
      rw [HR.out]
      have h := HV5.out
      rwa [Err.in_of (by exact fun h => by cases h)] at h
    by_cases h5 : (n : Int) ≤ b
    · have HR := Lib.hid (show Gh.badE n acc (a, b) = 3 by rw [HBd.out, if_pos (.inr h5)])
      clear HBd
      go_wp2_with (first
        | (go_at_call 39; refine HI.out.mono ?_; clear HI; rintro e w5 ⟨v5, rfl, hv5, hb5⟩; have HV5 := Lib.hid hv5; have HB5 := Lib.hid (HBn.out.andThen hb5); clear hv5 hb5)
        | (go_at_call 29; refine (New_err _ _ _ _).mono ?_; rintro e w4 ⟨v4, rfl, hv4, hb4⟩; have HI := Lib.hid (In_any ⟨#[101, 100, 103, 101]⟩ (.flt 3 at_ ⟨#[101, 100, 103, 101]⟩) v4 w4 hv4); have HBn := Lib.hid (HBc.out.andThen hb4); clear hv4 hb4))
      go_ret
      refine ⟨HB5.out, .inr ⟨by rw [HR.out]; decide, v5, rfl, ?_⟩⟩
      rw [HR.out]
      have h := HV5.out
      rwa [Err.in_of (by exact fun h => by cases h)] at h
    have hne : (a == b) = false := by simp; omega
    have HiL := Lib.hid (show i64e a from HiA.out)
    have HiH := Lib.hid (show i64e b from HiB.out)
    by_cases h6 : (a, b) ∈ acc
    · have HR := Lib.hid (show Gh.badE n acc (a, b) = 4 by rw [HBd.out, if_neg (by omega), if_neg (by omega), if_pos h6])
      have HF := Lib.hid (show f a b = true by rw [HFf.out]; exact decide_eq_true h6)
      clear HBd h6
      go_wp2_with (first
        | (go_at_call 39; refine HI.out.mono ?_; clear HI; rintro e w5 ⟨v5, rfl, hv5, hb5⟩; have HV5 := Lib.hid hv5; have HB5 := Lib.hid (HBn.out.andThen hb5); clear hv5 hb5)
        | (go_at_call 29; refine (New_err _ _ _ _).mono ?_; rintro e w4 ⟨v4, rfl, hv4, hb4⟩; have HI := Lib.hid (In_any ⟨#[101, 100, 103, 101]⟩ (.flt 4 at_ ⟨#[101, 100, 103, 101]⟩) v4 w4 hv4); have HBn := Lib.hid (HBc.out.andThen hb4); clear hv4 hb4)
        | (refine wpList_lookE _ rfl _ _ rfl mb k f (by go_simp) HMc.out (a) (b) (by go_simp) HiL.out HiH.out ?_; rw [HF.out])
        | (go_at_call 59; refine HTu.out.mono ?_; clear HTu; rintro e w3 ⟨rfl, hb3⟩; replace HMc := Lib.hid (HMc.out.keep hb3); replace HBc := Lib.hid (HBc.out.andThen hb3); clear hb3))
      go_ret
      refine ⟨HB5.out, .inr ⟨by rw [HR.out]; decide, v5, rfl, ?_⟩⟩
      rw [HR.out]
      have h := HV5.out
      rwa [Err.in_of (by exact fun h => by cases h)] at h
    · have HR := Lib.hid (show Gh.badE n acc (a, b) = 0 by rw [HBd.out, if_neg (by omega), if_neg (by omega), if_neg h6])
      have HF := Lib.hid (show f a b = false by rw [HFf.out]; exact decide_eq_false h6)
      clear HBd h6
      go_wp2_with (first
        | (refine wpList_lookE _ rfl _ _ rfl mb k f (by go_simp) HMc.out (a) (b) (by go_simp) HiL.out HiH.out ?_; rw [HF.out])
        | (go_at_call 59; refine HTu.out.mono ?_; clear HTu; rintro e w3 ⟨rfl, hb3⟩; replace HMc := Lib.hid (HMc.out.keep hb3); replace HBc := Lib.hid (HBc.out.andThen hb3); clear hb3))
      go_ret
      exact ⟨HBc.out, .inl ⟨HR.out, rfl⟩⟩
  · subst h
    have h1 : ¬ a < a := by omega
    have h2 : a ≤ a := by omega
    have hmn : min a a = a := by omega
    have hmx : max a a = a := by omega
    have HT := Lib.hid (show turnE (a, a) = (a, a) by unfold turnE; rw [if_pos (by simp only; omega)])
    have HBd := Lib.hid (show Gh.badE n acc (a, a) = if a < 0 ∨ (n : Int) ≤ a then 3 else if a = a then 1 else if (a, a) ∈ acc then 4 else 0 by unfold Gh.badE; rw [HT.out])
    have HTu := Lib.hid (show Calls Tryz.prog 59 #[.agg #[.int .i64 a, .int .i64 a]] w0 fun e w' => e = .returned (.agg #[.int .i64 a, .int .i64 a]) ∧ Below w0.heap.size w0 w' from HTt.out.mono fun e w' h => ⟨by rw [h.1, HT.out]; rfl, h.2⟩)
    clear HTt
    by_cases h4 : a < 0
    · have HR := Lib.hid (show Gh.badE n acc (a, a) = 3 by rw [HBd.out, if_pos (.inl h4)])
      clear HBd
      go_wp2_with (first
        | (go_at_call 39; refine HI.out.mono ?_; clear HI; rintro e w5 ⟨v5, rfl, hv5, hb5⟩; have HV5 := Lib.hid hv5; have HB5 := Lib.hid (HBn.out.andThen hb5); clear hv5 hb5)
        | (go_at_call 29; refine (New_err _ _ _ _).mono ?_; rintro e w4 ⟨v4, rfl, hv4, hb4⟩; have HI := Lib.hid (In_any ⟨#[101, 100, 103, 101]⟩ (.flt 3 at_ ⟨#[101, 100, 103, 101]⟩) v4 w4 hv4); have HBn := Lib.hid (HBc.out.andThen hb4); clear hv4 hb4))
      go_ret
      refine ⟨HB5.out, .inr ⟨by rw [HR.out]; decide, v5, rfl, ?_⟩⟩
      rw [HR.out]
      have h := HV5.out
      rwa [Err.in_of (by exact fun h => by cases h)] at h
    by_cases h5 : (n : Int) ≤ a
    · have HR := Lib.hid (show Gh.badE n acc (a, a) = 3 by rw [HBd.out, if_pos (.inr h5)])
      clear HBd
      go_wp2_with (first
        | (go_at_call 39; refine HI.out.mono ?_; clear HI; rintro e w5 ⟨v5, rfl, hv5, hb5⟩; have HV5 := Lib.hid hv5; have HB5 := Lib.hid (HBn.out.andThen hb5); clear hv5 hb5)
        | (go_at_call 29; refine (New_err _ _ _ _).mono ?_; rintro e w4 ⟨v4, rfl, hv4, hb4⟩; have HI := Lib.hid (In_any ⟨#[101, 100, 103, 101]⟩ (.flt 3 at_ ⟨#[101, 100, 103, 101]⟩) v4 w4 hv4); have HBn := Lib.hid (HBc.out.andThen hb4); clear hv4 hb4))
      go_ret
      refine ⟨HB5.out, .inr ⟨by rw [HR.out]; decide, v5, rfl, ?_⟩⟩
      rw [HR.out]
      have h := HV5.out
      rwa [Err.in_of (by exact fun h => by cases h)] at h
    have HR := Lib.hid (show Gh.badE n acc (a, a) = 1 by rw [HBd.out, if_neg (by omega), if_pos rfl])
    clear HBd
    go_wp2_with (first
      | (go_at_call 39; refine HI.out.mono ?_; clear HI; rintro e w5 ⟨v5, rfl, hv5, hb5⟩; have HV5 := Lib.hid hv5; have HB5 := Lib.hid (HBn.out.andThen hb5); clear hv5 hb5)
      | (go_at_call 29; refine (New_err _ _ _ _).mono ?_; rintro e w4 ⟨v4, rfl, hv4, hb4⟩; have HI := Lib.hid (In_any ⟨#[101, 100, 103, 101]⟩ (.flt 1 at_ ⟨#[101, 100, 103, 101]⟩) v4 w4 hv4); have HBn := Lib.hid (HBc.out.andThen hb4); clear hv4 hb4))
    go_ret
    refine ⟨HB5.out, .inr ⟨by rw [HR.out]; decide, v5, rfl, ?_⟩⟩
    rw [HR.out]
    have h := HV5.out
    rwa [Err.in_of (by exact fun h => by cases h)] at h
  · have h1 : ¬ a < b := by omega
    have h2 : ¬ a ≤ b := by omega
    have h3 : b ≤ a := by omega
    have hmn : min a b = b := by omega
    have hmx : max a b = a := by omega
    have HT := Lib.hid (show turnE (a, b) = (b, a) by unfold turnE; rw [if_neg (by simp only; omega)])
    have HBd := Lib.hid (show Gh.badE n acc (a, b) = if b < 0 ∨ (n : Int) ≤ a then 3 else if a = b then 1 else if (b, a) ∈ acc then 4 else 0 by unfold Gh.badE; rw [HT.out])
    have HTu := Lib.hid (show Calls Tryz.prog 59 #[.agg #[.int .i64 a, .int .i64 b]] w0 fun e w' => e = .returned (.agg #[.int .i64 b, .int .i64 a]) ∧ Below w0.heap.size w0 w' from HTt.out.mono fun e w' h => ⟨by rw [h.1, HT.out]; rfl, h.2⟩)
    clear HTt
    by_cases h4 : b < 0
    · have HR := Lib.hid (show Gh.badE n acc (a, b) = 3 by rw [HBd.out, if_pos (.inl h4)])
      clear HBd
      go_wp2_with (first
        | (go_at_call 39; refine HI.out.mono ?_; clear HI; rintro e w5 ⟨v5, rfl, hv5, hb5⟩; have HV5 := Lib.hid hv5; have HB5 := Lib.hid (HBn.out.andThen hb5); clear hv5 hb5)
        | (go_at_call 29; refine (New_err _ _ _ _).mono ?_; rintro e w4 ⟨v4, rfl, hv4, hb4⟩; have HI := Lib.hid (In_any ⟨#[101, 100, 103, 101]⟩ (.flt 3 at_ ⟨#[101, 100, 103, 101]⟩) v4 w4 hv4); have HBn := Lib.hid (HBc.out.andThen hb4); clear hv4 hb4))
      go_ret
      refine ⟨HB5.out, .inr ⟨by rw [HR.out]; decide, v5, rfl, ?_⟩⟩
      rw [HR.out]
      have h := HV5.out
      rwa [Err.in_of (by exact fun h => by cases h)] at h
    by_cases h5 : (n : Int) ≤ a
    · have HR := Lib.hid (show Gh.badE n acc (a, b) = 3 by rw [HBd.out, if_pos (.inr h5)])
      clear HBd
      go_wp2_with (first
        | (go_at_call 39; refine HI.out.mono ?_; clear HI; rintro e w5 ⟨v5, rfl, hv5, hb5⟩; have HV5 := Lib.hid hv5; have HB5 := Lib.hid (HBn.out.andThen hb5); clear hv5 hb5)
        | (go_at_call 29; refine (New_err _ _ _ _).mono ?_; rintro e w4 ⟨v4, rfl, hv4, hb4⟩; have HI := Lib.hid (In_any ⟨#[101, 100, 103, 101]⟩ (.flt 3 at_ ⟨#[101, 100, 103, 101]⟩) v4 w4 hv4); have HBn := Lib.hid (HBc.out.andThen hb4); clear hv4 hb4))
      go_ret
      refine ⟨HB5.out, .inr ⟨by rw [HR.out]; decide, v5, rfl, ?_⟩⟩
      rw [HR.out]
      have h := HV5.out
      rwa [Err.in_of (by exact fun h => by cases h)] at h
    have hne : (a == b) = false := by simp; omega
    have HiL := Lib.hid (show i64e b from HiB.out)
    have HiH := Lib.hid (show i64e a from HiA.out)
    by_cases h6 : (b, a) ∈ acc
    · have HR := Lib.hid (show Gh.badE n acc (a, b) = 4 by rw [HBd.out, if_neg (by omega), if_neg (by omega), if_pos h6])
      have HF := Lib.hid (show f b a = true by rw [HFf.out]; exact decide_eq_true h6)
      clear HBd h6
      go_wp2_with (first
        | (go_at_call 39; refine HI.out.mono ?_; clear HI; rintro e w5 ⟨v5, rfl, hv5, hb5⟩; have HV5 := Lib.hid hv5; have HB5 := Lib.hid (HBn.out.andThen hb5); clear hv5 hb5)
        | (go_at_call 29; refine (New_err _ _ _ _).mono ?_; rintro e w4 ⟨v4, rfl, hv4, hb4⟩; have HI := Lib.hid (In_any ⟨#[101, 100, 103, 101]⟩ (.flt 4 at_ ⟨#[101, 100, 103, 101]⟩) v4 w4 hv4); have HBn := Lib.hid (HBc.out.andThen hb4); clear hv4 hb4)
        | (refine wpList_lookE _ rfl _ _ rfl mb k f (by go_simp) HMc.out (b) (a) (by go_simp) HiL.out HiH.out ?_; rw [HF.out])
        | (go_at_call 59; refine HTu.out.mono ?_; clear HTu; rintro e w3 ⟨rfl, hb3⟩; replace HMc := Lib.hid (HMc.out.keep hb3); replace HBc := Lib.hid (HBc.out.andThen hb3); clear hb3))
      go_ret
      refine ⟨HB5.out, .inr ⟨by rw [HR.out]; decide, v5, rfl, ?_⟩⟩
      rw [HR.out]
      have h := HV5.out
      rwa [Err.in_of (by exact fun h => by cases h)] at h
    · have HR := Lib.hid (show Gh.badE n acc (a, b) = 0 by rw [HBd.out, if_neg (by omega), if_neg (by omega), if_neg h6])
      have HF := Lib.hid (show f b a = false by rw [HFf.out]; exact decide_eq_false h6)
      clear HBd h6
      go_wp2_with (first
        | (refine wpList_lookE _ rfl _ _ rfl mb k f (by go_simp) HMc.out (b) (a) (by go_simp) HiL.out HiH.out ?_; rw [HF.out])
        | (go_at_call 59; refine HTu.out.mono ?_; clear HTu; rintro e w3 ⟨rfl, hb3⟩; replace HMc := Lib.hid (HMc.out.keep hb3); replace HBc := Lib.hid (HBc.out.andThen hb3); clear hb3))
      go_ret
      exact ⟨HBc.out, .inl ⟨HR.out, rfl⟩⟩
end Go.Proofs.YtbbmgcdocolakaaGreatDoor
/-
  (*Graph).rows: the closure that puts one vertex beside another.
-/
namespace Go.Proofs.YtbbmgcdocolakaaGreatDoor
open Go.RowKit
attribute [local go_sem ↓] Go.wp_at_zero Go.wp_at_succ
set_option maxRecDepth 100000
set_option linter.unusedVariables false

/-- A row of ints that lies in a block of its own. -/
def OL (w : World) (B b n c : Nat) (l : List Int) : Prop := w.ownsRow B 3 1 (.slice (some ⟨b, 0, none⟩) n c) n (l.map (Value.int .i64))
section
variable {w w' : World} {B b n c : Nat} {l : List Int}
theorem OL.len (h : OL w B b n c l) : l.length = n := by
  have := h.1
  simpa using this
theorem OL.cell (h : OL w B b n c l) {i : Nat} {x : Int} (hi : l[i]? = some x) : w.cell? ⟨b, i, none⟩ = some (.int .i64 x) := by
  have hl := h.len
  have h1 := (List.getElem?_eq_some_iff.1 hi).1
  rw [World.ownsRow.cellAt h i (by omega), List.getElem?_map, hi]
  rfl
theorem OL.frozen (h : OL w B b n c l) (i : Nat) : w.frozen? ⟨b, i, none⟩ = false := World.ownsRow.frozenAt h i
theorem OL.set (h : OL w B b n c l) (i : Nat) (x : Int) : OL (w.setCell ⟨b, i, none⟩ (.int .i64 x)) B b n c (l.set i x) := by
  have := (World.ownsRow.stored h i (.int .i64 x)).1
  unfold OL
  rw [List.map_set]
  exact this
theorem OL.same (h : OL w B b n c l) (hb : w'.heap[b]? = w.heap[b]?) : OL w' B b n c l := own_block h fun g hg => by
  obtain rfl : b = g := by simpa [Value.ownBlock] using hg
  exact hb
theorem OL.far (h : OL w B b n c l) {b' j : Nat} (hne : b ≠ b') (u : Value) : OL (w.setCell ⟨b', j, none⟩ u) B b n c l := h.same (Below.heap_setCell w ⟨b', j, none⟩ u b hne)
theorem OL.lt (h : OL w B b n c l) : B ≤ b ∧ b < w.heap.size := World.ownsRow.lt h b rfl
theorem OL.keep (h : OL w B b n c l) (hb : Below w.heap.size w w') : OL w' B b n c l := h.same (hb.block b h.lt.2)
theorem OL.sl (h : OL w B b n c l) : Sl w 1 (some ⟨b, 0, none⟩) n (l.map (Value.int .i64)) := Sl.of_own h
end

set_option maxHeartbeats 4000000 in
theorem put_any (g p1 p5 N I X m2 n c B v u id x : Nat) (lab edg fst : Value) (ne ids nx : List Int) (w : World)
    (h1 : w.cell? ⟨p1, 0, none⟩ = some (.pointer (some ⟨g, 0, none⟩))) (h5 : w.cell? ⟨p5, 0, none⟩ = some (.slice (some ⟨X, 0, none⟩) n c))
    (hg : Blk w g 74 #[lab, edg, fst, .slice (some ⟨N, 0, none⟩) m2 m2, .slice (some ⟨I, 0, none⟩) m2 m2])
    (hN : OL w B N m2 m2 ne) (hI : OL w B I m2 m2 ids) (hX : OL w B X n c nx) (hv : v < n) (hx : nx[v]? = some ((x : Nat) : Int)) (hxm : x < m2) (hm2 : m2 ≤ 1000000)
    (hNI : N ≠ I) (hNX : N ≠ X) (hIX : I ≠ X) (h1N : p1 ≠ N) (h1I : p1 ≠ I) (h5N : p5 ≠ N) (h5I : p5 ≠ I) (hgN : g ≠ N) (hgI : g ≠ I) :
    Calls Tryz.prog 86 #[.int .i64 (v : Int), .int .i64 (u : Int), .int .i64 (id : Int), .pointer (some ⟨p1, 0, none⟩), .pointer (some ⟨p5, 0, none⟩)] w fun e w' => e = .returned (.tuple #[]) ∧
      OL w' B N m2 m2 (ne.set x (u : Int)) ∧ OL w' B I m2 m2 (ids.set x (id : Int)) ∧ OL w' B X n c (nx.set v ((x : Int) + 1)) ∧ (∀ b, b ≠ N → b ≠ I → b ≠ X → w'.heap[b]? = w.heap[b]?) ∧ Below B w w' := by
  have g3 := hg.cell 3
  have g4 := hg.cell 4
  simp at g3 g4
  have xc := hX.cell hx
  obtain ⟨y1, hy1⟩ : ∃ y, ne[x]? = some y := ⟨_, List.getElem?_eq_getElem (by rw [hN.len]; exact hxm)⟩
  obtain ⟨y2, hy2⟩ : ∃ y, ids[x]? = some y := ⟨_, List.getElem?_eq_getElem (by rw [hI.len]; exact hxm)⟩
  have nc := hN.cell hy1
  have ic := hI.cell hy2
  have f1 := hN.frozen x
  have f2 := hI.frozen x
  have f3 := hX.frozen v
  have hIN : I ≠ N := fun e => hNI e.symm
  have hXN : X ≠ N := fun e => hNX e.symm
  have hXI : X ≠ I := fun e => hIX e.symm
  have v1 : (v : Int) < (n : Int) := by omega
  have v2 : ¬ (v : Int) < 0 := by omega
  have x1 : (x : Int) < (m2 : Int) := by omega
  have x2 : ¬ (x : Int) < 0 := by omega
  have HN := Lib.hid hN
  have HI := Lib.hid hI
  have HX := Lib.hid hX
  clear hN hI hX hg hy1 hy2
  go_enter Tryz.func86, Tryz.ntmps86
  go_wp2_with fail
  go_region
  go_wp2_with fail
  go_end0
  have r1 := ((HN.out.set x (u : Int)).far (j := x) hNI (.int .i64 (id : Int))).far (j := v) hNX (.int .i64 ((x : Int) + 1))
  have r2 := ((HI.out.far (j := x) hIN (.int .i64 (u : Int))).set x (id : Int)).far (j := v) hIX (.int .i64 ((x : Int) + 1))
  have r3 := ((HX.out.far (j := x) hXN (.int .i64 (u : Int))).far (j := x) hXI (.int .i64 (id : Int))).set v ((x : Int) + 1)
  refine ⟨rfl, r1.same rfl, r2.same rfl, r3.same rfl, fun b h1 h2 h3 => ?_, bel_drewN ((((Below.refl B w).setCell (p := ⟨N, x, none⟩) HN.out.lt.1 _).setCell (p := ⟨I, x, none⟩) HI.out.lt.1 _).setCell (p := ⟨X, v, none⟩) HX.out.lt.1 _) 1⟩
  exact (Below.heap_setCell _ ⟨X, v, none⟩ _ b h3).trans ((Below.heap_setCell _ ⟨I, x, none⟩ _ b h2).trans (Below.heap_setCell w ⟨N, x, none⟩ _ b h1))
end Go.Proofs.YtbbmgcdocolakaaGreatDoor
/-
  Contracts of wire.Reader where the bytes suffice: Long, Text, List.
-/
namespace Go.Proofs.YtbbmgcdocolakaaGreatDoor
open Go.RowKit
set_option maxRecDepth 100000
set_option linter.unusedVariables false

theorem bits_or_u64 (a b : Nat) (ha : a < 18446744073709551616) (hb : b < 18446744073709551616) : bits .or .u64 (a : Int) (b : Int) = ((a ||| b : Nat) : Int) := by
  have h1 : (BitVec.ofInt 64 (a : Int) ||| BitVec.ofInt 64 (b : Int)).toNat = a ||| b := by
    rw [BitVec.toNat_or, BitVec.ofInt_natCast, BitVec.ofInt_natCast, BitVec.toNat_ofNat, BitVec.toNat_ofNat, Nat.mod_eq_of_lt (by omega), Nat.mod_eq_of_lt (by omega)]
  have h2 : a ||| b < 2 ^ 64 := Nat.or_lt_two_pow (by omega) (by omega)
  show IntKind.u64.wrap (((BitVec.ofInt 64 (a : Int) ||| BitVec.ofInt 64 (b : Int)).toNat : Nat) : Int) = _
  rw [h1]
  exact IntWalk.u64_in _ (by omega)
theorem or_long (a b : Nat) (ha : a < 4294967296) (hb : b < 4294967296) : bits .or .u64 ((a : Int) * 4294967296) (b : Int) = ((a * 4294967296 + b : Nat) : Int) := by
  have := bits_or_u64 (a * 4294967296) b (by omega) (by omega)
  rw [or_join a b 32 (by omega)] at this
  rw [show (a : Int) * 4294967296 = ((a * 4294967296 : Nat) : Int) by omega]
  exact this
/-- A long one, out of two words. -/
def longZ (l : List Int) : Int := wrap64 ((wordN l * 4294967296 + wordN (l.drop 4) : Nat) : Int)

end Go.Proofs.YtbbmgcdocolakaaGreatDoor
/-
  Contracts of wire.Reader where the bytes suffice: Text.
-/
namespace Go.Proofs.YtbbmgcdocolakaaGreatDoor
open Go.RowKit
set_option maxRecDepth 100000
set_option linter.unusedVariables false

set_option maxHeartbeats 4000000 in
theorem take_zero (g B : Nat) (b0 off n c a : Nat) (from_ : Int) (w : World) (hR : Rd w B g (some ⟨b0, off, none⟩) n c a .nil) (hn : n ≤ 1099511627776) (hnc : n ≤ c) (hc9 : c ≤ 9223372036854775807) :
    Calls Tryz.prog 95 #[.pointer (some ⟨g, 0, none⟩), .int .i64 0, .int .i64 from_] w fun e w' => ∃ o k, e = .returned (.slice (some ⟨b0, o, none⟩) 0 k) ∧ Rd w' B g (some ⟨b0, off, none⟩) n c a .nil ∧ Below B w w' ∧ Asd g w w' := by
  obtain ⟨hBg, hf, han, ev, hb, he⟩ := hR
  obtain rfl : ev = .nilIface := he
  have hc0 := hb.cell 0
  have hc1 := hb.cell 1
  have hc2 := hb.cell 2
  simp at hc0 hc1 hc2
  have hfr1 := hb.frozen 1
  have HBk := Lib.hid hb
  have hBw : B ≤ w.heap.size := Nat.le_trans hBg (Nat.le_of_lt hb.lt)
  clear hb
  have hd : decide ((n : Int) - (a : Int) < 0) = false := decide_eq_false (by omega)
  have e1 : (0 : Int) ≤ a := by omega
  have e3 : (a : Int) ≤ (c : Int) := by omega
  have e6 : a - a = 0 := by omega
  by_cases e5 : c = a
  · subst e5
    go_enter Tryz.func95, Tryz.ntmps95
    go_wp2_with fail
    go_quiet (fail)
    go_wp2_with fail
    go_quiet (fail)
    go_wp2_with fail
    go_ret
    refine ⟨off, _, rfl, ⟨hBg, trivial, han, .nilIface, ?_, rfl⟩, ?_, ?_⟩
    · have := fun q => (HBk.out.drewN q).set_ 1 (.int .i64 (c : Int))
      simpa using this _
    · exact ((bel_drewN (Below.refl _ _) _).mono hBw).setCell (p := ⟨g, 1, none⟩) hBg _
    · exact (Asd.of (bel_drewN (Below.refl _ _) _)).setCell _ _
  · go_enter Tryz.func95, Tryz.ntmps95
    go_wp2_with fail
    go_quiet (fail)
    go_wp2_with fail
    go_quiet (fail)
    go_wp2_with fail
    go_ret
    refine ⟨off + a, _, rfl, ⟨hBg, trivial, han, .nilIface, ?_, rfl⟩, ?_, ?_⟩
    · have := fun q => (HBk.out.drewN q).set_ 1 (.int .i64 (a : Int))
      simpa using this _
    · exact ((bel_drewN (Below.refl _ _) _).mono hBw).setCell (p := ⟨g, 1, none⟩) hBg _
    · exact (Asd.of (bel_drewN (Below.refl _ _) _)).setCell _ _

theorem conv_bytes (w : World) (b off n k : Nat) (l : List Int) (hl : l.length = n) (hs : Sl w 1 (some ⟨b, off, none⟩) n (l.map (Value.int .u8))) : (convert 42 9 (.slice (some ⟨b, off, none⟩) n k)).run Tryz.prog w = .ok (.string (strOfNums l)) w := by
  refine run_convert_bytes_arg (P := Tryz.prog) w 42 5 Tryz.underlying42 Tryz.underlying5 b off n k l hl (fun i hi => ?_) 9 Tryz.underlying9
  refine hs.again hi ?_
  rw [List.getElem?_map, List.getD_eq_getElem?_getD, List.getElem?_eq_getElem (by omega)]; rfl

end Go.Proofs.YtbbmgcdocolakaaGreatDoor
/-
  What is put is taken: the plain law; what nobody answers.
-/
namespace Go.Proofs.YtbbmgcdocolakaaGreatDoor
open Go.RowKit
set_option maxRecDepth 100000
set_option linter.unusedVariables false

theorem strOf_sB' (s : ByteArray) : strOfNums (sB s) = s := by
  have h : (strOfNums (sB s)).data.toList = s.data.toList := by
    rw [strOfNums_data, sB, List.map_map]
    refine (List.map_congr_left (fun b _ => ?_)).trans (List.map_id _)
    show UInt8.ofNat ((b.toNat : Int)).toNat = b
    rw [Int.toNat_natCast]
    exact UInt8.ofNat_toNat
  cases hs : strOfNums (sB s) with | mk d =>
  cases s with | mk e =>
  rw [hs] at h
  have : d = e := by
    have h' : d.toList = e.toList := h
    exact Array.toList_inj.1 h'
  rw [this]
/-- Numbers' bytes. -/
def encL : List Int → List Int
  | [] => []
  | z :: l => wordL z.toNat ++ encL l
theorem encL_len : ∀ l, (encL l).length = 4 * l.length
  | [] => rfl
  | z :: l => by rw [encL, List.length_append, encL_len l, wordL_len, List.length_cons]; omega
def enc (x : Item) : List Int := if x.kind = 0 then wordL x.n.toNat else if x.kind = 1 then wordL (hiN x.n) ++ wordL (loN x.n) else if x.kind = 2 then wordL x.s.size ++ sB x.s else wordL x.l.length ++ encL x.l
def fitI (x : Item) : Prop := (x.kind = 0 → fits x.n) ∧ (x.kind ≠ 0 → x.kind ≠ 1 → x.kind ≠ 2 → ∀ z ∈ x.l, fits z)
theorem pNum_nil {z : Int} {st : St} (h : (pNum z st).2 = .nil) : fits z ∧ st.2 = .nil ∧ (pNum z st).1 = st.1 ++ wordL z.toNat := by
  unfold pNum at h ⊢
  split
  · rw [if_pos ‹_›] at h; exact ⟨‹_›, h, rfl⟩
  · rw [if_neg ‹_›] at h; exact absurd h Err.first2_ne
theorem pNums_nil : ∀ {l : List Int} {st : St}, (pNums l st).2 = .nil → (∀ z ∈ l, fits z) ∧ st.2 = .nil ∧ (pNums l st).1 = st.1 ++ encL l
  | [], st, h => ⟨fun _ h => (by cases h), h, by simp [pNums, encL]⟩
  | z :: l, st, h => by
    rw [pNums] at h ⊢
    obtain ⟨h1, h2, h3⟩ := pNums_nil h
    obtain ⟨h4, h5, h6⟩ := pNum_nil h2
    refine ⟨fun y hy => ?_, h5, by rw [h3, h6, encL, List.append_assoc]⟩
    rcases List.mem_cons.1 hy with rfl | hy
    · exact h4
    · exact h1 y hy
theorem pItem_nil {x : Item} {st : St} (h : (pItem x st).2 = .nil) (hn : near x) : fitI x ∧ st.2 = .nil ∧ (pItem x st).1 = st.1 ++ enc x := by
  obtain ⟨n1, n2, _⟩ := hn
  unfold pItem at h ⊢
  unfold enc fitI
  by_cases e0 : x.kind = 0
  · rw [if_pos e0] at h ⊢
    obtain ⟨h1, h2, h3⟩ := pNum_nil h
    exact ⟨⟨fun _ => h1, fun h => absurd e0 h⟩, h2, by rw [if_pos e0]; exact h3⟩
  · rw [if_neg e0] at h ⊢
    by_cases e1 : x.kind = 1
    · rw [if_pos e1] at h ⊢
      exact ⟨⟨fun h => absurd h e0, fun _ h => absurd e1 h⟩, h, by rw [if_neg e0, if_pos e1, pLong, List.append_assoc]⟩
    · rw [if_neg e1] at h ⊢
      by_cases e2 : x.kind = 2
      · rw [if_pos e2] at h ⊢
        obtain ⟨h1, h2, h3⟩ := pNum_nil (z := x.s.size) (st := st) h
        refine ⟨⟨fun h => absurd h e0, fun _ _ h => absurd e2 h⟩, h2, ?_⟩
        rw [if_neg e0, if_neg e1, if_pos e2, pText, h3, Int.toNat_natCast, List.append_assoc]
      · rw [if_neg e2] at h ⊢
        rw [pList] at h ⊢
        obtain ⟨h1, h2, h3⟩ := pNums_nil h
        obtain ⟨h4, h5, h6⟩ := pNum_nil h2
        exact ⟨⟨fun h => absurd h e0, fun _ _ _ => h1⟩, h5, by rw [if_neg e0, if_neg e1, if_neg e2, h3, h6, Int.toNat_natCast, List.append_assoc]⟩
def encs : List Item → List Int
  | [] => []
  | x :: l => enc x ++ encs l
theorem encs_append : ∀ a b, encs (a ++ b) = encs a ++ encs b
  | [], b => rfl
  | x :: a, b => by rw [List.cons_append, encs, encs_append a b, encs, List.append_assoc]
theorem pItems_nil : ∀ {l : List Item} {st : St}, (pItems l st).2 = .nil → (∀ x ∈ l, near x) → (∀ x ∈ l, fitI x) ∧ st.2 = .nil ∧ (pItems l st).1 = st.1 ++ encs l
  | [], st, h, _ => ⟨fun _ h => (by cases h), h, by simp [pItems, encs]⟩
  | x :: l, st, h, hn => by
    rw [pItems] at h ⊢
    obtain ⟨h1, h2, h3⟩ := pItems_nil h (fun y hy => hn y (List.mem_cons_of_mem _ hy))
    obtain ⟨h4, h5, h6⟩ := pItem_nil h2 (hn x (List.mem_cons_self ..))
    refine ⟨fun y hy => ?_, h5, by rw [h3, h6, encs, List.append_assoc]⟩
    rcases List.mem_cons.1 hy with rfl | hy
    · exact h4
    · exact h1 y hy
theorem encs_drop {xs : List Item} {i : Nat} {x : Item} (h : xs[i]? = some x) : (encs xs).drop (encs (xs.take i)).length = enc x ++ encs (xs.drop (i + 1)) ∧ (encs (xs.take (i + 1))).length = (encs (xs.take i)).length + (enc x).length ∧ (encs (xs.take i)).length + (enc x).length ≤ (encs xs).length := by
  obtain ⟨hi, e⟩ := List.getElem?_eq_some_iff.1 h
  have d : xs = xs.take i ++ x :: xs.drop (i + 1) := by rw [← e, ← List.drop_eq_getElem_cons hi, List.take_append_drop]
  have e1 : encs xs = encs (xs.take i) ++ (enc x ++ encs (xs.drop (i + 1))) := by conv => lhs; rw [d, encs_append, encs]
  refine ⟨by rw [e1, List.drop_left], ?_, by rw [e1, List.length_append, List.length_append]; omega⟩
  rw [List.take_succ_eq_append_getElem hi, e, encs_append, List.length_append, encs, encs, List.append_nil]
theorem fits_cast {z : Int} (h : fits z) : ((z.toNat : Nat) : Int) = z ∧ z.toNat < 4294967296 := by obtain ⟨h1, h2⟩ := h; omega
theorem wordsL_enc : ∀ (k : Nat) (l : List Int) (r : List Int), k ≤ l.length → (∀ z ∈ l, fits z) → wordsL (encL l ++ r) k = l.take k
  | 0, l, r, _, _ => by simp [wordsL]
  | k + 1, l, r, hk, hf => by
    have hkl : k < l.length := by omega
    rw [wordsL, wordsL_enc k l r (by omega) hf, List.take_succ_eq_append_getElem hkl]
    congr 2
    have d : l = l.take k ++ l[k] :: l.drop (k + 1) := by rw [← List.drop_eq_getElem_cons hkl, List.take_append_drop]
    have eapp : ∀ a b : List Int, encL (a ++ b) = encL a ++ encL b := by
      intro a b
      induction a with
      | nil => rfl
      | cons z a ih => rw [List.cons_append, encL, ih, encL, List.append_assoc]
    have hz := fits_cast (hf _ (List.getElem_mem hkl))
    conv => lhs; rw [d, eapp, encL, List.append_assoc, List.append_assoc]
    rw [List.drop_left' (by rw [encL_len, List.length_take]; omega), wordN_of hz.2, hz.1]
theorem long_back (z : Int) (hz : -9223372036854775808 ≤ z ∧ z ≤ 9223372036854775807) (r : List Int) : longZ (wordL (hiN z) ++ wordL (loN z) ++ r) = z := by
  have h1 := hiN_lt z
  have h2 := loN_lt z
  rw [longZ, List.append_assoc, wordN_of h1, List.drop_left' (wordL_len _), wordN_of h2]
  have h3 : ((hiN z * 4294967296 + loN z : Nat) : Int) = z % 18446744073709551616 := by unfold hiN loN; omega
  rw [h3]
  by_cases h0 : 0 ≤ z
  · rw [show z % 18446744073709551616 = z by omega]
    exact IntWalk.wrap64_in _ (by omega)
  · rw [show z % 18446744073709551616 = z + 18446744073709551616 by omega]
    have := IntKind.wrap_i64 (z + 18446744073709551616)
    unfold wrap64
    omega

theorem Num_nil (z : Int) (w : World) : Calls Tryz.prog 76 #[.pointer none, .int .i64 z] w fun e w' => e = .returned (.tuple #[]) ∧ w = w' := by
  go_enter Tryz.func76, Tryz.ntmps76
  go_wp2_with fail
  refine bodyPost_ret (v := .tuple #[]) (by simp [results, Tryz.results76, go_sem]) rfl ⟨rfl, rfl⟩
theorem List_nil (w : World) : Calls Tryz.prog 44 #[.pointer none, .slice none 0 0] w fun e w' => e = .returned (.tuple #[]) ∧ w = w' := by
  go_enter Tryz.func44, Tryz.ntmps44
  go_wp2_with fail
  refine (Num_nil 0 w).mono ?_
  rintro e w1 ⟨rfl, rfl⟩
  go_wp2_with fail
  go_loop [12] (fun iv => iv = .int .i64 0) (fun _ => 0)
  case atStart => rfl
  case round =>
    obtain rfl := hrel
    go_wp2_with fail
    go_end0
    exact ⟨rfl, rfl⟩
theorem Bytes_nil (w : World) : Calls Tryz.prog 46 #[.pointer none] w fun e w' => e = .returned (.slice none 0 0) ∧ w = w' := by
  go_enter Tryz.func46, Tryz.ntmps46
  go_wp2_with fail
  go_ret
  exact ⟨rfl, rfl⟩
theorem RList_nil (m : Int) (w : World) : Calls Tryz.prog 71 #[.pointer none, .int .i64 m] w fun e w' => e = .returned (.slice none 0 0) ∧ w = w' := by
  go_enter Tryz.func71, Tryz.ntmps71
  go_wp2_with fail
  go_ret
  exact ⟨rfl, rfl⟩
theorem RLeft_nil (w : World) : Calls Tryz.prog 96 #[.pointer none] w fun e w' => e = .returned (.int .i64 0) ∧ w = w' := by
  go_enter Tryz.func96, Tryz.ntmps96
  go_wp2_with fail
  go_ret
  exact ⟨rfl, rfl⟩
theorem REnd_nil (w : World) : Calls Tryz.prog 72 #[.pointer none] w fun e w' => ∃ v, e = .returned v ∧ (∃ t, (Err.flt 10 0 t).At w' v) ∧ Below w.heap.size w w' := by
  go_enter Tryz.func72, Tryz.ntmps72
  go_wp2_with fail
  refine (New_err 10 0 ⟨#[114, 101, 97, 100, 101, 114]⟩ w).mono ?_
  rintro e w1 ⟨v, rfl, hv, hb⟩
  go_wp2_with fail
  go_ret
  exact ⟨v, rfl, ⟨_, hv⟩, hb⟩
end Go.Proofs.YtbbmgcdocolakaaGreatDoor
/-
  An item taken by a living reader (printed by gen_wireo.py).
-/
namespace Go.Proofs.YtbbmgcdocolakaaGreatDoor
open Go.RowKit
set_option maxRecDepth 100000
set_option linter.unusedVariables false

theorem Asd.blk {g : Nat} {w w' : World} (h : Asd g w w') {k : Nat} {t : TypeId} {cs : Array Value} (hk : Blk w k t cs) (hne : k ≠ g) : Blk w' k t cs := (h.2 k hne hk.lt).trans hk
theorem Rd.lt {w : World} {B g : Nat} {A : Option Addr} {n c a : Nat} {E : Err} (h : Rd w B g A n c a E) : g < w.heap.size ∧ B ≤ w.heap.size := by
  obtain ⟨h1, _, _, _, h, _⟩ := h
  exact ⟨h.lt, Nat.le_trans h1 (Nat.le_of_lt h.lt)⟩
theorem Sl.off {w : World} {s n : Nat} {A : Option Addr} {xs : List Value} (h : Sl w s A n xs) {b i : Nat} (hb : ∀ x, A = some x → x.block ≠ b) {u : Value} : Sl (w.setCell ⟨b, i, none⟩ u) s A n xs := by
  refine ⟨h.1, fun hn => ?_⟩
  obtain ⟨b0, off, rfl, h2⟩ := h.2 hn
  refine ⟨b0, off, rfl, fun j v hj => ?_⟩
  exact (World.cell?_of_block (w := w) (a := ⟨b0, off + j, none⟩) (Below.heap_setCell w ⟨b, i, none⟩ u b0 (hb _ rfl))).trans (h2 j v hj)

end Go.Proofs.YtbbmgcdocolakaaGreatDoor
/-
  slices.Clip, Clone, Grow, Concat at ints; append onto a slice that is cut to its length.
-/
namespace Go.Proofs.YtbbmgcdocolakaaGreatDoor
open Go.RowKit Go.Shelf
set_option maxRecDepth 100000
set_option linter.unusedVariables false

section
variable {P : Program} {ops : Array Oper} {o : Oper} {a : Act} {Q : Exit → Act → World → Prop}
/-- append(s[:n:n], x...): a new row. -/
theorem run_full {t ty e : TypeId} {z : Value} {size bytes : Nat} (E : Elem P t e z size bytes) {W : World}
    {A : Option Addr} {n : Nat} {xs : List Value} (hxs : Sl W size A n xs) (hA : A = none → n = 0)
    {b off m c : Nat} {ys : List Value} (hy : Sl W size (some ⟨b, off, none⟩) m ys) (hm : 0 < m) (h1 : ∀ u ∈ ys, u.oneCell' = true)
    (hlim : (n + m) * bytes ≤ lim) (hlim' : n + m ≤ lim) :
    ∃ v' w', (Builtin.append_ #[t, t] ty #[.slice A n n, .slice (some ⟨b, off, none⟩) m c]).run P W = .ok v' w' ∧ w'.ownsRow W.heap.size e size v' (n + m) (xs ++ ys) ∧ Below W.heap.size W w' := by
  obtain ⟨i, hi, hz, hsize, hby⟩ := info_parts E.hi
  unfold lim at hlim hlim'
  have hadd : ∀ (b off j : Nat), (⟨b, off, none⟩ : Addr).add j = ⟨b, off + j, none⟩ := fun b off j => by unfold Addr.add; split <;> simp_all
  obtain ⟨b1, off1, h2, hc⟩ := hy.2 hm
  injection h2 with h2
  injection h2 with h2 h3 _
  subst h2 h3
  have hc' : ∀ j u, ys[j]? = some u → W.cell? ((⟨b, off, none⟩ : Addr).add j) = some u := fun j u hu => by rw [hadd]; exact hc j u hu
  rcases A with _ | A
  · obtain rfl : n = 0 := hA rfl
    obtain rfl : xs = [] := List.eq_nil_of_length_eq_zero (by simpa using hxs.1)
    obtain ⟨v', w', hr, h2, h3, _⟩ := run_append_own (P := P) W W.heap.size t ty e i z size bytes E.ht hi hz hsize hby E.hzs E.hsz (.slice none 0 0) 0 [] (World.ownsRow_nil W _ e size) ⟨b, off, none⟩ m c ys hy.1 hc' h1 (by unfold maxLen; omega) hlim (Nat.le_refl _)
    exact ⟨v', w', hr, h2, h3.os, h3.tape, h3.output, h3.size, fun k hk => h3.block k hk (fun e => by cases e)⟩
  · obtain ⟨v', w', hr, h2, h3⟩ := run_append_arg_grows (P := P) W t ty e i z size bytes E.ht hi hz hsize hby E.hzs E.hsz A n n xs hxs.1 (fun j u hu => by
      have hn : 0 < n := by
        have := (List.getElem?_eq_some_iff.1 hu).1
        rw [hxs.1] at this
        exact Nat.pos_of_ne_zero fun h => by rw [h, Nat.zero_mul] at this; omega
      obtain ⟨b2, off2, h2, h3⟩ := hxs.2 hn
      cases h2
      rw [hadd]; exact h3 j u hu) ⟨b, off, none⟩ m c ys hy.1 hc' (by omega) (by unfold maxLen; omega) hlim
    exact ⟨v', w', hr, h2, h3.os, h3.tape, h3.output, h3.size, fun k hk => h3.block k hk (fun e => by cases e)⟩
/-- The same as a step of a region that draws its order. -/
theorem step_full {t e : TypeId} {z : Value} {size bytes : Nat} (E : Elem P t e z size bytes) {W : World} {K : Act → World → Prop} {L : Prop} (s x : Operand)
    (hgd : o.guard = none) (ho : o.op = .call { callee := .builtin .append, args := #[s, x], argTypes := #[t, t] })
    {A : Option Addr} {n : Nat} {xs : List Value} (hxs : Sl W size A n xs) (hA : A = none → n = 0)
    {b off m c : Nat} {ys : List Value} (hy : Sl W size (some ⟨b, off, none⟩) m ys) (hm : 0 < m)
    (hs : a.eval s = .slice A n n) (hx : a.eval x = .slice (some ⟨b, off, none⟩) m c) (h1 : ∀ u ∈ ys, u.oneCell' = true)
    (hlim : (n + m) * bytes ≤ lim) (hlim' : n + m ≤ lim)
    (h : ∀ v' w', w'.ownsRow W.heap.size e size v' (n + m) (xs ++ ys) → Below W.heap.size W w' → K (a.put o.dst v') w') :
    if Region.wanted o (yielded ops a.tmps) = true then Oper.wp P o a W K Q else L := by
  have hw : Region.wanted o (yielded ops a.tmps) = true := by simp [Region.wanted, hgd]
  rw [if_pos hw]
  obtain ⟨v', w', hr, h2, h3⟩ := run_full (P := P) (ty := o.type) (c := c) E hxs hA hy hm h1 hlim hlim'
  unfold Oper.wp execOp
  simp only [ho, resolve, invoke, builtin, Sem.run_bind, Sem.run_pure, Result.andThen_ok, List.map_toArray, List.map_cons, List.map_nil, hs, hx, hr]
  exact h v' w' h2 h3
end

set_option maxHeartbeats 2000000 in
theorem CloneI_own (l : List Int) (A : Option Addr) (n c : Nat) (w : World) (hl : l.length = n) (hn : n ≤ 1099511627776) (hs : Sl w 1 A n (l.map (Value.int .i64))) :
    Calls Tryz.prog 57 #[.slice A n c] w fun e w' => ∃ v, e = .returned v ∧ w'.ownsRow w.heap.size 3 1 v n (l.map (Value.int .i64)) ∧ Below w.heap.size w w' := by
  have nn := fun (w : World) (a : Option Addr) (n c : Nat) => Lib.run_eql_slice_nil (P := Tryz.prog) w 22 3 a n c 0 0 Tryz.underlying22
  have HS := Lib.hid hs
  go_enter Tryz.func57, Tryz.ntmps57
  rcases A with _ | A
  · have hn0 : n = 0 := by
      rcases Nat.eq_zero_or_pos n with h | h
      · exact h
      · obtain ⟨_, _, h, _⟩ := hs.2 h; cases h
    subst hn0
    clear hs
    go_wp2_with fail
    go_ret
    obtain rfl := List.eq_nil_of_length_eq_zero hl
    exact ⟨_, rfl, World.ownsRow_nil _ _ _ _, Below.refl _ _⟩
  · have hbA := bel_al (Below.refl w.heap.size w) (.cells #[] 3)
    have HOE := Lib.hid (World.ownsRow_made (e := 3) (size := 1) w #[] 0 (Nat.le_refl _) (Nat.zero_le _) rfl)
    have HBA := Lib.hid hbA
    have SPA := Lib.hid (HS.out.keep hbA)
    clear hs hbA
    go_wp2_with (at_builtin; refine wpList_cat_at elemInt _ _ rfl rfl HOE.out HBA.out.size SPA.out rfl rfl (one_i64 _) (by unfold lim; omega) (by unfold lim; omega) ?_; intro v8 w8 hown8 hg8; have HO8 := Lib.hid hown8; have HB8 := Lib.hid (HBA.out.trans (hg8.belowOwn HBA.out.size HOE.out)); clear hown8 hg8 HOE HBA SPA)
    go_ret
    have hown := HO8.out
    rw [List.nil_append, Nat.zero_add] at hown
    exact ⟨_, rfl, hown, HB8.out⟩
theorem CloneI_any (l : List Int) (A : Option Addr) (n c : Nat) (w : World) (hl : l.length = n) (hn : n ≤ 1099511627776) (hs : Sl w 1 A n (l.map (Value.int .i64))) :
    Calls Tryz.prog 57 #[.slice A n c] w fun e w' => ∃ C k, e = .returned (.slice C n k) ∧ Sl w' 1 C n (l.map (Value.int .i64)) ∧ (n ≤ k ∧ k ≤ 9223372036854775807) ∧ Below w.heap.size w w' :=
  (CloneI_own l A n c w hl hn hs).mono fun e w' ⟨v, he, hown, hb⟩ => by
    obtain ⟨C, k, rfl, hsl⟩ := Sl.own hown
    exact ⟨C, k, he, hsl, own_cap hown, hb⟩

/-- All that some lists hold. -/
def flat (L : List (Option Addr × Nat × List Int)) : List Int := L.flatMap (·.2.2)
theorem flat_snoc {L : List (Option Addr × Nat × List Int)} {k : Nat} {D : Option Addr} {d : Nat} {l : List Int} (h : L[k]? = some (D, d, l)) : flat (L.take (k + 1)) = flat (L.take k) ++ l := by
  obtain ⟨hk, he⟩ := List.getElem?_eq_some_iff.1 h
  unfold flat
  rw [List.take_succ_eq_append_getElem hk, List.flatMap_append, he]; simp
theorem flat_part (L : List (Option Addr × Nat × List Int)) (k : Nat) : (flat (L.take k)).length ≤ (flat L).length := by
  have h : flat L = flat (L.take k) ++ flat (L.drop k) := by unfold flat; rw [← List.flatMap_append, List.take_append_drop]
  rw [h, List.length_append]; omega

end Go.Proofs.YtbbmgcdocolakaaGreatDoor
