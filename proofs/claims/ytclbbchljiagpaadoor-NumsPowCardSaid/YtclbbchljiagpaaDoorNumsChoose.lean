/-
  NumsChoose: the walk.
-/
import Derived.Test.YtclbbchljiagpaaDoorNumsRules
import Derived.Test.YtclbbchljiagpaaDoorWords3
namespace Go.Proofs.YtclbbchljiagpaaDoor
open Go.RowKit
set_option maxRecDepth 100000
set_option linter.unusedVariables false

theorem elemI64 : Elem Tryd.prog 71 2 (.int .i64 0) 1 8 := ⟨Tryd.underlying71, by kernel_rfl, rfl, by decide⟩
/-- A row of choices, its first i. -/
def rowL (m i : Nat) : List Int := (List.range i).map fun t => ((ch m t : Nat) : Int)
theorem rowL_succ (m i : Nat) : rowL m (i + 1) = rowL m i ++ [((ch m i : Nat) : Int)] := by rw [rowL, List.range_succ, List.map_append]; rfl
theorem rowL_len (m i : Nat) : (rowL m i).length = i := by simp [rowL]
theorem rowL_sum (m : Nat) : ∀ i, sumZ (rowL m i) = (rowS m i : Nat)
  | 0 => rfl
  | i + 1 => by rw [rowL_succ, sumZ_append, rowL_sum m i, show rowS m (i + 1) = rowS m i + ch m i from rfl]; simp [sumZ]
theorem rowL_min (m : Nat) : minZ (rowL m (m + 1)) = 1 := by
  have h1 : (1 : Int) ∈ rowL m (m + 1) := List.mem_map.2 ⟨0, by simp, by rw [ch_zero]; rfl⟩
  have h2 := minZ_le h1
  have h3 : ∀ x ∈ rowL m (m + 1), 1 ≤ x := by
    intro x hx
    obtain ⟨t, ht, rfl⟩ := List.mem_map.1 hx
    have := ch_pos (n := m) (k := t) (by have := List.mem_range.1 ht; omega)
    omega
  rcases foldl_min_mem (rowL m (m + 1)) 9223372036854775807 with h | h
  · rw [show minZ (rowL m (m + 1)) = List.foldl min 9223372036854775807 (rowL m (m + 1)) from rfl, h] at h2; omega
  · have := h3 _ h
    rw [show minZ (rowL m (m + 1)) = List.foldl min 9223372036854775807 (rowL m (m + 1)) from rfl] at h2 ⊢
    omega

set_option maxHeartbeats 4000000 in
theorem NumsChoose_walk (n k : Nat) (w : World) (hg : ErrT w) (hn : n ≤ 255) (hk : k ≤ 255) :
    Calls Tryd.prog 13 #[.int .u8 (n : Int), .int .u8 (k : Int)] w fun e w' => e = .returned (.bool true) ∧ Below w.heap.size w w' := by
  obtain ⟨m, hm⟩ : ∃ m, m = n % 62 := ⟨_, rfl⟩
  obtain ⟨j, hj⟩ : ∃ j, j = k % 62 := ⟨_, rfl⟩
  have e1 : (n : Int) % 62 = (m : Int) := by omega
  have e2 : (k : Int) % 62 = (j : Int) := by omega
  have hm9 : m ≤ 61 := by omega
  have hj9 : j ≤ 61 := by omega
  clear hm hj
  have H1 := Lib.hid (fun W => ChooseFew m j W (by omega) (by omega))
  by_cases hjm : m < j
  · rw [ch_out hjm, show ((0 : Nat) : Int) = 0 from rfl] at H1
    have H2 := Lib.hid (fun W => NumsChoose_neg (m : Int) ((m : Int) - (j : Int)) W (.inr (by omega)))
    have hjm' : (m : Int) < (j : Int) := by omega
    have hw : IntKind.i64.wrap ((m : Int) - (j : Int)) = (m : Int) - (j : Int) := by rw [IntKind.wrap_i64]; omega
    go_enter Tryd.func13, Tryd.ntmps13
    go_wp2_with fail
    refine (alive02 w hg).mono ?_
    rintro e w1 ⟨rfl, hb1⟩
    have HB := Lib.hid hb1
    clear hb1
    go_wp2_with fail
    refine (H1.out w1).mono ?_
    rintro e w2 ⟨rfl, hb1⟩
    replace HB := Lib.hid (HB.out.andThen hb1)
    clear hb1 H1
    go_wp2_with fail
    refine (H2.out w2).mono ?_
    rintro e w3 ⟨ev, rfl, hev, hb1⟩
    have HE := Lib.hid hev
    replace HB := Lib.hid (HB.out.andThen hb1)
    have HG := Lib.hid (hg.keep HB.out)
    clear hb1 H2 hev
    go_wp2_with fail
    refine (Code_any _ ev w3 HE.out HG.out).mono ?_
    rintro e w4 ⟨rfl, hb1⟩
    rw [show (Err.flt 1 0 txtChoice).code = 1 from rfl]
    replace HB := Lib.hid (HB.out.andThen hb1)
    clear hb1
    go_wp2_with fail
    go_ret
    exact ⟨rfl, HB.out⟩
  · obtain ⟨d, hd⟩ : ∃ d : Nat, (m : Int) - (j : Int) = (d : Int) ∧ m - j = d := ⟨m - j, by omega, rfl⟩
    have hd1 := hd.1
    have H2 := Lib.hid (fun W => ChooseFew m d W (by omega) (by omega))
    rw [← hd.2, ch_symm' (by omega : j ≤ m)] at H2
    rw [hd.2] at H2
    have hx9 := few_le (n := m) (k := j) (by omega)
    have hjm' : ¬ (m : Int) < (j : Int) := by omega
    have hw : IntKind.i64.wrap ((m : Int) - (j : Int)) = (d : Int) := by rw [IntKind.wrap_i64]; omega
    generalize ch m j = x at *
    have hee : ((x : Int) == (x : Int)) = true := by simp
    have hz9 : 2 ^ m ≤ 2 ^ 61 := Nat.pow_le_pow_right (by omega) hm9
    have h261 : (2 : Nat) ^ 61 = 2305843009213693952 := rfl
    obtain ⟨z, hz⟩ : ∃ z : Nat, z = 2 ^ m := ⟨_, rfl⟩
    have hfz : fitB (z : Int) = true := fitB_true (by omega)
    have HFz := Lib.hid hfz
    have hezz : ((z : Int) == (z : Int)) = true := by simp
    have HP := Lib.hid (fun W => NumsPow_any 2 m W (by omega) (by omega))
    rw [show ((2 : Int) ^ m) = (z : Int) by rw [hz, Int.natCast_pow]; rfl, tn_fit hfz, te_fit hfz] at HP
    have HS := Lib.hid (show sumZ (rowL m (m + 1)) = (z : Int) by rw [rowL_sum, rowS_all, hz])
    clear hfz hz hz9 h261 hd hd1
    go_enter Tryd.func13, Tryd.ntmps13
    go_wp2_with fail
    refine (alive02 w hg).mono ?_
    rintro e w1 ⟨rfl, hb1⟩
    have HB := Lib.hid hb1
    clear hb1
    go_wp2_with fail
    refine (H1.out w1).mono ?_
    rintro e w2 ⟨rfl, hb1⟩
    replace HB := Lib.hid (HB.out.andThen hb1)
    clear hb1 H1
    go_wp2_with fail
    refine (H2.out w2).mono ?_
    rintro e w3 ⟨rfl, hb1⟩
    replace HB := Lib.hid (HB.out.andThen hb1)
    clear hb1 H2
    go_wp2_with fail
    go_loopw [11, 12] (fun rv iv wr => ∃ i : Nat, i ≤ m + 1 ∧ iv = .int .i64 (i : Int) ∧ wr.ownsRow w.heap.size 2 1 rv i ((rowL m i).map (Value.int .i64)) ∧ Below w.heap.size w wr) (fun _ iv _ => m + 1 - (intOf iv).toNat)
    case atStart => exact ⟨0, Nat.zero_le _, rfl, World.ownsRow_nil _ _ _ _, HB.out⟩
    case round =>
      obtain ⟨i, hi, rfl, hown, hb⟩ := hrel
      have HO := Lib.hid hown
      have HBr := Lib.hid hb
      clear hown hb
      by_cases hlt : i ≤ m
      · have hlt' : (i : Int) ≤ (m : Int) := by omega
        have HC := Lib.hid (ChooseFew m i wr (by omega) (by omega))
        obtain ⟨c, hc⟩ : ∃ c : Nat, ch m i = c := ⟨_, rfl⟩
        rw [hc] at HC
        have HCc := Lib.hid hc
        clear hc
        go_wp2_with fail
        refine HC.out.mono ?_
        rintro e w4 ⟨rfl, hb4⟩
        have HO4 := Lib.hid (own_below HO.out (fun g hg => (HO.out.lt g hg).2) hb4)
        have HB4 := Lib.hid (HBr.out.andThen hb4)
        clear HC hb4 HO HBr
        go_wp2_with (at_builtin; refine wpList_push elemI64 (w0 := w4) _ _ rfl rfl HO4.out (Below.refl _ _) HB4.out.size rfl rfl rfl (by simp [Value.oneCell']) (by unfold lim; omega) (by unfold lim; omega) ?_; intro v' w5 hown1 hb5)
        have HO5 := Lib.hid hown1
        have HB5 := Lib.hid (HB4.out.trans hb5)
        clear hown1 hb5
        go_roundw
        case rel => exact ⟨i + 1, by omega, rfl, by rw [rowL_succ, List.map_append, HCc.out]; exact HO5.out, HB5.out⟩
        case measure => simp [intOf]; omega
      · obtain rfl : i = m + 1 := by omega
        obtain ⟨C, k2, rfl, hsl⟩ := Sl.own HO.out
        have HSl := Lib.hid hsl
        have hlt' : ¬ ((m + 1 : Nat) : Int) ≤ (m : Int) := by omega
        have HT := Lib.hid (NumsTotal_any (rowL m (m + 1)) C (m + 1) k2 wr (rowL_len _ _) (by omega) (by
          intro x hx
          obtain ⟨t, _, rfl⟩ := List.mem_map.1 hx
          have := few_le (n := m) (k := t) (by omega)
          omega) HSl.out)
        rw [HS.out, tn_fit HFz.out, te_fit HFz.out] at HT
        have HLst := Lib.hid (fun W (h : Below wr.heap.size wr W) => NumsLeast_any (rowL m (m + 1)) C (m + 1) k2 W (rowL_len _ _) (by omega) (HSl.out.keep h))
        rw [rowL_min, if_neg (by omega), decide_eq_true (by omega)] at HLst
        clear hsl HSl HO
        go_wp2_with fail
        refine HT.out.mono ?_
        rintro e w4 ⟨ev, rfl, hev, hb4⟩
        obtain rfl : ev = .nilIface := hev
        have HB4 := Lib.hid hb4
        clear hb4 HT
        go_wp2_with fail
        refine (HP.out w4).mono ?_
        rintro e w5 ⟨ev, rfl, hev, hb4⟩
        obtain rfl : ev = .nilIface := hev
        have HB5 := Lib.hid (HB4.out.andThen hb4)
        clear hb4 HP HB4
        go_wp2_with fail
        refine (HLst.out w5 HB5.out).mono ?_
        rintro e w6 ⟨rfl, rfl⟩
        clear HLst
        go_wp2_with fail
        go_ret
        exact ⟨rfl, HBr.out.andThen HB5.out⟩

theorem NumsChoose_main (a0 a1 : Int) (w : World) (hg : ErrT w) (h0 : (Lit.int .u8 a0).wf = true) (h1 : (Lit.int .u8 a1).wf = true) :
    Calls Tryd.prog 13 #[.int .u8 a0, .int .u8 a1] w fun e w' => e = .returned (.bool true) ∧ Below w.heap.size w w' := by
  have b0 := wf_u8 h0
  have b1 := wf_u8 h1
  obtain ⟨a0, rfl⟩ := Int.eq_ofNat_of_zero_le b0.1
  obtain ⟨a1, rfl⟩ := Int.eq_ofNat_of_zero_le b1.1
  exact NumsChoose_walk a0 a1 w hg (by omega) (by omega)
end Go.Proofs.YtclbbchljiagpaaDoor
