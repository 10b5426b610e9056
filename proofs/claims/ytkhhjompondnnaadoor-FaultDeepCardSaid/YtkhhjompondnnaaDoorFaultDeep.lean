/-
  The walk of FaultDeep.
-/
import Derived.Test.YtkhhjompondnnaaDoorLaw01
namespace Go.Proofs.YtkhhjompondnnaaDoor
open Go.RowKit Go.Extern.Stop Go.Stop Go.Extern
set_option maxRecDepth 100000

theorem chain_out (word : ByteArray) (l : List ByteArray) (c a : Int) (s : ByteArray) : (chain (word :: l) c a s).out = chain l c a s := rfl
theorem chain_in (word : ByteArray) (l : List ByteArray) (c a : Int) (s : ByteArray) : (chain l c a s).in_ word = chain (word :: l) c a s := Err.in_of (chain_ne _ _ _ _) _
theorem withColons_rep (word : ByteArray) : ∀ k, (withColons (List.replicate k word)).length = k * (word.size + 2)
  | 0 => by simp [withColons]
  | k + 1 => by
    have h := withColons_rep word k
    rw [List.replicate_succ]
    have : withColons (word :: List.replicate k word) = (word.data.toList ++ [58, 32]) ++ withColons (List.replicate k word) := rfl
    rw [this, List.length_append, h, Nat.succ_mul]
    simp
    have : word.data.size = word.size := rfl
    omega
theorem chain_text_size (word : ByteArray) (k : Nat) (c a : Int) : (⟨(chain (List.replicate k word) c a ⟨#[120]⟩).text.toArray⟩ : ByteArray).size = k * (word.size + 2) + 1 := by
  show (chain (List.replicate k word) c a ⟨#[120]⟩).text.toArray.size = _
  rw [Err.text, chain_words, chain_inner]
  simp [withColons_rep]

set_option maxHeartbeats 4000000 in
theorem FaultDeep_walk (n : Nat) (hn : n ≤ 255) (word : ByteArray) (code : Int) (w : World) (hg : ErrT w) :
    Calls Tryd.prog 9 #[.int .u8 n, .string word, .int .i64 code] w fun e w' => e = .returned (.bool true) ∧ Below w.heap.size w w' := by
  go_enter Tryd.func9, Tryd.ntmps9
  go_wp2_with fail
  refine (alive01 w hg).mono ?_
  rintro e w1 ⟨rfl, hb1⟩
  have HB1 := Lib.hid hb1
  have HG1 := Lib.hid (hg.keep hb1)
  clear hg hb1
  by_cases hm : word.size ≤ 100
  · obtain ⟨k, hk, hkn⟩ : ∃ k : Nat, k ≤ 39 ∧ n % 40 = k := ⟨_, by omega, rfl⟩
    have hnk : ((n : Int) % 40) = (k : Int) := by omega
    go_wp2_with fail
    refine (New_err code 7 ⟨#[120]⟩ w1).mono ?_
    rintro e w2 ⟨v2, rfl, hv2, hb2⟩
    go_wp2_with fail
    go_loopw [8, 9] (fun e i wr => ∃ j : Nat, j ≤ k ∧ i = .int .i64 j ∧ (chain (List.replicate j word) code 7 ⟨#[120]⟩).At wr e ∧ Below w1.heap.size w1 wr) (fun _ i _ => k - (intOf i).toNat)
    case atStart => exact ⟨0, Nat.zero_le _, rfl, hv2, hb2⟩
    case round =>
      obtain ⟨j, hj, rfl, hE, hb⟩ := hrel
      have HE := Lib.hid hE
      clear hE hv2 hb2
      by_cases hlt : j < k
      · go_wp2_with fail
        refine (In_any word _ _ wr HE.out).mono ?_
        rintro e w3 ⟨v3, rfl, hv3, hb3⟩
        go_wp2_with fail
        go_roundw
        case rel => exact ⟨j + 1, by omega, by go_num, by rw [chain_in] at hv3; exact hv3, hb.andThen hb3⟩
        case measure => simp [intOf]; omega
      · obtain rfl : j = k := by omega
        have HB := Lib.hid (HB1.out.andThen hb)
        have HG := Lib.hid (HG1.out.keep hb)
        clear hb HB1 HG1
        obtain ⟨T, x, rfl⟩ := Err.At.iface_ HE.out (chain_ne _ _ _ _)
        go_wp2_with fail
        have hW := Words_any _ _ wr HE.out (by rw [chain_size, List.length_replicate]; omega)
        rw [chain_words, List.length_replicate] at hW
        refine hW.mono ?_
        rintro e w4 ⟨A4, c4, rfl, _, hb4⟩
        clear hW
        have HB4 := Lib.hid hb4
        clear hb4
        go_wp2_with fail
        have hC := Code_any _ _ w4 (HE.out.keep HB4.out) (HG.out.keep HB4.out)
        rw [chain_code] at hC
        refine hC.mono ?_
        rintro e w5 ⟨rfl, hb5⟩
        clear hC
        have HB5 := Lib.hid (HB4.out.andThen hb5)
        clear hb5 HB4
        go_wp2_with fail
        have hC := At_any _ _ w5 (HE.out.keep HB5.out) (HG.out.keep HB5.out)
        rw [chain_at] at hC
        refine hC.mono ?_
        rintro e w6 ⟨rfl, hb6⟩
        clear hC
        have HB6 := Lib.hid (HB.out.andThen (HB5.out.andThen hb6))
        have HE6 := Lib.hid (HE.out.keep (HB5.out.andThen hb6))
        clear hb6 HB5 HE HB HG
        go_wp2_with fail
        go_loopw [8, 10] (fun e i wr => ∃ i' : Nat, i' ≤ j ∧ i = .int .i64 i' ∧ (chain (List.replicate i' word) code 7 ⟨#[120]⟩).At wr e ∧ Below w6.heap.size w6 wr) (fun _ i _ => (intOf i).toNat)
        case atStart => exact ⟨j, Nat.le_refl _, by first | rfl | exact congrArg (Value.int .i64) hnk, HE6.out, Below.refl _ _⟩
        case round =>
          obtain ⟨i, hi, rfl, hE, hb⟩ := hrel
          obtain ⟨T7, x7, rfl⟩ := Err.At.iface_ hE (chain_ne _ _ _ _)
          have HE := Lib.hid hE
          have HB := Lib.hid hb
          clear hE hb
          rcases i with _ | i
          · go_wp2_with fail
            have hT := Text_any _ _ wr HE.out (fun h => by cases h) (show 1 ≤ 4294967296 by omega) (show 0 ≤ lim by unfold lim; omega) (show 1 ≤ lim by unfold lim; omega)
            rw [show (⟨(chain (List.replicate 0 word) code 7 ⟨#[120]⟩).text.toArray⟩ : ByteArray) = ⟨#[120]⟩ from rfl] at hT
            refine hT.mono ?_
            rintro e w8 ⟨rfl, hb8⟩
            clear hT
            have HB8 := Lib.hid hb8
            clear hb8
            go_wp2_with fail
            refine (Unwrap_any _ _ w8 w8 (HE.out.keep HB8.out) (Below.refl _ _)).mono ?_
            rintro e w9 ⟨v9, rfl, hv9, rfl⟩
            obtain rfl : v9 = .nilIface := hv9
            go_wp2_with fail
            have hI := faultIs_any _ _ w8 (HE.out.keep HB8.out) code
            rw [chain_isA, show ((code : Int) == code) = true from by simp] at hI
            refine hI.mono ?_
            rintro e w10 ⟨rfl, hb10⟩
            go_wp2_with fail
            go_ret
            exact ⟨rfl, HB6.out.andThen (HB.out.andThen (HB8.out.andThen hb10))⟩
          · have HO := Lib.hid (chain_out word (List.replicate i word) code 7 ⟨#[120]⟩)
            have hmu : (i + 1) * (word.size + 2) ≤ 39 * 102 := Nat.mul_le_mul (by omega) (by omega)
            have hX := chain_text_size word (i + 1) code 7
            have hW := Words_any _ _ wr HE.out (by rw [chain_size, List.length_replicate]; omega)
            rw [chain_words, List.length_replicate] at hW
            have HW := Lib.hid hW
            clear hW
            have HT := Lib.hid (fun W hb => Text_any _ (.iface T7 x7) W (HE.out.keep (w := wr) hb) (chain_ne _ _ _ _) (by rw [chain_size, List.length_replicate]; omega) (by rw [chain_words, withColons_rep]; unfold lim; omega) (by rw [chain_inner]; decide))
            generalize (⟨(chain (List.replicate (i + 1) word) code 7 ⟨#[120]⟩).text.toArray⟩ : ByteArray) = X at *
            have hp1 : ((i : Int) + 1) * ((word.size : Int) + 2) = (((i + 1) * (word.size + 2) : Nat) : Int) := by push_cast; rfl
            have hp2 : IntKind.i64.wrap (((i : Int) + 1) * ((word.size : Int) + 2)) = (((i + 1) * (word.size + 2) : Nat) : Int) := by
              rw [hp1]
              generalize (i + 1) * (word.size + 2) = q at hmu
              exact IntWalk.i64_in _ (by omega)
            have hp3 : ((X.size : Int) == (((i + 1) * (word.size + 2) : Nat) : Int) + 1) = true := by rw [hX]; simp
            generalize (i + 1) * (word.size + 2) = q at *
            clear hX hp1
            go_wp2_with fail
            refine HW.out.mono ?_
            rintro e w8 ⟨A8, c8, rfl, _, hb8⟩
            have HB8 := Lib.hid hb8
            clear hb8 HW
            go_wp2_with fail
            refine (HT.out w8 HB8.out).mono ?_
            rintro e w9 ⟨rfl, hb9⟩
            have HB9 := Lib.hid (HB8.out.andThen hb9)
            clear hb9 HT HB8
            go_wp2_with fail
            refine (Unwrap_any _ _ w9 w9 (HE.out.keep HB9.out) (Below.refl _ _)).mono ?_
            rintro e w10 ⟨v10, rfl, hv10, rfl⟩
            go_wp2_with fail
            go_roundw
            case rel => exact ⟨i, by omega, by go_num, hv10, HB.out.andThen HB9.out⟩
            case measure => simp [intOf]
  · go_wp2_with fail
    go_ret
    exact ⟨rfl, HB1.out⟩

theorem FaultDeep_main (a0 : Int) (a1 : ByteArray) (a2 : Int) (w : World) (hg : ErrT w) (h0 : (Lit.int .u8 a0).wf = true) (_ : a1.size ≤ maxLen) (_ : (Lit.int .i64 a2).wf = true) :
    Calls Tryd.prog 9 #[.int .u8 a0, .string a1, .int .i64 a2] w fun e w' => e = .returned (.bool true) ∧ Below w.heap.size w w' := by
  have h := wf_u8 h0
  obtain ⟨n, rfl⟩ := Int.eq_ofNat_of_zero_le h.1
  exact FaultDeep_walk n (by omega) a1 a2 w hg
end Go.Proofs.YtkhhjompondnnaaDoor
