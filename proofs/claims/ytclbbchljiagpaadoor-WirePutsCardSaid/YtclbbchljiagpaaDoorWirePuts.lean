/-
  The walk of WirePuts.
-/
import Derived.Test.YtclbbchljiagpaaDoorWireI
namespace Go.Proofs.YtclbbchljiagpaaDoor
open Go.RowKit
set_option maxRecDepth 100000
set_option linter.unusedVariables false

set_option maxHeartbeats 4000000 in
theorem WirePuts_main (A : Option Addr) (n c : Nat) (xs : List Item) (w : World) (hg : ErrT w) (hm : n ≤ maxLen) (_ : xs.length = n) (hI : Its w A n xs) (_ : True) :
    Calls Tryd.prog 4 #[.slice A n c] w fun e w' => e = .returned (.bool true) ∧ Below w.heap.size w w' := by
  have HI := Lib.hid hI
  have HG := Lib.hid hg
  unfold maxLen at hm
  clear hI hg
  go_enter Tryd.func4, Tryd.ntmps4
  go_wp2_with fail
  refine (alive03 w HG.out).mono ?_
  rintro e w1 ⟨rfl, hb⟩
  have HB := Lib.hid hb
  replace HI := Lib.hid (HI.out.keep hb)
  replace HG := Lib.hid (HG.out.keep hb)
  clear hb
  have HF := Lib.hid (far_any xs A n c w1 hm HI.out)
  by_cases hN : Near xs
  · rw [decide_eq_true hN] at HF
    have HP := Lib.hid (put_any xs A n c w1 HI.out hN)
    have hpl := pItems_len (l := xs) hN.2 ([], .nil)
    have hwe := WE.pItems (l := xs) (st := ([], .nil)) (.inl rfl) hN.2 (by have := hN.1; simp only [List.length_nil]; omega)
    have hl40 := hN.1
    simp only [List.length_nil] at hpl
    have HRP := Lib.hid (fun W (h : Its W A n xs) => Put_ref xs A n c W h hN)
    have HWE := Lib.hid hwe
    clear hN hwe
    go_wp2_with fail
    refine HF.out.mono ?_
    rintro e w0 ⟨rfl, rfl⟩
    clear HF
    go_wp2_with fail
    refine HP.out.mono ?_
    rintro e w2 ⟨g, rfl, hW, hb⟩
    replace HB := Lib.hid (HB.out.andThen hb)
    replace HI := Lib.hid (HI.out.keep hb)
    replace HG := Lib.hid (HG.out.keep hb)
    have HW := Lib.hid hW
    clear hb hW HP
    generalize hst : pItems xs ([], .nil) = st at *
    clear hst
    go_wp2_with fail
    refine (HRP.out w2 HI.out).mono ?_
    rintro e w3 ⟨C, k, rfl, hsC, hb⟩
    replace HB := Lib.hid (HB.out.andThen hb)
    replace HG := Lib.hid (HG.out.keep hb)
    replace HW := Lib.hid (HW.out.keep hb)
    have SC := Lib.hid hsC
    clear hb hsC HRP HI
    go_wp2_with fail
    refine (Bytes_any g _ st w3 HW.out (by omega)).mono ?_
    rintro e w4 ⟨D, kd, rfl, hsD, _, hb⟩
    replace HB := Lib.hid (HB.out.andThen hb)
    replace HG := Lib.hid (HG.out.keep hb)
    replace HW := Lib.hid (HW.out.keep hb)
    replace SC := Lib.hid (SC.out.keep hb)
    have SD := Lib.hid hsD
    clear hb hsD
    go_wp2_with fail
    have hR := Same_any st.1 st.1 D C st.1.length st.1.length kd k w4 rfl rfl SD.out SC.out (by omega)
    rw [decide_eq_true rfl] at hR
    refine hR.mono ?_
    rintro e w5 ⟨rfl, hb⟩
    replace HB := Lib.hid (HB.out.andThen hb)
    replace HG := Lib.hid (HG.out.keep hb)
    replace HW := Lib.hid (HW.out.keep hb)
    clear hb hR SC SD
    go_wp2_with fail
    refine (Err_any g _ st w5 HW.out).mono ?_
    rintro e w6 ⟨v, rfl, hv, rfl⟩
    rcases HWE.out with hE | ⟨a, ha, hE⟩
    · rw [hE] at hv
      obtain rfl : v = .nilIface := hv
      have hbd : badE st.2 = -1 := by rw [hE]; rfl
      clear hE
      go_wp2_with fail
      go_ret
      exact ⟨rfl, HB.out⟩
    · rw [hE] at hv
      have HV := Lib.hid hv
      have hbd : badE st.2 = a := by rw [hE]; rfl
      clear hE hv
      go_wp2_with fail
      refine (Code_any _ v w5 HV.out HG.out).mono ?_
      rintro e w6 ⟨rfl, hb⟩
      replace HB := Lib.hid (HB.out.andThen hb)
      replace HG := Lib.hid (HG.out.keep hb)
      replace HV := Lib.hid (HV.out.keep hb)
      clear hb
      go_wp2_with fail
      refine (At_any _ v w6 HV.out HG.out).mono ?_
      rintro e w7 ⟨rfl, hb⟩
      replace HB := Lib.hid (HB.out.andThen hb)
      clear hb
      go_wp2_with fail
      go_ret
      exact ⟨ret_bool (by simp [Err.at_]), HB.out⟩
  · rw [decide_eq_false hN] at HF
    clear hN
    go_wp2_with fail
    refine HF.out.mono ?_
    rintro e w0 ⟨rfl, rfl⟩
    go_wp2_with fail
    go_ret
    exact ⟨rfl, HB.out⟩
end Go.Proofs.YtclbbchljiagpaaDoor
