/-
  NumsTwo: the walk.
-/
import Derived.Test.YtclbbchljiagpaaDoorNumI
import Derived.Test.YtclbbchljiagpaaDoorNumH
namespace Go.Proofs.YtclbbchljiagpaaDoor
open Go.RowKit
set_option maxRecDepth 100000
set_option linter.unusedVariables false

theorem few_i64 {a : Int} (h : -9223372036854775808 ≤ a ∧ a ≤ 9223372036854775807) : Few a := by
  have h5 : (32768 : Nat) ^ 5 = 37778931862957161709568 := by decide
  exact Few.of (k := 5) (by rw [h5]; omega) (by omega)

set_option maxHeartbeats 4000000 in
theorem NumsTwo_main (a b : Int) (w : World) (hg : ErrT w) (h0 : (Lit.int .i64 a).wf = true) (h1 : (Lit.int .i64 b).wf = true) :
    Calls Tryd.prog 8 #[.int .i64 a, .int .i64 b] w fun e w' => e = .returned (.bool true) ∧ Below w.heap.size w w' := by
  have ha := wf_i64 h0
  have hb := wf_i64 h1
  have hfa := few_i64 ha
  have hfb := few_i64 hb
  have h32 : (32768 : Nat) ^ 9 = 43556142965880123323311949751266331066368 := by decide
  have FA := Lib.hid (show Few (a + b) from Few.of (k := 9) (by rw [h32]; omega) (by omega))
  have FM := Lib.hid (show Few (a * b) from Few.of (k := 9) (by
    rw [h32, Int.natAbs_mul]
    have h := Nat.mul_le_mul (show a.natAbs ≤ 9223372036854775808 by omega) (show b.natAbs ≤ 9223372036854775808 by omega)
    omega) (by omega))
  have H1 := Lib.hid (fun W => NumsAdd_any a b W ha hb)
  have H2 := Lib.hid (fun W => NumsMul_any a b W ha hb)
  clear h32 h0 h1
  have HFa := Lib.hid hfa
  have HFb := Lib.hid hfb
  clear hfa hfb
  go_enter Tryd.func8, Tryd.ntmps8
  go_wp2_with fail
  refine (alive02 w hg).mono ?_
  rintro e w1 ⟨rfl, hb1⟩
  have HB := Lib.hid hb1
  clear hb1
  go_wp2_with fail
  refine (H1.out w1).mono ?_
  rintro e w2 ⟨ev1, rfl, hev, hb1⟩
  have HE1 := Lib.hid hev
  replace HB := Lib.hid (HB.out.andThen hb1)
  clear hb1 hev H1
  go_wp2_with fail
  refine (H2.out w2).mono ?_
  rintro e w3 ⟨ev2, rfl, hev, hb1⟩
  have HE2 := Lib.hid hev
  replace HE1 := Lib.hid (HE1.out.keep hb1)
  replace HB := Lib.hid (HB.out.andThen hb1)
  clear hb1 hev H2
  go_wp2_with fail
  refine (Of_any a w3 ha).mono ?_
  rintro e w4 ⟨v1, rfl, hv, hb1⟩
  have HV1 := Lib.hid hv
  replace HE1 := Lib.hid (HE1.out.keep hb1)
  replace HE2 := Lib.hid (HE2.out.keep hb1)
  replace HB := Lib.hid (HB.out.andThen hb1)
  clear hb1 hv
  go_wp2_with fail
  refine (Of_any b w4 hb).mono ?_
  rintro e w5 ⟨v2, rfl, hv, hb1⟩
  have HV2 := Lib.hid hv
  replace HV1 := Lib.hid (HV1.out.keep hb1)
  replace HE1 := Lib.hid (HE1.out.keep hb1)
  replace HE2 := Lib.hid (HE2.out.keep hb1)
  replace HB := Lib.hid (HB.out.andThen hb1)
  clear hb1 hv
  go_wp2_with fail
  refine (RefAdd_any v1 v2 a b w5 HV1.out HV2.out HFa.out HFb.out).mono ?_
  rintro e w6 ⟨v3, rfl, hv, hb1⟩
  have HV3 := Lib.hid hv
  replace HE1 := Lib.hid (HE1.out.keep hb1)
  replace HE2 := Lib.hid (HE2.out.keep hb1)
  replace HB := Lib.hid (HB.out.andThen hb1)
  clear hb1 hv HV1 HV2
  go_wp2_with fail
  refine (told_any (a + b) txtSum ev1 v3 w6 (hg.keep HB.out) HE1.out HV3.out FA.out).mono ?_
  rintro e w7 ⟨rfl, hb1⟩
  replace HE2 := Lib.hid (HE2.out.keep hb1)
  replace HB := Lib.hid (HB.out.andThen hb1)
  clear hb1 HV3 HE1
  go_wp2_with fail
  refine (Of_any a w7 ha).mono ?_
  rintro e w8 ⟨v1, rfl, hv, hb1⟩
  have HV1 := Lib.hid hv
  replace HE2 := Lib.hid (HE2.out.keep hb1)
  replace HB := Lib.hid (HB.out.andThen hb1)
  clear hb1 hv
  go_wp2_with fail
  refine (Of_any b w8 hb).mono ?_
  rintro e w9 ⟨v2, rfl, hv, hb1⟩
  have HV2 := Lib.hid hv
  replace HV1 := Lib.hid (HV1.out.keep hb1)
  replace HE2 := Lib.hid (HE2.out.keep hb1)
  replace HB := Lib.hid (HB.out.andThen hb1)
  clear hb1 hv
  go_wp2_with fail
  refine (RefMul_any v1 v2 a b w9 HV1.out HV2.out HFa.out HFb.out).mono ?_
  rintro e w10 ⟨v3, rfl, hv, hb1⟩
  have HV3 := Lib.hid hv
  replace HE2 := Lib.hid (HE2.out.keep hb1)
  replace HB := Lib.hid (HB.out.andThen hb1)
  clear hb1 hv HV1 HV2
  go_wp2_with fail
  refine (told_any (a * b) txtProduct ev2 v3 w10 (hg.keep HB.out) HE2.out HV3.out FM.out).mono ?_
  rintro e w11 ⟨rfl, hb1⟩
  replace HB := Lib.hid (HB.out.andThen hb1)
  clear hb1
  go_wp2_with fail
  go_ret
  exact ⟨rfl, HB.out⟩
end Go.Proofs.YtclbbchljiagpaaDoor
