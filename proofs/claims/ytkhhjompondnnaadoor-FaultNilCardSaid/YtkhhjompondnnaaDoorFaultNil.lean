/-
  The walk of FaultNil.
-/
import Derived.Test.YtkhhjompondnnaaDoorLaw01
namespace Go.Proofs.YtkhhjompondnnaaDoor
open Go.RowKit Go.Extern.Stop Go.Stop Go.Extern
set_option maxRecDepth 100000

theorem errNew_calls (s : ByteArray) (w : World) : Calls Tryd.prog 59 #[.string s] w fun e w' => ∃ v, e = .returned v ∧ (Err.txt s).At w' v ∧ Below w.heap.size w w' := by
  go_enter Tryd.func59, Tryd.ntmps59
  go_wp2
  go_ret
  exact ⟨_, rfl, ⟨_, rfl, Blk.new _ _ _⟩, bel_al (Below.refl _ _) _⟩

theorem Text_nil (w : World) : Calls Tryd.prog 50 #[.nilIface] w fun e w' => e = .returned (.string ⟨#[]⟩) ∧ Below w.heap.size w w' := by
  go_enter Tryd.func50, Tryd.ntmps50
  go_wp2
  go_ret
  exact ⟨rfl, Below.refl _ _⟩

set_option maxHeartbeats 4000000 in
theorem FaultNil_walk (word text : ByteArray) (w : World) (hg : ErrT w) :
    Calls Tryd.prog 13 #[.string word, .string text] w fun e w' => e = .returned (.bool true) ∧ Below w.heap.size w w' := by
  go_enter Tryd.func13, Tryd.ntmps13
  go_wp2_with fail
  refine (alive01 w hg).mono ?_
  rintro e w1 ⟨rfl, hb1⟩
  have HB1 := Lib.hid hb1
  have HG1 := Lib.hid (hg.keep hb1)
  clear hg hb1
  by_cases hm : word.size ≤ 200
  · by_cases hm2 : text.size ≤ 200
    · have z1 : word.size + 2 ≤ 140737488355328 := by omega
      have z1' : ((word : ByteArray) ++ ⟨#[58, 32]⟩).size ≤ 140737488355328 := by rw [ByteArray.size_append]; exact z1
      have z2 : ((word : ByteArray) ++ ⟨#[58, 32]⟩).size + text.size ≤ 140737488355328 := by rw [ByteArray.size_append]; show word.size + 2 + text.size ≤ _; omega
      have z2' : ((word : ByteArray) ++ ⟨#[58, 32]⟩ ++ text).size ≤ 140737488355328 := by rw [ByteArray.size_append]; exact z2
      go_wp2_with fail
      refine (errNew_calls text w1).mono ?_
      rintro e w2 ⟨v2, rfl, hv2, hb2⟩
      obtain ⟨T2, x2, rfl⟩ := Err.At.iface_ hv2 (fun h => by cases h)
      have HV2 := Lib.hid hv2
      have HB2 := Lib.hid hb2
      clear hv2 hb2
      go_wp2_with fail
      refine (In_any word _ _ w2 HV2.out).mono ?_
      rintro e w3 ⟨v3, rfl, hv3, hb3⟩
      obtain ⟨T3, x3, rfl⟩ := Err.At.iface_ hv3 (fun h => by cases h)
      have HV3 := Lib.hid hv3
      have HG3 := Lib.hid ((HG1.out.keep HB2.out).keep hb3)
      have HB3 := Lib.hid (HB2.out.andThen hb3)
      have HE3 := Lib.hid (HV2.out.keep hb3)
      clear hv3 hb3 HB2 HV2
      go_wp2_with fail
      refine (In_any word .nil _ w3 rfl).mono ?_
      rintro e w4 ⟨v4, rfl, hv4, hb4⟩
      obtain rfl : v4 = .nilIface := hv4
      have HB4 := Lib.hid hb4
      clear hb4
      go_wp2_with fail
      refine (Code_nil w4).mono ?_
      rintro e w5 ⟨rfl, hw5⟩
      have HB5 := Lib.hid (show Below w3.heap.size w3 w5 by rw [← hw5]; exact HB4.out)
      clear hw5 HB4
      go_wp2_with fail
      refine (At_any .nil _ w5 rfl (HG3.out.keep HB5.out)).mono ?_
      rintro e w6 ⟨rfl, hb6⟩
      have HB6 := Lib.hid (HB5.out.andThen hb6)
      clear hb6 HB5
      go_wp2_with fail
      refine (Words_any .nil _ w6 rfl (by decide)).mono ?_
      rintro e w7 ⟨A7, c7, rfl, _, hb7⟩
      have HB7 := Lib.hid (HB6.out.andThen hb7)
      clear hb7 HB6
      go_wp2_with fail
      refine (faultIs_any .nil _ w7 rfl 1).mono ?_
      rintro e w8 ⟨rfl, hb8⟩
      have HB8 := Lib.hid (HB7.out.andThen hb8)
      clear hb8 HB7
      go_wp2_with fail
      refine (Text_nil w8).mono ?_
      rintro e w9 ⟨rfl, hb9⟩
      have HB9 := Lib.hid (HB8.out.andThen hb9)
      clear hb9 HB8
      go_wp2_with fail
      refine (First_any [] [] none 0 0 w9 (by omega) rfl rfl (Sl.nil _ _ _)).mono ?_
      rintro e w10 ⟨v10, rfl, hv10, rfl⟩
      obtain rfl : v10 = .nilIface := hv10
      go_wp2_with fail
      have hb11 := bel_al (Below.refl w9.heap.size w9) (.cells #[.nilIface, .nilIface] 26)
      refine (First_any [.nil, .nil] [.nilIface, .nilIface] _ 2 2 _ (by omega) rfl ⟨_, _, rfl, rfl, _, _, rfl, rfl, rfl⟩ (Sl.new _ _ _)).mono ?_
      rintro e w11 ⟨v11, rfl, hv11, hw11⟩
      obtain rfl : v11 = .nilIface := hv11
      rw [hw11] at hb11
      have HB11 := Lib.hid (HB9.out.andThen hb11)
      clear hb11 HB9 hw11
      go_wp2_with fail
      refine (Code_any _ _ w11 (HV3.out.keep HB11.out) (HG3.out.keep HB11.out)).mono ?_
      rintro e w12 ⟨rfl, hb12⟩
      have HB12 := Lib.hid (HB11.out.andThen hb12)
      clear hb12 HB11
      go_wp2_with fail
      refine (At_any _ _ w12 (HV3.out.keep HB12.out) (HG3.out.keep HB12.out)).mono ?_
      rintro e w13 ⟨rfl, hb13⟩
      have HB13 := Lib.hid (HB12.out.andThen hb13)
      clear hb13 HB12
      go_wp2_with fail
      refine (faultIs_any _ _ w13 (HV3.out.keep HB13.out) (-1)).mono ?_
      rintro e w14 ⟨rfl, hb14⟩
      have HB14 := Lib.hid (HB13.out.andThen hb14)
      clear hb14 HB13
      go_wp2_with fail
      have hT := Text_any _ _ w14 (HV3.out.keep HB14.out) (fun h => by cases h) (by simp [Err.in_, Err.size]) (by simp [Err.in_, Err.words, withColons, lim]; omega) (by simp [Err.in_, Err.inner, lim]; omega)
      rw [show (⟨((Err.txt text).in_ word).text.toArray⟩ : ByteArray) = word ++ ⟨#[58, 32]⟩ ++ text from by
        apply ByteArray.ext; simp [Err.in_, Err.text, Err.words, Err.inner, withColons]] at hT
      refine hT.mono ?_
      rintro e w15 ⟨rfl, hb15⟩
      have HB15 := Lib.hid (HB14.out.andThen hb15)
      clear hb15 HB14 hT
      go_wp2_with fail
      refine (Words_any (.txt text) _ w15 (HE3.out.keep HB15.out) (show 1 ≤ 4294967296 by omega)).mono ?_
      rintro e w16 ⟨A16, c16, rfl, _, hb16⟩
      go_wp2_with fail
      go_ret
      exact ⟨rfl, HB1.out.andThen (HB3.out.andThen (HB15.out.andThen hb16))⟩
    · go_wp2_with fail
      go_ret
      exact ⟨rfl, HB1.out⟩
  · go_wp2_with fail
    go_ret
    exact ⟨rfl, HB1.out⟩

theorem FaultNil_main (a0 a1 : ByteArray) (w : World) (hg : ErrT w) (_ : a0.size ≤ maxLen) (_ : a1.size ≤ maxLen) :
    Calls Tryd.prog 13 #[.string a0, .string a1] w fun e w' => e = .returned (.bool true) ∧ Below w.heap.size w w' :=
  FaultNil_walk a0 a1 w hg
end Go.Proofs.YtkhhjompondnnaaDoor
