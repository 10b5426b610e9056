/-
  The walk of FaultApart.
-/
import Derived.Test.YtkhhjompondnnaaDoorLaw01
namespace Go.Proofs.YtkhhjompondnnaaDoor
open Go.RowKit Go.Extern.Stop Go.Stop Go.Extern
set_option maxRecDepth 100000

set_option maxHeartbeats 4000000 in
theorem FaultApart_walk (a b : Int) (A : Option Addr) (n cp : Nat) (ws : List ByteArray) (w : World) (hg : ErrT w) (hn : n ≤ 9223372036854775807) (hl : ws.length = n) (hs : Sl w 1 A n (ws.map Value.string)) :
    Calls Tryd.prog 10 #[.int .i64 a, .int .i64 b, .slice A n cp] w fun e w' => e = .returned (.bool true) ∧ Below w.heap.size w w' := by
  go_enter Tryd.func10, Tryd.ntmps10
  go_wp2_with fail
  refine (alive01 w hg).mono ?_
  rintro e w1 ⟨rfl, hb1⟩
  have HB1 := Lib.hid hb1
  have HG1 := Lib.hid (hg.keep hb1)
  have HS := Lib.hid hs
  clear hs hg hb1
  by_cases hm : n ≤ 30
  · go_wp2_with fail
    refine (made_any ws A n cp a 0 ⟨#[]⟩ w1 hn hl (HS.out.keep HB1.out)).mono ?_
    rintro e w2 ⟨x, rfl, hx, hb2⟩
    have HB2 := Lib.hid hb2
    go_wp2_with fail
    refine (made_any ws A n cp b 0 ⟨#[]⟩ w2 hn hl ((HS.out.keep HB1.out).keep hb2)).mono ?_
    rintro e w3 ⟨y, rfl, hy, hb3⟩
    have HX := Lib.hid (hx.keep hb3)
    have HY := Lib.hid hy
    have HB := Lib.hid ((HB1.out.andThen HB2.out).andThen hb3)
    have HG := Lib.hid ((HG1.out.keep HB2.out).keep hb3)
    obtain ⟨T, x', rfl⟩ := Err.At.iface_ hx (chain_ne _ _ _ _)
    obtain ⟨U, y', rfl⟩ := Err.At.iface_ hy (chain_ne _ _ _ _)
    clear hx hy hb2 hb3 HB1 HB2 HG1
    go_wp2_with fail
    have hb4 := bel_al (Below.refl w3.heap.size w3) (.cells #[.nilIface, .iface T x', .iface U y'] 26)
    refine (First_any [.nil, chain ws a 0 ⟨#[]⟩, chain ws b 0 ⟨#[]⟩] [.nilIface, .iface T x', .iface U y'] _ 3 3 _ (by omega) rfl ⟨_, _, rfl, rfl, _, _, rfl, HX.out.keep hb4, _, _, rfl, HY.out.keep hb4, rfl⟩ (Sl.new _ _ _)).mono ?_
    rintro e w4 ⟨v1, rfl, hv1, rfl⟩
    rw [show Err.first [.nil, chain ws a 0 ⟨#[]⟩, chain ws b 0 ⟨#[]⟩] = chain ws a 0 ⟨#[]⟩ from Err.first_cons (chain_ne _ _ _ _) _] at hv1
    have HV1 := Lib.hid hv1
    have HB4 := Lib.hid hb4
    clear hv1 hb4
    go_wp2_with fail
    have hb5 := bel_al (Below.refl _ (w3.alloc (.cells #[.nilIface, .iface T x', .iface U y'] 26))) (.cells #[.iface U y', .nilIface, .iface T x'] 26)
    have hsl2 := Sl.new (w3.alloc (.cells #[.nilIface, .iface T x', .iface U y'] 26)) #[.iface U y', .nilIface, .iface T x'] 26
    rw [World.size_alloc] at hsl2
    refine (First_any [chain ws b 0 ⟨#[]⟩, .nil, chain ws a 0 ⟨#[]⟩] [.iface U y', .nilIface, .iface T x'] _ 3 3 _ (by omega) rfl ⟨_, _, rfl, (HY.out.keep HB4.out).keep hb5, _, _, rfl, rfl, _, _, rfl, (HX.out.keep HB4.out).keep hb5, rfl⟩ hsl2).mono ?_
    clear hsl2
    rintro e w4 ⟨v2, rfl, hv2, hw4⟩
    rw [show Err.first [chain ws b 0 ⟨#[]⟩, .nil, chain ws a 0 ⟨#[]⟩] = chain ws b 0 ⟨#[]⟩ from Err.first_cons (chain_ne _ _ _ _) _] at hv2
    have hbb : Below w3.heap.size w3 w4 := by rw [← hw4]; exact HB4.out.andThen hb5
    have hb5' : Below (w3.alloc (.cells #[.nilIface, .iface T x', .iface U y'] 26)).heap.size (w3.alloc (.cells #[.nilIface, .iface T x', .iface U y'] 26)) w4 := by rw [← hw4]; exact hb5
    have X4 := Lib.hid (HX.out.keep hbb)
    have Y4 := Lib.hid (HY.out.keep hbb)
    have O4 := Lib.hid (HV1.out.keep hb5')
    have T4 := Lib.hid (show Err.At w4 (chain ws b 0 ⟨#[]⟩) v2 by rw [← hw4]; exact hv2)
    have B4 := Lib.hid (HB.out.andThen hbb)
    have G4 := Lib.hid (HG.out.keep hbb)
    clear hv2 hw4 hbb hb5' hb5 HB4 HX HY HV1 HB HG
    have hI1 := faultIs_any (chain ws a 0 ⟨#[]⟩) (.iface T x') w4 X4.out b
    rw [chain_isA] at hI1
    have HI1 := Lib.hid hI1
    clear hI1
    by_cases hab : b = a
    · subst hab
      have hbe : ((b : Int) == b) = true := by simp
      have HBE := Lib.hid hbe
      rw [HBE.out] at HI1
      clear hbe
      go_wp2_with fail
      refine HI1.out.mono ?_
      rintro e w5 ⟨rfl, hb5⟩
      go_wp2_with fail
      have hI2 := faultIs_any (chain ws b 0 ⟨#[]⟩) (.iface U y') w5 (Y4.out.keep hb5) b
      rw [chain_isA, HBE.out] at hI2
      refine hI2.mono ?_
      rintro e w6 ⟨rfl, hb6⟩
      go_wp2_with fail
      have hC1 := Code_any _ v1 w6 ((O4.out.keep hb5).keep hb6) ((G4.out.keep hb5).keep hb6)
      rw [chain_code] at hC1
      refine hC1.mono ?_
      rintro e w7 ⟨rfl, hb7⟩
      go_wp2_with fail
      have hC2 := Code_any _ v2 w7 (((T4.out.keep hb5).keep hb6).keep hb7) (((G4.out.keep hb5).keep hb6).keep hb7)
      rw [chain_code] at hC2
      refine hC2.mono ?_
      rintro e w8 ⟨rfl, hb8⟩
      go_wp2_with fail
      have hW := Words_any _ v1 w8 ((((O4.out.keep hb5).keep hb6).keep hb7).keep hb8) (by rw [chain_size]; omega)
      rw [chain_words] at hW
      refine hW.mono ?_
      rintro e w9 ⟨A2, c2, rfl, _, hb9⟩
      have hln : (ws.length : Int) = n := by omega
      have HLN := Lib.hid hln
      have HLN2 := Lib.hid hl
      subst hl
      go_wp2_with fail
      have hb10 := bel_al (Below.refl w9.heap.size w9) (.cells #[.int .i64 b, .int .i64 0, .string ⟨#[]⟩] 81)
      have hI3 := errorsIs_any (chain ws b 0 ⟨#[]⟩) (.iface T x') w9 _ (((((X4.out.keep hb5).keep hb6).keep hb7).keep hb8).keep hb9) hb10 w9.heap.size (Nat.le_refl _) b 0 ⟨#[]⟩ (Blk.new _ _ _)
      rw [chain_isA, HBE.out] at hI3
      refine hI3.mono ?_
      rintro e w11 ⟨rfl, hb11⟩
      go_wp2_with fail
      go_ret
      exact ⟨rfl, ((((((B4.out.andThen hb5).andThen hb6).andThen hb7).andThen hb8).andThen hb9).andThen hb10).andThen hb11⟩
    · have hbe : ((b : Int) == a) = false := by simpa using hab
      have hbe2 : ((a : Int) == b) = false := by simpa using fun h => hab h.symm
      have HBE := Lib.hid hbe
      have HBE2 := Lib.hid hbe2
      rw [HBE.out] at HI1
      clear hab
      go_wp2_with fail
      refine HI1.out.mono ?_
      rintro e w5 ⟨rfl, hb5⟩
      go_wp2_with fail
      have hI2 := faultIs_any (chain ws b 0 ⟨#[]⟩) (.iface U y') w5 (Y4.out.keep hb5) a
      rw [chain_isA, HBE2.out] at hI2
      refine hI2.mono ?_
      rintro e w6 ⟨rfl, hb6⟩
      go_wp2_with fail
      have hC1 := Code_any _ v1 w6 ((O4.out.keep hb5).keep hb6) ((G4.out.keep hb5).keep hb6)
      rw [chain_code] at hC1
      refine hC1.mono ?_
      rintro e w7 ⟨rfl, hb7⟩
      go_wp2_with fail
      have hC2 := Code_any _ v2 w7 (((T4.out.keep hb5).keep hb6).keep hb7) (((G4.out.keep hb5).keep hb6).keep hb7)
      rw [chain_code] at hC2
      refine hC2.mono ?_
      rintro e w8 ⟨rfl, hb8⟩
      go_wp2_with fail
      have hW := Words_any _ v1 w8 ((((O4.out.keep hb5).keep hb6).keep hb7).keep hb8) (by rw [chain_size]; omega)
      rw [chain_words] at hW
      refine hW.mono ?_
      rintro e w9 ⟨A2, c2, rfl, _, hb9⟩
      subst hl
      go_wp2_with fail
      have hb10 := bel_al (Below.refl w9.heap.size w9) (.cells #[.int .i64 a, .int .i64 0, .string ⟨#[]⟩] 81)
      have hI3 := errorsIs_any (chain ws a 0 ⟨#[]⟩) (.iface T x') w9 _ (((((X4.out.keep hb5).keep hb6).keep hb7).keep hb8).keep hb9) hb10 w9.heap.size (Nat.le_refl _) a 0 ⟨#[]⟩ (Blk.new _ _ _)
      rw [chain_isA, show ((a : Int) == a) = true from by simp] at hI3
      refine hI3.mono ?_
      rintro e w11 ⟨rfl, hb11⟩
      go_wp2_with fail
      go_ret
      exact ⟨rfl, ((((((B4.out.andThen hb5).andThen hb6).andThen hb7).andThen hb8).andThen hb9).andThen hb10).andThen hb11⟩
  · go_wp2_with fail
    go_ret
    exact ⟨rfl, HB1.out⟩

theorem FaultApart_main (a0 a1 : Int) (A2 : Option Addr) (n2 c2 : Nat) (l2 : List ByteArray) (w : World) (hg : ErrT w) (_ : (Lit.int .i64 a0).wf = true) (_ : (Lit.int .i64 a1).wf = true)
    (m2 : n2 ≤ maxLen) (e2 : l2.length = n2) (s2 : Sl w 1 A2 n2 (l2.map Value.string)) (_ : ∀ z ∈ l2, z.size ≤ maxLen) :
    Calls Tryd.prog 10 #[.int .i64 a0, .int .i64 a1, .slice A2 n2 c2] w fun e w' => e = .returned (.bool true) ∧ Below w.heap.size w w' :=
  FaultApart_walk a0 a1 A2 n2 c2 l2 w hg (by simp only [maxLen] at m2; omega) e2 s2
end Go.Proofs.YtkhhjompondnnaaDoor
