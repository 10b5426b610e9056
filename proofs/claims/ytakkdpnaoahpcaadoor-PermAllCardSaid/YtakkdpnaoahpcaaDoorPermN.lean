/-
  Contracts: slices.Index at []int, perm.Rank.
-/
import Derived.Test.YtakkdpnaoahpcaaDoorPermD
namespace Go.Proofs.YtakkdpnaoahpcaaDoor
open Go.RowKit Go.Shelf
set_option maxRecDepth 100000
set_option linter.unusedVariables false

theorem Index_at (b c i : Nat) (x : Int) (zs : List Int) (w : World) (h : Lft w b c zs) (hi : zs[i]? = some x) (hn : zs.Nodup) (hz : zs.length ≤ 8) :
    Calls Tryd.prog 22 #[.slice (some ⟨b, 0, none⟩) zs.length c, .int .i64 x] w fun e w' => e = .returned (.int .i64 (i : Int)) ∧ w' = w := by
  have HH := Lib.hid h
  have HI := Lib.hid hi
  have HN := Lib.hid hn
  have hil : i < zs.length := (List.getElem?_eq_some_iff.1 hi).1
  obtain ⟨n, hnn⟩ : ∃ n, n = zs.length := ⟨_, rfl⟩
  have HNN := Lib.hid hnn
  rw [← hnn] at hil hz ⊢
  clear h hi hn hnn
  go_enter Tryd.func22, Tryd.ntmps22
  go_wp2_with fail
  go_loopw [8] (fun iv wr => ∃ k : Nat, k ≤ i ∧ iv = .int .i64 (k : Int) ∧ wr = w) (fun iv _ => i + 1 - (intOf iv).toNat)
  case atStart => exact ⟨0, Nat.zero_le _, rfl, rfl⟩
  case round =>
    obtain ⟨k, hk, rfl, rfl⟩ := hrel
    have hkn : (k : Int) < (n : Int) := by omega
    have hkz : k < zs.length := by rw [← HNN.out]; omega
    have hc := (HH.out.2.2 k hkz).1
    by_cases hki : k = i
    · subst hki
      rw [List.getD_eq_getElem?_getD, HI.out] at hc
      replace hc : wr.cell? ⟨b, k, none⟩ = some (.int .i64 x) := hc
      have he : (x == x) = true := by simp
      go_wp2_with fail
      go_ret
      exact ⟨rfl, rfl⟩
    · have hne : zs.getD k 0 ≠ x := fun e => hki ((List.getElem?_inj hkz HN.out).1 (by rw [HI.out, ← e, List.getD_eq_getElem?_getD, List.getElem?_eq_getElem hkz]; rfl))
      generalize zs.getD k 0 = y at *
      have he : (x == y) = false := by simp; exact fun e => hne e.symm
      clear hne
      go_wp2_with fail
      go_roundw
      case rel => exact ⟨k + 1, by omega, rfl, trivial⟩
      case measure => simp [intOf]; omega

set_option maxHeartbeats 4000000 in
theorem Rank_ok (m r : Nat) (A : Option Addr) (c : Nat) (w : World) (hm : m ≤ 8) (hr : r < fac m) (hs : Sl w 1 A m ((ofR m r (ids m)).map (Value.int .i64))) :
    Calls Tryd.prog 11 #[.slice A m c] w fun e w' => e = .returned (.tuple #[.int .i64 (r : Int), .nilIface]) ∧ Below w.heap.size w w' := by
  have HO := Lib.hid (ofR_ord hm hr)
  have HLn := Lib.hid (ofR_len hr)
  obtain ⟨p, hp⟩ : ∃ p, p = ofR m r (ids m) := ⟨_, rfl⟩
  rw [← hp] at hs HO HLn
  have HP := Lib.hid hp
  have HS := Lib.hid hs
  have HR := Lib.hid hr
  have HRt := Lib.hid (Right_any p A m c w HLn.out HS.out)
  rw [decide_eq_true HO.out] at HRt
  have hr9 : r < 40320 := Nat.lt_of_lt_of_le hr (fac_le hm)
  clear hp hs hr
  go_enter Tryd.func11, Tryd.ntmps11
  go_wp2_with fail
  refine HRt.out.mono ?_
  rintro e w1 ⟨rfl, rfl⟩
  clear HRt
  go_wp2_with fail
  refine (Id_any m w hm).mono ?_
  rintro e w2 ⟨v, rfl, hown, hb2⟩
  have hleft : 0 < m → ∃ b c, v = .slice (some ⟨b, 0, none⟩) m c ∧ Lft w2 b c (ids m) ∧ w.heap.size ≤ b := by
    intro hj
    rcases hown.2 with ⟨_, h0⟩ | ⟨g, cap, cur, hv, hg, _⟩
    · omega
    · rw [hv] at hown
      exact ⟨g, cap, hv, Lft.of_own hown, hg⟩
  have HB2 := Lib.hid hb2
  have HL := Lib.hid hleft
  clear hown hleft hb2
  go_wp2_with fail
  go_loopw [4, 5, 18] (fun rv lv iv wr => ∃ (k j R rr : Nat) (lf : List Int), k + j = m ∧ lf.length = j ∧ lf.Nodup ∧ rr < fac j ∧ R + rr = r ∧ Hid (ofR j rr lf = p.drop k) ∧ rv = .int .i64 (R : Int) ∧ iv = .int .i64 (k : Int) ∧ (0 < j → ∃ b c, lv = .slice (some ⟨b, 0, none⟩) j c ∧ Lft wr b c lf ∧ w.heap.size ≤ b) ∧ Below w.heap.size w wr) (fun _ _ iv _ => m - (intOf iv).toNat)
  case atStart => exact ⟨0, m, 0, r, ids m, by omega, ids_len m, ids_nodup m, HR.out, by omega, HP.out.symm, rfl, rfl, HL.out, HB2.out⟩
  case round =>
    obtain ⟨k, j, R, rr, lf, hkj, hlf, hnd, hrr, hR, HE, rfl, rfl, hlv, hb⟩ := hrel
    rcases j with _ | j
    · obtain rfl : k = m := by omega
      have hrr0 : rr = 0 := by have : fac 0 = 1 := rfl; omega
      have HRr := Lib.hid (show R = r by omega)
      have hkk : ¬ (k : Int) < (k : Int) := by omega
      clear hlv hrr hrr0 hR
      go_wp2_with fail
      go_ret2
      exact ⟨by rw [HRr.out]; rfl, hb⟩
    · obtain ⟨b, c', rfl, hL, hbb⟩ := hlv (by omega)
      have hF := fac_pos j
      have hat : rr / fac j < lf.length := by rw [hlf]; exact Nat.div_lt_of_lt_mul (by rw [Nat.mul_comm]; exact hrr)
      have hOf : ofR (j + 1) rr lf = lf.getD (rr / fac j) 0 :: ofR j (rr % fac j) (lf.eraseIdx (rr / fac j)) := rfl
      have hM := Nat.mod_lt rr hF
      have hDM := Nat.div_add_mod rr (fac j)
      have HT := Lib.hid (fun W => times_any j W (by omega))
      have hkp : k < p.length := by rw [HLn.out]; omega
      have hE := HE.out
      rw [hOf, List.drop_eq_getElem_cons hkp] at hE
      obtain ⟨hx, hE2⟩ := List.cons.inj hE
      generalize hFj : fac j = F at *
      have HFj := Lib.hid hFj
      clear hFj
      obtain ⟨at_, hat_⟩ : ∃ a, a = rr / F := ⟨_, rfl⟩
      obtain ⟨rm, hrm⟩ : ∃ a, a = rr % F := ⟨_, rfl⟩
      rw [← hat_] at hat hx hE2 hDM
      rw [← hrm] at hM hE2 hDM
      obtain ⟨x, hxx⟩ : ∃ x, x = lf.getD at_ 0 := ⟨_, rfl⟩
      rw [← hxx] at hx
      have hi2 : lf[at_]? = some x := by rw [hxx, List.getD_eq_getElem?_getD, List.getElem?_eq_getElem hat]; rfl
      obtain ⟨bb, off, u, rfl, hu, hc⟩ := (HS.out.keep hb).one (k := k) (by omega)
      rw [List.getElem?_map, List.getElem?_eq_getElem hkp, ← hx] at hu
      obtain rfl : Value.int .i64 x = u := Option.some.inj hu
      clear hu
      have hel : (lf.eraseIdx at_).length = j := by rw [List.length_eraseIdx, if_pos hat, hlf]; rfl
      have HIx := Lib.hid (by have h := Index_at b c' at_ x lf wr hL hi2 hnd (by omega); rw [hlf] at h; exact h)
      have HLd := Lib.hid (by have h := Delete_at b c' at_ lf wr hL hat; rw [hlf, hel] at h; exact h)
      have HE2 := Lib.hid hE2
      have HNd := Lib.hid (hnd.sublist (List.eraseIdx_sublist lf at_))
      have HM := Lib.hid hM
      have HEl := Lib.hid hel
      obtain ⟨t, ht⟩ : ∃ t, t = F * at_ := ⟨_, rfl⟩
      have hti : (at_ : Int) * (F : Int) = (t : Int) := by rw [ht, Int.natCast_mul, Int.mul_comm]
      have HSum := Lib.hid (show R + t + rm = r by omega)
      have hRt : R + t < 40320 := by omega
      have hj1 : (m : Int) - 1 - (k : Int) = (j : Int) := by omega
      have hkm : (k : Int) < (m : Int) := by omega
      have hk0 : (0 : Int) ≤ (k : Int) := by omega
      have hat9 : at_ < 9 := by omega
      clear hxx hi2 hat_ hrm ht hE hE2 hx hDM hrr hR hM hel hnd hL hlv HE
      go_wp2_with fail
      refine HIx.out.mono ?_
      rintro e w3 ⟨rfl, rfl⟩
      clear HIx
      go_wp2_with fail
      refine (HT.out _).mono ?_
      rintro e w4 ⟨rfl, rfl⟩
      go_wp2_with fail
      refine HLd.out.mono ?_
      rintro e w5 ⟨rfl, q, vs, rfl, hL5⟩
      have HL5 := Lib.hid hL5
      clear hL5 HLd
      go_wp2_with fail
      go_roundw
      case rel =>
        refine ⟨k + 1, j, R + t, rm, lf.eraseIdx at_, by omega, HEl.out, HNd.out, by rw [HFj.out]; exact HM.out, HSum.out, HE2.out, rfl, rfl, fun _ => ⟨b, c', rfl, HL5.out, hbb⟩, ?_⟩
        exact bel_setCells hbb vs 0 (bel_drewN hb q)
      case measure => simp [intOf]; omega
end Go.Proofs.YtakkdpnaoahpcaaDoor
