/-
  The walk of PermLists.
-/
import Derived.Test.YtkhhjompondnnaaDoorPermD
import Derived.Test.YtkhhjompondnnaaDoorLaw07
namespace Go.Proofs.YtkhhjompondnnaaDoor
open Go.RowKit Go.Extern.Stop Go.Stop Go.Extern
set_option maxRecDepth 100000

set_option maxHeartbeats 4000000 in
theorem PermLists_walk (a0 a1 : Nat) (h0 : a0 ≤ 255) (h1 : a1 ≤ 65535) (l : List Int) (A : Option Addr) (n cp : Nat) (a3 : Nat) (h3 : a3 ≤ 255) (w : World) (hg : ErrT w) (hn : n ≤ 9223372036854775807) (hl : l.length = n) (hs : Sl w 1 A n (l.map (Value.int .i64))) :
    Calls Tryd.prog 7 #[.int .u8 a0, .int .u16 a1, .slice A n cp, .int .u8 a3] w fun e w' => e = .returned (.bool true) ∧ Below w.heap.size w w' := by
  go_enter Tryd.func7, Tryd.ntmps7
  go_wp2_with fail
  refine (alive07 w hg).mono ?_
  rintro e w1 ⟨rfl, hb1⟩
  have HB1 := Lib.hid hb1
  have HG1 := Lib.hid (hg.keep hb1)
  have HS := Lib.hid (hs.keep hb1)
  clear hs hg hb1
  obtain ⟨k, hk, hkn⟩ : ∃ k : Nat, k ≤ 8 ∧ a0 % 9 = k := ⟨_, by omega, rfl⟩
  have hnk : ((a0 : Int) % 9) = (k : Int) := by omega
  go_wp2_with fail
  go_loop [10, 11] (fun f i => ∃ j : Nat, j ≤ max k 1 ∧ 1 ≤ j ∧ i = .int .i64 (j + 1) ∧ f = .int .i64 (fac j)) (fun _ i => k + 1 - (intOf i).toNat)
  case atStart => exact ⟨1, by omega, by omega, rfl, rfl⟩
  case round =>
    obtain ⟨j, hj, hj1, rfl, rfl⟩ := hrel
    by_cases hlt : j + 1 ≤ k
    · have hf := fac_le (n := j) (by omega)
      have hf2 := fac_le (n := j + 1) (by omega)
      have hm : ((fac j : Nat) : Int) * ((j : Int) + 1) = (fac (j + 1) : Nat) := by rw [fac]; push_cast; rw [Int.mul_comm]
      have hw : IntKind.i64.wrap (((fac j : Nat) : Int) * ((j : Int) + 1)) = (fac (j + 1) : Nat) := by
        rw [hm]
        generalize fac (j + 1) = q at *
        exact IntWalk.i64_in _ (by omega)
      clear hm
      generalize hq : fac (j + 1) = q at hw hf2
      go_wp2
      go_round
      case rel => exact ⟨j + 1, by omega, by omega, by go_num, by rw [hq]⟩
      case measure => simp [intOf]; omega
    · have hz : fac j = fac k := by
        by_cases h1 : j = k
        · rw [h1]
        · obtain rfl : j = 1 := by omega
          obtain rfl : k = 0 := by omega
          rfl
      have hF := fac_pos k
      have hF2 := fac_le hk
      rw [hz]
      have HO := Lib.hid (fun W => Of_ok k (a1 % fac k) W hk (Nat.mod_lt _ hF))
      have HOrd := Lib.hid (ofR_ord (n := k) (r := a1 % fac k) hk (Nat.mod_lt _ hF))
      have HLen := Lib.hid (ofR_len (n := k) (r := a1 % fac k) (Nat.mod_lt _ hF))
      clear hz
      generalize ofR k (a1 % fac k) (ids k) = p at *
      generalize fac k = F at *
      have hm' : ((a1 : Int) % (F : Int)) = ((a1 % F : Nat) : Int) := rfl
      generalize a1 % F = r at *
      go_wp2_with fail
      refine (HO.out w1).mono ?_
      rintro e w2 ⟨C, c2, rfl, hs2, hb2⟩
      clear HO
      have HS2 := Lib.hid hs2
      have HB2 := Lib.hid hb2
      clear hs2 hb2
      go_wp2_with fail
      refine (Back_ok p C k c2 w2 HOrd.out HLen.out HS2.out).mono ?_
      rintro e w3 ⟨D, c3, rfl, hs3, hb3⟩
      have HS3 := Lib.hid hs3
      have HB3 := Lib.hid (HB2.out.andThen hb3)
      have HP3 := Lib.hid (HS2.out.keep hb3)
      clear hs3 hb3 HB2 HS2
      by_cases hlong : n ≤ 30
      · go_wp2_with fail
        obtain ⟨m, hm, hmn⟩ : ∃ m : Nat, m ≤ 19 ∧ a3 % 20 = m := ⟨_, by omega, rfl⟩
        have hnm : ((a3 : Int) % 20) = (m : Int) := by omega
        go_loopw [16, 17] (fun v i wr => ∃ j : Nat, j ≤ 9 + m ∧ i = .int .i64 j ∧ wr.ownsRow w3.heap.size 3 1 v j ((ids j).map (Value.int .i64)) ∧ Below w3.heap.size w3 wr) (fun _ i _ => 9 + m - (intOf i).toNat)
        case atStart => exact ⟨0, Nat.zero_le _, rfl, World.ownsRow_nil _ _ _ _, Below.refl _ _⟩
        case round =>
          obtain ⟨i, hi, rfl, hown, hb⟩ := hrel
          by_cases hlt : i < 9 + m
          · go_wp2_with (at_builtin; refine wpList_push elemInt _ _ rfl rfl hown hb (Nat.le_refl _) rfl rfl rfl (by simp [Value.oneCell']) (by unfold lim; omega) (by unfold lim; omega) ?_; intro v' w5 hown1 hb5)
            go_roundw
            case rel => exact ⟨i + 1, by omega, by go_num, by rw [ids_succ, List.map_append]; exact hown1, hb5⟩
            case measure => simp [intOf]; omega
          · obtain rfl : i = 9 + m := by omega
            obtain ⟨E9, c9, rfl, hs9⟩ := Sl.own hown
            have HR := Lib.hid (Right_any (ids (9 + m)) E9 (9 + m) c9 wr (ids_len _) hs9)
            rw [decide_eq_false (fun h : Ord (ids (9 + m)) => by have := h.1; rw [ids_len] at this; omega)] at HR
            have HB := Lib.hid (HB3.out.andThen hb)
            have HP := Lib.hid (HP3.out.keep hb)
            have HBk := Lib.hid (HS3.out.keep hb)
            have HSl := Lib.hid (HS.out.keep HB.out)
            have HG := Lib.hid (HG1.out.keep HB.out)
            clear hown hs9 hb HP3 HS3 HB3
            go_wp2_with fail
            refine HR.out.mono ?_
            rintro e w5 ⟨rfl, rfl⟩
            clear HR
            go_wp2_with fail
            refine (Id_big _ wr (by omega)).mono ?_
            rintro e w5 ⟨rfl, rfl⟩
            by_cases hnk2 : n = k
            · subst hnk2
              go_wp2_with fail
              refine (Put_ok p l C A n c2 cp wr HOrd.out HLen.out hl HP.out HSl.out).mono ?_
              rintro e w5 ⟨G, c5, rfl, hs5, hb5⟩
              have HS5 := Lib.hid hs5
              have HB5 := Lib.hid hb5
              clear hs5 hb5
              go_wp2_with fail
              refine (Put_ok (backL p) (putL p l) D G n c3 c5 w5 (backL_ord HOrd.out) ((backL_len HOrd.out).trans HLen.out) ((putL_len HOrd.out (HLen.out.trans hl.symm)).trans HLen.out) (HBk.out.keep HB5.out) HS5.out).mono ?_
              rintro e w6 ⟨J, c6, rfl, hs6, hb6⟩
              rw [put_back HOrd.out (HLen.out.trans hl.symm)] at hs6
              have HS6 := Lib.hid hs6
              have HB6 := Lib.hid hb6
              clear hs6 hb6
              go_wp2_with fail
              refine (SameInts_same l J A n c6 cp w6 hl HS6.out ((HSl.out.keep HB5.out).keep HB6.out) hn).mono ?_
              rintro e w7 ⟨rfl, hb7⟩
              go_wp2_with fail
              go_ret
              exact ⟨rfl, HB1.out.andThen (HB.out.andThen (HB5.out.andThen (HB6.out.andThen hb7)))⟩
            · have hbn : ((n : Int) == (k : Int)) = false := by simp; omega
              go_wp2_with fail
              refine (Put_bad p l C A k n c2 cp wr (fun h => hnk2 (by rw [← hl, ← HLen.out, h.2])) HLen.out hl HP.out).mono ?_
              rintro e w5 ⟨ev, rfl, hev, hb5⟩
              rw [putE, if_pos HOrd.out, if_neg (fun h => hnk2 (by rw [← hl, ← HLen.out, h]))] at hev
              have HE := Lib.hid hev
              have HB5 := Lib.hid hb5
              clear hev hb5
              go_wp2_with fail
              refine (Code_any _ _ w5 HE.out (HG.out.keep HB5.out)).mono ?_
              rintro e w6 ⟨rfl, hb6⟩
              have HB6 := Lib.hid hb6
              clear hb6
              go_wp2_with fail
              refine (At_any _ _ w6 (HE.out.keep HB6.out) ((HG.out.keep HB5.out).keep HB6.out)).mono ?_
              rintro e w7 ⟨rfl, hb7⟩
              go_wp2_with fail
              go_ret
              exact ⟨rfl, HB1.out.andThen (HB.out.andThen (HB5.out.andThen (HB6.out.andThen hb7)))⟩
      · go_wp2_with fail
        go_ret
        exact ⟨rfl, HB1.out.andThen HB3.out⟩

theorem PermLists_main (a0 a1 : Int) (A2 : Option Addr) (n2 c2 : Nat) (l2 : List Int) (a3 : Int) (w : World) (hg : ErrT w) (h0 : (Lit.int .u8 a0).wf = true) (h1 : (Lit.int .u16 a1).wf = true)
    (m2 : n2 ≤ maxLen) (e2 : l2.length = n2) (s2 : Sl w 1 A2 n2 (l2.map (Value.int .i64))) (_ : ∀ z ∈ l2, (Lit.int .i64 z).wf = true) (h3 : (Lit.int .u8 a3).wf = true) :
    Calls Tryd.prog 7 #[.int .u8 a0, .int .u16 a1, .slice A2 n2 c2, .int .u8 a3] w fun e w' => e = .returned (.bool true) ∧ Below w.heap.size w w' := by
  have h := wf_u8 h0
  obtain ⟨a0, rfl⟩ := Int.eq_ofNat_of_zero_le h.1
  have h' := wf_u16 h1
  obtain ⟨a1, rfl⟩ := Int.eq_ofNat_of_zero_le h'.1
  have h'' := wf_u8 h3
  obtain ⟨a3, rfl⟩ := Int.eq_ofNat_of_zero_le h''.1
  exact PermLists_walk a0 a1 (by omega) (by omega) l2 A2 n2 c2 a3 (by omega) w hg (by simp only [maxLen] at m2; omega) e2 s2
end Go.Proofs.YtkhhjompondnnaaDoor
