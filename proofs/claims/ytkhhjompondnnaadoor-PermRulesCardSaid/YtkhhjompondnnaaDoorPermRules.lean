/-
  The walk of PermRules.
-/
import Derived.Test.YtkhhjompondnnaaDoorPermD
import Derived.Test.YtkhhjompondnnaaDoorPermK
import Derived.Test.YtkhhjompondnnaaDoorSetsRef
import Derived.Test.YtkhhjompondnnaaDoorLaw07
namespace Go.Proofs.YtkhhjompondnnaaDoor
open Go.RowKit Go.Extern.Stop Go.Stop Go.Extern
set_option maxRecDepth 100000

theorem thenL_len {p q : List Int} (hp : Ord p) (hq : Ord q) (hl : p.length = q.length) : (thenL p q).length = p.length := by rw [then_get hp hq hl, List.length_map]
theorem then_at {p q : List Int} (hp : Ord p) (hq : Ord q) (hl : p.length = q.length) {i j : Nat} {x : Int} (h1 : p[i]? = some (j : Int)) (h2 : q[j]? = some x) : (thenL p q)[i]? = some x := by
  rw [then_get hp hq hl, List.getElem?_map, h1, Option.map_some, Int.toNat_natCast, List.getD_eq_getElem?_getD, h2]; rfl
theorem then_assoc {p q r : List Int} (hp : Ord p) (hq : Ord q) (hr : Ord r) (h1 : p.length = q.length) (h2 : q.length = r.length) : thenL (thenL p q) r = thenL p (thenL q r) := by
  have hpq := then_ord hp hq h1
  have hqr := then_ord hq hr h2
  have l1 := thenL_len hp hq h1
  have l2 := thenL_len hq hr h2
  have e1 := thenL_len hpq hr (by omega)
  have e2 := thenL_len hp hqr (by omega)
  apply List.ext_getElem?
  intro i
  by_cases hi : i < p.length
  · obtain ⟨j, hj, a1⟩ := hp.get hi
    obtain ⟨m, hm, a2⟩ := hq.get (show j < q.length by omega)
    obtain ⟨t, ht, a3⟩ := hr.get (show m < r.length by omega)
    rw [then_at hpq hr (by omega) (then_at hp hq h1 a1 a2) a3, then_at hp hqr (by omega) a1 (then_at hq hr h2 a2 a3)]
  · rw [List.getElem?_eq_none (by omega), List.getElem?_eq_none (by omega)]
theorem then_back {p : List Int} (hp : Ord p) : thenL p (backL p) = ids p.length := by
  have hb := backL_ord hp
  have lb := backL_len hp
  have e1 := thenL_len hp hb (by omega)
  apply List.ext_getElem?
  intro i
  by_cases hi : i < p.length
  · obtain ⟨j, hj, a1⟩ := hp.get hi
    have a2 := backL_at hp a1
    rw [Int.toNat_natCast] at a2
    rw [then_at hp hb (by omega) a1 a2, ids_get _ _ hi]
  · rw [List.getElem?_eq_none (by omega), List.getElem?_eq_none (by rw [ids_len]; omega)]
theorem even_eq {p q : List Int} (hp : Ord p) (hq : Ord q) (hl : p.length = q.length) : decide (inv (thenL p q) % 2 = 0) = (decide (inv p % 2 = 0) == decide (inv q % 2 = 0)) := by
  have h := then_inv hp hq hl
  by_cases h1 : inv p % 2 = 0
  · by_cases h2 : inv q % 2 = 0
    · have : inv (thenL p q) % 2 = 0 := by omega
      simp [h1, h2, this]
    · have : ¬ inv (thenL p q) % 2 = 0 := by omega
      simp [h1, h2]; omega
  · by_cases h2 : inv q % 2 = 0
    · have : ¬ inv (thenL p q) % 2 = 0 := by omega
      simp [h1, h2]; omega
    · have : inv (thenL p q) % 2 = 0 := by omega
      simp [h1, h2, this]
theorem put_two {p q l : List Int} (hp : Ord p) (hq : Ord q) (hl : p.length = q.length) (hm : p.length = l.length) : putL q (putL p l) = putL (thenL p q) l := by
  have l1 := putL_len hp hm
  have hpq := then_ord hp hq hl
  have l2 := thenL_len hp hq hl
  have e1 := putL_len hq (show q.length = (putL p l).length by omega)
  have e2 := putL_len hpq (show (thenL p q).length = l.length by omega)
  apply List.ext_getElem?
  intro i
  by_cases hi : i < p.length
  · obtain ⟨k, hk, a0⟩ := hpq.at_ (show i < (thenL p q).length by omega)
    obtain ⟨j, hj, a1⟩ := hp.get (show k < p.length by omega)
    obtain ⟨m, hm2, a2⟩ := hq.get (show j < q.length by omega)
    have a3 := then_at hp hq hl a1 a2
    rw [a0] at a3
    have hmi : i = m := by have : (i : Int) = m := by simpa using a3
                           omega
    subst hmi
    have hkl : k < l.length := by omega
    have b1 := putL_at hp hm a1 (List.getElem?_eq_getElem hkl)
    rw [Int.toNat_natCast] at b1
    have b2 := putL_at hq (show q.length = (putL p l).length by omega) a2 b1
    have b3 := putL_at hpq (show (thenL p q).length = l.length by omega) a0 (List.getElem?_eq_getElem hkl)
    rw [Int.toNat_natCast] at b2 b3
    rw [b2, b3]
  · rw [List.getElem?_eq_none (by omega), List.getElem?_eq_none (by omega)]
theorem put_mem {p l : List Int} (hp : Ord p) (hm : p.length = l.length) (y : Int) : y ∈ putL p l ↔ y ∈ l := by
  have l1 := putL_len hp hm
  constructor
  · intro h
    obtain ⟨i, hi, e⟩ := List.getElem_of_mem h
    obtain ⟨k, hk, a0⟩ := hp.at_ (show i < p.length by omega)
    have hkl : k < l.length := by omega
    have b1 := putL_at hp hm a0 (List.getElem?_eq_getElem hkl)
    rw [Int.toNat_natCast, List.getElem?_eq_getElem hi, e] at b1
    have : y = l[k] := by simpa using b1
    rw [this]; exact List.getElem_mem hkl
  · intro h
    obtain ⟨k, hk, e⟩ := List.getElem_of_mem h
    obtain ⟨j, hj, a1⟩ := hp.get (show k < p.length by omega)
    have b1 := putL_at hp hm a1 (List.getElem?_eq_getElem hk)
    rw [e] at b1
    exact List.mem_of_getElem? b1

set_option maxHeartbeats 8000000 in
theorem PermRules_walk (a0 a1 a2 a3 : Nat) (h0 : a0 ≤ 255) (h1 : a1 ≤ 65535) (h2 : a2 ≤ 65535) (h3 : a3 ≤ 65535) (l : List Int) (A : Option Addr) (n cp : Nat) (w : World) (hg : ErrT w) (hn : n ≤ 9223372036854775807) (hl : l.length = n) (hs : Sl w 1 A n (l.map (Value.int .i64))) :
    Calls Tryd.prog 12 #[.int .u8 a0, .int .u16 a1, .int .u16 a2, .int .u16 a3, .slice A n cp] w fun e w' => e = .returned (.bool true) ∧ Below w.heap.size w w' := by
  go_enter Tryd.func12, Tryd.ntmps12
  go_wp2_with fail
  refine (alive07 w hg).mono ?_
  rintro e w1 ⟨rfl, hb1⟩
  have HB := Lib.hid hb1
  have HS := Lib.hid (hs.keep hb1)
  clear hs hg hb1
  obtain ⟨k, hk, hkn⟩ : ∃ k : Nat, k ≤ 8 ∧ a0 % 9 = k := ⟨_, by omega, rfl⟩
  have hnk : ((a0 : Int) % 9) = (k : Int) := by omega
  go_wp2_with fail
  go_loop [12, 13] (fun f i => ∃ j : Nat, j ≤ max k 1 ∧ 1 ≤ j ∧ i = .int .i64 (j + 1) ∧ f = .int .i64 (fac j)) (fun _ i => k + 1 - (intOf i).toNat)
  case atStart => exact ⟨1, by omega, by omega, rfl, rfl⟩
  case round =>
    obtain ⟨j, hj, hj1, rfl, rfl⟩ := hrel
    by_cases hlt : j + 1 ≤ k
    · have hf := fac_le (n := j) (by omega)
      have hf2 := fac_le (n := j + 1) (by omega)
      have hm : ((fac j : Nat) : Int) * ((j : Int) + 1) = (fac (j + 1) : Nat) := by rw [fac]; push_cast; rw [Int.mul_comm]
      have hw : IntKind.i64.wrap (((fac j : Nat) : Int) * ((j : Int) + 1)) = (fac (j + 1) : Nat) := by
        rw [hm]
        generalize fac (j + 1) = q at *
        exact IntWalk.i64_in _ (by omega)
      clear hm
      generalize hq : fac (j + 1) = q at hw hf2
      go_wp2
      go_round
      case rel => exact ⟨j + 1, by omega, by omega, by go_num, by rw [hq]⟩
      case measure => simp [intOf]; omega
    · have hz : fac j = fac k := by
        by_cases h1 : j = k
        · rw [h1]
        · obtain rfl : j = 1 := by omega
          obtain rfl : k = 0 := by omega
          rfl
      have hF := fac_pos k
      have hF2 := fac_le hk
      rw [hz]
      have Op := Lib.hid (fun W => Of_ok k (a1 % fac k) W hk (Nat.mod_lt _ hF))
      have hOp := ofR_ord (n := k) (r := a1 % fac k) hk (Nat.mod_lt _ hF)
      have hLp := ofR_len (n := k) (r := a1 % fac k) (Nat.mod_lt _ hF)
      have Oq := Lib.hid (fun W => Of_ok k (a2 % fac k) W hk (Nat.mod_lt _ hF))
      have hOq := ofR_ord (n := k) (r := a2 % fac k) hk (Nat.mod_lt _ hF)
      have hLq := ofR_len (n := k) (r := a2 % fac k) (Nat.mod_lt _ hF)
      have Or := Lib.hid (fun W => Of_ok k (a3 % fac k) W hk (Nat.mod_lt _ hF))
      have hOr := ofR_ord (n := k) (r := a3 % fac k) hk (Nat.mod_lt _ hF)
      have hLr := ofR_len (n := k) (r := a3 % fac k) (Nat.mod_lt _ hF)
      clear hz
      generalize ofR k (a1 % fac k) (ids k) = p at *
      generalize ofR k (a2 % fac k) (ids k) = q at *
      generalize ofR k (a3 % fac k) (ids k) = r at *
      generalize fac k = F at *
      have hmp : ((a1 : Int) % (F : Int)) = ((a1 % F : Nat) : Int) := rfl
      generalize a1 % F = rp at *
      have hmq : ((a2 : Int) % (F : Int)) = ((a2 % F : Nat) : Int) := rfl
      generalize a2 % F = rq at *
      have hmr : ((a3 : Int) % (F : Int)) = ((a3 % F : Nat) : Int) := rfl
      generalize a3 % F = rr at *
      have hpq := then_ord hOp hOq (hLp.trans hLq.symm)
      have lpq := (thenL_len hOp hOq (hLp.trans hLq.symm)).trans hLp
      have hqr := then_ord hOq hOr (hLq.trans hLr.symm)
      have lqr := (thenL_len hOq hOr (hLq.trans hLr.symm)).trans hLq
      have hbk := backL_ord hOp
      have lbk := (backL_len hOp).trans hLp
      have eAs := then_assoc hOp hOq hOr (hLp.trans hLq.symm) (hLq.trans hLr.symm)
      have lleft := (thenL_len hpq hOr (lpq.trans hLr.symm)).trans lpq
      have eBk := then_back hOp
      rw [hLp] at eBk
      have eEv := even_eq hOp hOq (hLp.trans hLq.symm)
      replace hOp := Lib.hid hOp
      replace hOq := Lib.hid hOq
      replace hOr := Lib.hid hOr
      replace hpq := Lib.hid hpq
      replace hqr := Lib.hid hqr
      replace hbk := Lib.hid hbk
      replace eAs := Lib.hid eAs
      replace eBk := Lib.hid eBk
      replace eEv := Lib.hid eEv
      go_wp2_with fail
      refine (Op.out w1).mono ?_
      rintro e w2 ⟨Cp, cp1, rfl, Sp, hb⟩
      replace HB := Lib.hid (HB.out.andThen hb)
      replace HS := Lib.hid (HS.out.keep hb)
      replace Sp := Lib.hid Sp
      clear hb
      clear Op
      go_wp2_with fail
      refine (Oq.out w2).mono ?_
      rintro e w3 ⟨Cq, cq1, rfl, Sq, hb⟩
      replace HB := Lib.hid (HB.out.andThen hb)
      replace HS := Lib.hid (HS.out.keep hb)
      replace Sp := Lib.hid (Sp.out.keep hb)
      replace Sq := Lib.hid Sq
      clear hb
      clear Oq
      go_wp2_with fail
      refine (Or.out w3).mono ?_
      rintro e w4 ⟨Cr, cr1, rfl, Sr, hb⟩
      replace HB := Lib.hid (HB.out.andThen hb)
      replace HS := Lib.hid (HS.out.keep hb)
      replace Sp := Lib.hid (Sp.out.keep hb)
      replace Sq := Lib.hid (Sq.out.keep hb)
      replace Sr := Lib.hid Sr
      clear hb
      clear Or
      go_wp2_with fail
      refine (Then_ok p q Cp Cq k cp1 cq1 w4 hOp.out hOq.out hLp hLq Sp.out Sq.out).mono ?_
      rintro e w5 ⟨Cpq, cpq1, rfl, Spq, hb⟩
      replace HB := Lib.hid (HB.out.andThen hb)
      replace HS := Lib.hid (HS.out.keep hb)
      replace Sp := Lib.hid (Sp.out.keep hb)
      replace Sq := Lib.hid (Sq.out.keep hb)
      replace Sr := Lib.hid (Sr.out.keep hb)
      replace Spq := Lib.hid Spq
      clear hb
      go_wp2_with fail
      refine (Then_ok q r Cq Cr k cq1 cr1 w5 hOq.out hOr.out hLq hLr Sq.out Sr.out).mono ?_
      rintro e w6 ⟨Cqr, cqr1, rfl, Sqr, hb⟩
      replace HB := Lib.hid (HB.out.andThen hb)
      replace HS := Lib.hid (HS.out.keep hb)
      replace Sp := Lib.hid (Sp.out.keep hb)
      replace Sq := Lib.hid (Sq.out.keep hb)
      replace Sr := Lib.hid (Sr.out.keep hb)
      replace Spq := Lib.hid (Spq.out.keep hb)
      replace Sqr := Lib.hid Sqr
      clear hb
      go_wp2_with fail
      refine (Then_ok (thenL p q) r Cpq Cr k cpq1 cr1 w6 hpq.out hOr.out lpq hLr Spq.out Sr.out).mono ?_
      rintro e w7 ⟨Cl, cl1, rfl, Sl1, hb⟩
      replace HB := Lib.hid (HB.out.andThen hb)
      replace HS := Lib.hid (HS.out.keep hb)
      replace Sp := Lib.hid (Sp.out.keep hb)
      replace Sq := Lib.hid (Sq.out.keep hb)
      replace Sr := Lib.hid (Sr.out.keep hb)
      replace Spq := Lib.hid (Spq.out.keep hb)
      replace Sqr := Lib.hid (Sqr.out.keep hb)
      replace Sl1 := Lib.hid Sl1
      clear hb
      clear Sr
      go_wp2_with fail
      refine (Then_ok p (thenL q r) Cp Cqr k cp1 cqr1 w7 hOp.out hqr.out hLp lqr Sp.out Sqr.out).mono ?_
      rintro e w8 ⟨Cr2, cr2, rfl, Sr2, hb⟩
      replace HB := Lib.hid (HB.out.andThen hb)
      replace HS := Lib.hid (HS.out.keep hb)
      replace Sp := Lib.hid (Sp.out.keep hb)
      replace Sq := Lib.hid (Sq.out.keep hb)
      replace Spq := Lib.hid (Spq.out.keep hb)
      replace Sqr := Lib.hid (Sqr.out.keep hb)
      replace Sl1 := Lib.hid (Sl1.out.keep hb)
      replace Sr2 := Lib.hid Sr2
      clear hb
      clear Sqr
      go_wp2_with fail
      refine (Back_ok p Cp k cp1 w8 hOp.out hLp Sp.out).mono ?_
      rintro e w9 ⟨Cb, cb1, rfl, Sb, hb⟩
      replace HB := Lib.hid (HB.out.andThen hb)
      replace HS := Lib.hid (HS.out.keep hb)
      replace Sp := Lib.hid (Sp.out.keep hb)
      replace Sq := Lib.hid (Sq.out.keep hb)
      replace Spq := Lib.hid (Spq.out.keep hb)
      replace Sl1 := Lib.hid (Sl1.out.keep hb)
      replace Sr2 := Lib.hid (Sr2.out.keep hb)
      replace Sb := Lib.hid Sb
      clear hb
      go_wp2_with fail
      refine (Then_ok p (backL p) Cp Cb k cp1 cb1 w9 hOp.out hbk.out hLp lbk Sp.out Sb.out).mono ?_
      rintro e w10 ⟨Ci, ci1, rfl, Si, hb⟩
      replace HB := Lib.hid (HB.out.andThen hb)
      replace HS := Lib.hid (HS.out.keep hb)
      replace Sp := Lib.hid (Sp.out.keep hb)
      replace Sq := Lib.hid (Sq.out.keep hb)
      replace Spq := Lib.hid (Spq.out.keep hb)
      replace Sl1 := Lib.hid (Sl1.out.keep hb)
      replace Sr2 := Lib.hid (Sr2.out.keep hb)
      replace Sb := Lib.hid (Sb.out.keep hb)
      replace Si := Lib.hid Si
      clear hb
      clear Sb
      go_wp2_with fail
      refine (Even_ok p Cp k cp1 w10 hOp.out hLp Sp.out).mono ?_
      rintro e w11 ⟨rfl, hb⟩
      replace HB := Lib.hid (HB.out.andThen hb)
      replace HS := Lib.hid (HS.out.keep hb)
      replace Sp := Lib.hid (Sp.out.keep hb)
      replace Sq := Lib.hid (Sq.out.keep hb)
      replace Spq := Lib.hid (Spq.out.keep hb)
      replace Sl1 := Lib.hid (Sl1.out.keep hb)
      replace Sr2 := Lib.hid (Sr2.out.keep hb)
      replace Si := Lib.hid (Si.out.keep hb)
      clear hb
      go_wp2_with fail
      refine (Even_ok q Cq k cq1 w11 hOq.out hLq Sq.out).mono ?_
      rintro e w12 ⟨rfl, hb⟩
      replace HB := Lib.hid (HB.out.andThen hb)
      replace HS := Lib.hid (HS.out.keep hb)
      replace Sp := Lib.hid (Sp.out.keep hb)
      replace Sq := Lib.hid (Sq.out.keep hb)
      replace Spq := Lib.hid (Spq.out.keep hb)
      replace Sl1 := Lib.hid (Sl1.out.keep hb)
      replace Sr2 := Lib.hid (Sr2.out.keep hb)
      replace Si := Lib.hid (Si.out.keep hb)
      clear hb
      go_wp2_with fail
      refine (Even_ok (thenL p q) Cpq k cpq1 w12 hpq.out lpq Spq.out).mono ?_
      rintro e w13 ⟨rfl, hb⟩
      replace HB := Lib.hid (HB.out.andThen hb)
      replace HS := Lib.hid (HS.out.keep hb)
      replace Sp := Lib.hid (Sp.out.keep hb)
      replace Sq := Lib.hid (Sq.out.keep hb)
      replace Spq := Lib.hid (Spq.out.keep hb)
      replace Sl1 := Lib.hid (Sl1.out.keep hb)
      replace Sr2 := Lib.hid (Sr2.out.keep hb)
      replace Si := Lib.hid (Si.out.keep hb)
      clear hb
      rw [eEv.out]
      generalize decide (inv p % 2 = 0) = bp
      generalize decide (inv q % 2 = 0) = bq
      replace Sl1 := Lib.hid (show Sl w13 1 Cl k ((thenL p (thenL q r)).map (Value.int .i64)) by rw [← eAs.out]; exact Sl1.out)
      replace Si := Lib.hid (show Sl w13 1 Ci k ((ids k).map (Value.int .i64)) by rw [← eBk.out]; exact Si.out)
      go_wp2_with fail
      refine (SameInts_same (thenL p (thenL q r)) Cl Cr2 k cl1 cr2 w13 (by rw [← eAs.out]; exact lleft) Sl1.out Sr2.out (by omega)).mono ?_
      rintro e w14 ⟨rfl, hb⟩
      replace HB := Lib.hid (HB.out.andThen hb)
      replace HS := Lib.hid (HS.out.keep hb)
      replace Sp := Lib.hid (Sp.out.keep hb)
      replace Sq := Lib.hid (Sq.out.keep hb)
      replace Spq := Lib.hid (Spq.out.keep hb)
      replace Sl1 := Lib.hid (Sl1.out.keep hb)
      replace Sr2 := Lib.hid (Sr2.out.keep hb)
      replace Si := Lib.hid (Si.out.keep hb)
      clear hb
      clear Sl1 Sr2
      go_wp2_with fail
      refine (Id_any k w14 hk).mono ?_
      rintro e w15 ⟨vi, rfl, hown, hb⟩
      obtain ⟨Cj, cj1, rfl, Sj⟩ := Sl.own hown
      clear hown
      replace HB := Lib.hid (HB.out.andThen hb)
      replace HS := Lib.hid (HS.out.keep hb)
      replace Sp := Lib.hid (Sp.out.keep hb)
      replace Sq := Lib.hid (Sq.out.keep hb)
      replace Spq := Lib.hid (Spq.out.keep hb)
      replace Si := Lib.hid (Si.out.keep hb)
      replace Sj := Lib.hid Sj
      clear hb
      go_wp2_with fail
      refine (SameInts_same (ids k) Ci Cj k ci1 cj1 w15 (ids_len k) Si.out Sj.out (by omega)).mono ?_
      rintro e w16 ⟨rfl, hb⟩
      replace HB := Lib.hid (HB.out.andThen hb)
      replace HS := Lib.hid (HS.out.keep hb)
      replace Sp := Lib.hid (Sp.out.keep hb)
      replace Sq := Lib.hid (Sq.out.keep hb)
      replace Spq := Lib.hid (Spq.out.keep hb)
      replace Si := Lib.hid (Si.out.keep hb)
      replace Sj := Lib.hid (Sj.out.keep hb)
      clear hb
      clear Si Sj
      cases bp <;> cases bq
      all_goals
        go_wp2_with fail
        have hR := Right_any (thenL p q) Cpq k cpq1 w16 lpq Spq.out
        rw [decide_eq_true hpq.out] at hR
        refine hR.mono ?_
        rintro e w17 ⟨rfl, rfl⟩
        clear hR
        by_cases hnk2 : n = k
        · subst hnk2
          have hlp := hLp.trans hl.symm
          have e2 := put_two hOp.out hOq.out (hLp.trans hLq.symm) hlp
          have l1 := (putL_len hOp.out hlp).trans hLp
          have l2 := (putL_len hpq.out (lpq.trans hl.symm)).trans lpq
          have e3 := setL_same (put_mem hOp.out hlp)
          replace e2 := Lib.hid e2
          replace e3 := Lib.hid e3
          clear hlp
          go_wp2_with fail
          refine (Put_ok p l Cp A n cp1 cp w16 hOp.out hLp hl Sp.out HS.out).mono ?_
          rintro e w17 ⟨C1, k1, rfl, S1, hb⟩
          replace HB := Lib.hid (HB.out.andThen hb)
          replace HS := Lib.hid (HS.out.keep hb)
          replace Sp := Lib.hid (Sp.out.keep hb)
          replace Sq := Lib.hid (Sq.out.keep hb)
          replace Spq := Lib.hid (Spq.out.keep hb)
          replace S1 := Lib.hid S1
          clear hb
          go_wp2_with fail
          refine (Put_ok q (putL p l) Cq C1 n cq1 k1 w17 hOq.out hLq l1 Sq.out S1.out).mono ?_
          rintro e w18 ⟨C2, k2, rfl, S2, hb⟩
          replace HB := Lib.hid (HB.out.andThen hb)
          replace HS := Lib.hid (HS.out.keep hb)
          replace Sp := Lib.hid (Sp.out.keep hb)
          replace Sq := Lib.hid (Sq.out.keep hb)
          replace Spq := Lib.hid (Spq.out.keep hb)
          replace S1 := Lib.hid (S1.out.keep hb)
          replace S2 := Lib.hid S2
          clear hb
          go_wp2_with fail
          refine (Put_ok (thenL p q) l Cpq A n cpq1 cp w18 hpq.out lpq hl Spq.out HS.out).mono ?_
          rintro e w19 ⟨C3, k3, rfl, S3, hb⟩
          replace HB := Lib.hid (HB.out.andThen hb)
          replace HS := Lib.hid (HS.out.keep hb)
          replace Sp := Lib.hid (Sp.out.keep hb)
          replace Sq := Lib.hid (Sq.out.keep hb)
          replace Spq := Lib.hid (Spq.out.keep hb)
          replace S1 := Lib.hid (S1.out.keep hb)
          replace S2 := Lib.hid (S2.out.keep hb)
          replace S3 := Lib.hid S3
          clear hb
          replace S2 := Lib.hid (show Sl w19 1 C2 n ((putL (thenL p q) l).map (Value.int .i64)) by rw [← e2.out]; exact S2.out)
          go_wp2_with fail
          refine (SameInts_same (putL (thenL p q) l) C2 C3 n k2 k3 w19 l2 S2.out S3.out (by omega)).mono ?_
          rintro e w20 ⟨rfl, hb⟩
          replace HB := Lib.hid (HB.out.andThen hb)
          replace HS := Lib.hid (HS.out.keep hb)
          replace Sp := Lib.hid (Sp.out.keep hb)
          replace Sq := Lib.hid (Sq.out.keep hb)
          replace Spq := Lib.hid (Spq.out.keep hb)
          replace S1 := Lib.hid (S1.out.keep hb)
          replace S2 := Lib.hid (S2.out.keep hb)
          replace S3 := Lib.hid (S3.out.keep hb)
          clear hb
          go_wp2_with fail
          refine (SetOf_any (putL p l) C1 n k1 w20 (by omega) l1 S1.out).mono ?_
          rintro e w21 ⟨D1, m1, rfl, _, _, T1, hb⟩
          replace HB := Lib.hid (HB.out.andThen hb)
          replace HS := Lib.hid (HS.out.keep hb)
          replace Sp := Lib.hid (Sp.out.keep hb)
          replace Sq := Lib.hid (Sq.out.keep hb)
          replace Spq := Lib.hid (Spq.out.keep hb)
          replace S1 := Lib.hid (S1.out.keep hb)
          replace S2 := Lib.hid (S2.out.keep hb)
          replace S3 := Lib.hid (S3.out.keep hb)
          replace T1 := Lib.hid T1
          clear hb
          go_wp2_with fail
          refine (SetOf_any l A n cp w21 (by omega) hl HS.out).mono ?_
          rintro e w22 ⟨D2, m2, rfl, _, _, T2, hb⟩
          replace HB := Lib.hid (HB.out.andThen hb)
          replace HS := Lib.hid (HS.out.keep hb)
          replace Sp := Lib.hid (Sp.out.keep hb)
          replace Sq := Lib.hid (Sq.out.keep hb)
          replace Spq := Lib.hid (Spq.out.keep hb)
          replace S1 := Lib.hid (S1.out.keep hb)
          replace S2 := Lib.hid (S2.out.keep hb)
          replace S3 := Lib.hid (S3.out.keep hb)
          replace T1 := Lib.hid (T1.out.keep hb)
          replace T2 := Lib.hid T2
          clear hb
          rw [e3.out] at T1 ⊢
          have hle : (setL l).length ≤ 8 := by
            have := setL_len l []
            unfold setL
            simp at this
            omega
          go_wp2_with fail
          refine (SameInts_same (setL l) D1 D2 (setL l).length m1 m2 w22 rfl T1.out T2.out (by omega)).mono ?_
          rintro e w23 ⟨rfl, hb⟩
          replace HB := Lib.hid (HB.out.andThen hb)
          replace HS := Lib.hid (HS.out.keep hb)
          replace Sp := Lib.hid (Sp.out.keep hb)
          replace Sq := Lib.hid (Sq.out.keep hb)
          replace Spq := Lib.hid (Spq.out.keep hb)
          replace S1 := Lib.hid (S1.out.keep hb)
          replace S2 := Lib.hid (S2.out.keep hb)
          replace S3 := Lib.hid (S3.out.keep hb)
          replace T1 := Lib.hid (T1.out.keep hb)
          replace T2 := Lib.hid (T2.out.keep hb)
          clear hb
          go_wp2_with fail
          go_ret
          exact ⟨rfl, HB.out⟩
        · have hbn : ((n : Int) == (k : Int)) = false := by simp; omega
          go_wp2_with fail
          go_ret
          exact ⟨rfl, HB.out⟩

theorem PermRules_main (a0 a1 a2 a3 : Int) (A4 : Option Addr) (n4 c4 : Nat) (l4 : List Int) (w : World) (hg : ErrT w) (h0 : (Lit.int .u8 a0).wf = true) (h1 : (Lit.int .u16 a1).wf = true) (h2 : (Lit.int .u16 a2).wf = true) (h3 : (Lit.int .u16 a3).wf = true)
    (m4 : n4 ≤ maxLen) (e4 : l4.length = n4) (s4 : Sl w 1 A4 n4 (l4.map (Value.int .i64))) (_ : ∀ z ∈ l4, (Lit.int .i64 z).wf = true) :
    Calls Tryd.prog 12 #[.int .u8 a0, .int .u16 a1, .int .u16 a2, .int .u16 a3, .slice A4 n4 c4] w fun e w' => e = .returned (.bool true) ∧ Below w.heap.size w w' := by
  have h := wf_u8 h0
  obtain ⟨a0, rfl⟩ := Int.eq_ofNat_of_zero_le h.1
  have h' := wf_u16 h1
  obtain ⟨a1, rfl⟩ := Int.eq_ofNat_of_zero_le h'.1
  have h'' := wf_u16 h2
  obtain ⟨a2, rfl⟩ := Int.eq_ofNat_of_zero_le h''.1
  have h4 := wf_u16 h3
  obtain ⟨a3, rfl⟩ := Int.eq_ofNat_of_zero_le h4.1
  exact PermRules_walk a0 a1 a2 a3 (by omega) (by omega) (by omega) (by omega) l4 A4 n4 c4 w hg (by simp only [maxLen] at m4; omega) e4 s4
end Go.Proofs.YtkhhjompondnnaaDoor
