/-
  The walk of PermTells.
-/
import Derived.Test.YtkhhjompondnnaaDoorPermD
import Derived.Test.YtkhhjompondnnaaDoorPermR
import Derived.Test.YtkhhjompondnnaaDoorLaw07
namespace Go.Proofs.YtkhhjompondnnaaDoor
open Go.RowKit Go.Extern.Stop Go.Stop Go.Extern
set_option maxRecDepth 100000
set_option linter.unusedVariables false

theorem thenL_at {p q : List Int} (hp : Ord p) (hq : Ord q) (hl : p.length = q.length) {i j : Nat} {x : Int} (h1 : p[i]? = some (j : Int)) (h2 : q[j]? = some x) : (thenL p q)[i]? = some x := by
  rw [then_get hp hq hl, List.getElem?_map, h1, Option.map_some, Int.toNat_natCast, List.getD_eq_getElem?_getD, h2]; rfl

set_option maxHeartbeats 8000000 in
theorem PermTells_no (p q l : List Int) (A B C : Option Addr) (n m t cp cq cl : Nat) (w : World) (hg : ErrT w) (hn : n ≤ 20) (hm : m ≤ 20) (ht : t ≤ 20) (hlp : p.length = n) (hlq : q.length = m) (hll : l.length = t) (hs : Sl w 1 A n (p.map (Value.int .i64))) (hsq : Sl w 1 B m (q.map (Value.int .i64))) (hsl : Sl w 1 C t (l.map (Value.int .i64))) (hO : ¬ Ord p) :
    Calls Tryd.prog 5 #[.slice A n cp, .slice B m cq, .slice C t cl] w fun e w' => e = .returned (.bool true) ∧ Below w.heap.size w w' := by
  have hE1 : thenE p q = .flt 1 0 order := by rw [thenE, if_neg (fun h => hO h.1)]
  have hE2 : putE p l = .flt 1 0 order := by rw [putE, if_neg hO]
  have hL1 : thenL p q = [] := by rw [thenL, if_neg (fun h => hO h.1)]
  have hL2 : putL p l = [] := by rw [putL, if_neg (fun h => hO h.1)]
  replace hE1 := Lib.hid hE1
  replace hE2 := Lib.hid hE2
  replace hL1 := Lib.hid hL1
  replace hL2 := Lib.hid hL2
  replace hO := Lib.hid hO
  go_enter Tryd.func5, Tryd.ntmps5
  go_wp2_with fail
  refine (alive07 w hg).mono ?_
  rintro e w1 ⟨rfl, hb⟩
  have HB := Lib.hid hb
  have HG := Lib.hid (hg.keep hb)
  have Sp := Lib.hid (hs.keep hb)
  have Sq := Lib.hid (hsq.keep hb)
  have Sl1 := Lib.hid (hsl.keep hb)
  clear hs hsq hsl hg hb
  go_wp2_with fail
  have hR := RefRight_any p A n cp w1 (by omega) hlp Sp.out
  rw [decide_eq_false hO.out] at hR
  refine hR.mono ?_
  rintro e w0 ⟨rfl, rfl⟩
  clear hR
  go_wp2_with fail
  refine (Back_bad p A n cp w1 hO.out hlp Sp.out).mono ?_
  rintro e w2 ⟨e1, rfl, E1, hb⟩
  replace HB := Lib.hid (HB.out.andThen hb)
  replace HG := Lib.hid (HG.out.keep hb)
  replace Sp := Lib.hid (Sp.out.keep hb)
  replace Sq := Lib.hid (Sq.out.keep hb)
  replace Sl1 := Lib.hid (Sl1.out.keep hb)
  replace E1 := Lib.hid E1
  clear hb
  go_wp2_with fail
  refine (Then_any p q A B n m cp cq w2 hlp hlq Sp.out Sq.out).mono ?_
  rintro e w3 ⟨C1, t1, k1, e2, rfl, ht1, E2, _, hb⟩
  replace HB := Lib.hid (HB.out.andThen hb)
  replace HG := Lib.hid (HG.out.keep hb)
  replace Sp := Lib.hid (Sp.out.keep hb)
  replace Sq := Lib.hid (Sq.out.keep hb)
  replace Sl1 := Lib.hid (Sl1.out.keep hb)
  replace E1 := Lib.hid (E1.out.keep hb)
  replace E2 := Lib.hid E2
  clear hb
  rw [hL1.out] at ht1
  obtain rfl : t1 = 0 := ht1
  rw [hE1.out] at E2
  go_wp2_with fail
  refine (Put_any p l A C n t cp cl w3 hlp hll Sp.out Sl1.out).mono ?_
  rintro e w4 ⟨C2, t2, k2, e3, rfl, ht2, E3, _, hb⟩
  replace HB := Lib.hid (HB.out.andThen hb)
  replace HG := Lib.hid (HG.out.keep hb)
  replace Sp := Lib.hid (Sp.out.keep hb)
  replace Sq := Lib.hid (Sq.out.keep hb)
  replace Sl1 := Lib.hid (Sl1.out.keep hb)
  replace E1 := Lib.hid (E1.out.keep hb)
  replace E2 := Lib.hid (E2.out.keep hb)
  replace E3 := Lib.hid E3
  clear hb
  rw [hL2.out] at ht2
  obtain rfl : t2 = 0 := ht2
  rw [hE2.out] at E3
  go_wp2_with fail
  refine (Even_bad p A n cp w4 hO.out hlp Sp.out).mono ?_
  rintro e w5 ⟨e4, rfl, E4, hb⟩
  replace HB := Lib.hid (HB.out.andThen hb)
  replace HG := Lib.hid (HG.out.keep hb)
  replace Sp := Lib.hid (Sp.out.keep hb)
  replace Sq := Lib.hid (Sq.out.keep hb)
  replace Sl1 := Lib.hid (Sl1.out.keep hb)
  replace E1 := Lib.hid (E1.out.keep hb)
  replace E2 := Lib.hid (E2.out.keep hb)
  replace E3 := Lib.hid (E3.out.keep hb)
  replace E4 := Lib.hid E4
  clear hb
  go_wp2_with fail
  refine (Circles_bad p A n cp w5 hO.out hlp Sp.out).mono ?_
  rintro e w6 ⟨e5, rfl, E5, hb⟩
  replace HB := Lib.hid (HB.out.andThen hb)
  replace HG := Lib.hid (HG.out.keep hb)
  replace Sp := Lib.hid (Sp.out.keep hb)
  replace Sq := Lib.hid (Sq.out.keep hb)
  replace Sl1 := Lib.hid (Sl1.out.keep hb)
  replace E1 := Lib.hid (E1.out.keep hb)
  replace E2 := Lib.hid (E2.out.keep hb)
  replace E3 := Lib.hid (E3.out.keep hb)
  replace E4 := Lib.hid (E4.out.keep hb)
  replace E5 := Lib.hid E5
  clear hb
  go_wp2_with fail
  have hR := Right_any p A n cp w6 hlp Sp.out
  rw [decide_eq_false hO.out] at hR
  refine hR.mono ?_
  rintro e w0 ⟨rfl, rfl⟩
  clear hR
  go_wp2_with fail
  refine (Code_any _ e1 w6 E1.out HG.out).mono ?_
  rintro e w7 ⟨rfl, hb⟩
  replace HB := Lib.hid (HB.out.andThen hb)
  replace HG := Lib.hid (HG.out.keep hb)
  replace Sp := Lib.hid (Sp.out.keep hb)
  replace Sq := Lib.hid (Sq.out.keep hb)
  replace Sl1 := Lib.hid (Sl1.out.keep hb)
  replace E1 := Lib.hid (E1.out.keep hb)
  replace E2 := Lib.hid (E2.out.keep hb)
  replace E3 := Lib.hid (E3.out.keep hb)
  replace E4 := Lib.hid (E4.out.keep hb)
  replace E5 := Lib.hid (E5.out.keep hb)
  clear hb
  go_wp2_with fail
  refine (Code_any _ e2 w7 E2.out HG.out).mono ?_
  rintro e w8 ⟨rfl, hb⟩
  replace HB := Lib.hid (HB.out.andThen hb)
  replace HG := Lib.hid (HG.out.keep hb)
  replace Sp := Lib.hid (Sp.out.keep hb)
  replace Sq := Lib.hid (Sq.out.keep hb)
  replace Sl1 := Lib.hid (Sl1.out.keep hb)
  replace E1 := Lib.hid (E1.out.keep hb)
  replace E2 := Lib.hid (E2.out.keep hb)
  replace E3 := Lib.hid (E3.out.keep hb)
  replace E4 := Lib.hid (E4.out.keep hb)
  replace E5 := Lib.hid (E5.out.keep hb)
  clear hb
  go_wp2_with fail
  refine (Code_any _ e3 w8 E3.out HG.out).mono ?_
  rintro e w9 ⟨rfl, hb⟩
  replace HB := Lib.hid (HB.out.andThen hb)
  replace HG := Lib.hid (HG.out.keep hb)
  replace Sp := Lib.hid (Sp.out.keep hb)
  replace Sq := Lib.hid (Sq.out.keep hb)
  replace Sl1 := Lib.hid (Sl1.out.keep hb)
  replace E1 := Lib.hid (E1.out.keep hb)
  replace E2 := Lib.hid (E2.out.keep hb)
  replace E3 := Lib.hid (E3.out.keep hb)
  replace E4 := Lib.hid (E4.out.keep hb)
  replace E5 := Lib.hid (E5.out.keep hb)
  clear hb
  go_wp2_with fail
  refine (At_any _ e3 w9 E3.out HG.out).mono ?_
  rintro e w10 ⟨rfl, hb⟩
  replace HB := Lib.hid (HB.out.andThen hb)
  replace HG := Lib.hid (HG.out.keep hb)
  replace Sp := Lib.hid (Sp.out.keep hb)
  replace Sq := Lib.hid (Sq.out.keep hb)
  replace Sl1 := Lib.hid (Sl1.out.keep hb)
  replace E1 := Lib.hid (E1.out.keep hb)
  replace E2 := Lib.hid (E2.out.keep hb)
  replace E3 := Lib.hid (E3.out.keep hb)
  replace E4 := Lib.hid (E4.out.keep hb)
  replace E5 := Lib.hid (E5.out.keep hb)
  clear hb
  go_wp2_with fail
  refine (Code_any _ e4 w10 E4.out HG.out).mono ?_
  rintro e w11 ⟨rfl, hb⟩
  replace HB := Lib.hid (HB.out.andThen hb)
  replace HG := Lib.hid (HG.out.keep hb)
  replace Sp := Lib.hid (Sp.out.keep hb)
  replace Sq := Lib.hid (Sq.out.keep hb)
  replace Sl1 := Lib.hid (Sl1.out.keep hb)
  replace E1 := Lib.hid (E1.out.keep hb)
  replace E2 := Lib.hid (E2.out.keep hb)
  replace E3 := Lib.hid (E3.out.keep hb)
  replace E4 := Lib.hid (E4.out.keep hb)
  replace E5 := Lib.hid (E5.out.keep hb)
  clear hb
  go_wp2_with fail
  refine (Code_any _ e5 w11 E5.out HG.out).mono ?_
  rintro e w12 ⟨rfl, hb⟩
  replace HB := Lib.hid (HB.out.andThen hb)
  replace HG := Lib.hid (HG.out.keep hb)
  replace Sp := Lib.hid (Sp.out.keep hb)
  replace Sq := Lib.hid (Sq.out.keep hb)
  replace Sl1 := Lib.hid (Sl1.out.keep hb)
  replace E1 := Lib.hid (E1.out.keep hb)
  replace E2 := Lib.hid (E2.out.keep hb)
  replace E3 := Lib.hid (E3.out.keep hb)
  replace E4 := Lib.hid (E4.out.keep hb)
  replace E5 := Lib.hid (E5.out.keep hb)
  clear hb
  go_wp2_with fail
  go_ret
  exact ⟨rfl, HB.out⟩

theorem CRows.keep {B : Nat} {w w' : World} {Bc : Nat} {outs : List (List Int)} {vs : List Value} (h : CRows B w Bc outs vs) (hb : Below w.heap.size w w') : CRows B w' w'.heap.size outs vs :=
  h.now.map fun v c h1 h2 => ⟨own_below h1 h2 hb, fun g hg => Nat.lt_of_lt_of_le (h2 g hg) hb.size⟩
theorem CI.sum {p : List Int} {outs : List (List Int)} (h : CI p p.length outs) : outs.flatten.length = p.length := by
  refine Nat.le_antisymm (pig _ _ h.nod (fun x hx => ?_)) ?_
  · obtain ⟨c, hc, hx⟩ := List.mem_flatten.1 hx
    have := (h.circ c hc).2.1 x hx
    exact ⟨this.1, this.2.1⟩
  · have := sub_len (ids p.length) outs.flatten (ids_nodup _) (fun x hx => by
      have h1 := ids_mem.1 hx
      have := h.all x.toNat (by omega)
      rwa [show ((x.toNat : Nat) : Int) = x by omega] at this)
    rwa [ids_len] at this
theorem CI.rise {p : List Int} {i k : Nat} {outs : List (List Int)} {c d : List Int} (h : CI p i outs) (hc : outs[k]? = some c) (hd : outs[k + 1]? = some d) : c.headD 0 < d.headD 0 := by
  have h1 := (List.pairwise_iff_getElem.1 h.heads) k (k + 1) (by simp; exact Nat.lt_of_succ_lt (List.getElem?_eq_some_iff.1 hd).1) (by simp; exact (List.getElem?_eq_some_iff.1 hd).1) (by omega)
  rw [List.getElem_map, List.getElem_map, (List.getElem?_eq_some_iff.1 hc).2, (List.getElem?_eq_some_iff.1 hd).2] at h1
  exact h1
theorem take_flat (outs : List (List Int)) (k : Nat) (c : List Int) (h : outs[k]? = some c) : (outs.take (k + 1)).flatten.length = (outs.take k).flatten.length + c.length := by
  obtain ⟨hk, e⟩ := List.getElem?_eq_some_iff.1 h
  rw [List.take_succ_eq_append_getElem hk, e, List.flatten_append, List.length_append]
  simp

set_option maxHeartbeats 16000000 in
theorem PermTells_yes (p q l : List Int) (A B C : Option Addr) (n m t cp cq cl : Nat) (w : World) (hg : ErrT w) (hm : m ≤ 20) (ht : t ≤ 20) (hlp : p.length = n) (hlq : q.length = m) (hll : l.length = t) (hs : Sl w 1 A n (p.map (Value.int .i64))) (hsq : Sl w 1 B m (q.map (Value.int .i64))) (hsl : Sl w 1 C t (l.map (Value.int .i64))) (hO : Ord p) :
    Calls Tryd.prog 5 #[.slice A n cp, .slice B m cq, .slice C t cl] w fun e w' => e = .returned (.bool true) ∧ Below w.heap.size w w' := by
  have hn : n ≤ 8 := by rw [← hlp]; exact hO.1
  have lbk := (backL_len hO).trans hlp
  replace hO := Lib.hid hO
  go_enter Tryd.func5, Tryd.ntmps5
  go_wp2_with fail
  refine (alive07 w hg).mono ?_
  rintro e w1 ⟨rfl, hb⟩
  have HB := Lib.hid hb
  have HG := Lib.hid (hg.keep hb)
  have Sp := Lib.hid (hs.keep hb)
  have Sq := Lib.hid (hsq.keep hb)
  have Sl1 := Lib.hid (hsl.keep hb)
  clear hs hsq hsl hg hb
  go_wp2_with fail
  have hR := RefRight_any p A n cp w1 (by omega) hlp Sp.out
  rw [decide_eq_true hO.out] at hR
  refine hR.mono ?_
  rintro e w0 ⟨rfl, rfl⟩
  clear hR
  go_wp2_with fail
  refine (Back_ok p A n cp w1 hO.out hlp Sp.out).mono ?_
  rintro e w2 ⟨Cb, kb, rfl, Sb, hb⟩
  replace HB := Lib.hid (HB.out.andThen hb)
  replace HG := Lib.hid (HG.out.keep hb)
  replace Sp := Lib.hid (Sp.out.keep hb)
  replace Sq := Lib.hid (Sq.out.keep hb)
  replace Sl1 := Lib.hid (Sl1.out.keep hb)
  replace Sb := Lib.hid Sb
  clear hb
  go_wp2_with fail
  refine (Then_any p q A B n m cp cq w2 hlp hlq Sp.out Sq.out).mono ?_
  rintro e w3 ⟨C1, t1, k1, e2, rfl, ht1, E2, S1, hb⟩
  replace HB := Lib.hid (HB.out.andThen hb)
  replace HG := Lib.hid (HG.out.keep hb)
  replace Sp := Lib.hid (Sp.out.keep hb)
  replace Sq := Lib.hid (Sq.out.keep hb)
  replace Sl1 := Lib.hid (Sl1.out.keep hb)
  replace Sb := Lib.hid (Sb.out.keep hb)
  replace S1 := Lib.hid S1
  replace E2 := Lib.hid E2
  clear hb
  replace ht1 := Lib.hid ht1
  go_wp2_with fail
  refine (Put_any p l A C n t cp cl w3 hlp hll Sp.out Sl1.out).mono ?_
  rintro e w4 ⟨C2, t2, k2, e3, rfl, ht2, E3, S2, hb⟩
  replace HB := Lib.hid (HB.out.andThen hb)
  replace HG := Lib.hid (HG.out.keep hb)
  replace Sp := Lib.hid (Sp.out.keep hb)
  replace Sq := Lib.hid (Sq.out.keep hb)
  replace Sl1 := Lib.hid (Sl1.out.keep hb)
  replace Sb := Lib.hid (Sb.out.keep hb)
  replace S1 := Lib.hid (S1.out.keep hb)
  replace E2 := Lib.hid (E2.out.keep hb)
  replace S2 := Lib.hid S2
  replace E3 := Lib.hid E3
  clear hb
  replace ht2 := Lib.hid ht2
  go_wp2_with fail
  refine (Even_ok p A n cp w4 hO.out hlp Sp.out).mono ?_
  rintro e w5 ⟨rfl, hb⟩
  replace HB := Lib.hid (HB.out.andThen hb)
  replace HG := Lib.hid (HG.out.keep hb)
  replace Sp := Lib.hid (Sp.out.keep hb)
  replace Sq := Lib.hid (Sq.out.keep hb)
  replace Sl1 := Lib.hid (Sl1.out.keep hb)
  replace Sb := Lib.hid (Sb.out.keep hb)
  replace S1 := Lib.hid (S1.out.keep hb)
  replace E2 := Lib.hid (E2.out.keep hb)
  replace S2 := Lib.hid (S2.out.keep hb)
  replace E3 := Lib.hid (E3.out.keep hb)
  clear hb
  go_wp2_with fail
  refine (Circles_ok p A n cp w5 hO.out hlp Sp.out).mono ?_
  rintro e w6 ⟨Cc, kc, outs, vs, rfl, hci, Sv, HCR, hb⟩
  replace HB := Lib.hid (HB.out.andThen hb)
  replace HG := Lib.hid (HG.out.keep hb)
  replace Sp := Lib.hid (Sp.out.keep hb)
  replace Sq := Lib.hid (Sq.out.keep hb)
  replace Sl1 := Lib.hid (Sl1.out.keep hb)
  replace Sb := Lib.hid (Sb.out.keep hb)
  replace S1 := Lib.hid (S1.out.keep hb)
  replace E2 := Lib.hid (E2.out.keep hb)
  replace S2 := Lib.hid (S2.out.keep hb)
  replace E3 := Lib.hid (E3.out.keep hb)
  replace Sv := Lib.hid Sv
  replace HCR := Lib.hid HCR
  clear hb
  replace hci := Lib.hid hci
  go_wp2_with fail
  have hR := Right_any p A n cp w6 hlp Sp.out
  rw [decide_eq_true hO.out] at hR
  refine hR.mono ?_
  rintro e w0 ⟨rfl, rfl⟩
  clear hR
  go_wp2_with fail
  refine (RefBack_ok p A n cp w6 hO.out hlp Sp.out).mono ?_
  rintro e w7 ⟨Cr, kr, rfl, Sr, hb⟩
  replace HB := Lib.hid (HB.out.andThen hb)
  replace HG := Lib.hid (HG.out.keep hb)
  replace Sp := Lib.hid (Sp.out.keep hb)
  replace Sq := Lib.hid (Sq.out.keep hb)
  replace Sl1 := Lib.hid (Sl1.out.keep hb)
  replace Sb := Lib.hid (Sb.out.keep hb)
  replace S1 := Lib.hid (S1.out.keep hb)
  replace E2 := Lib.hid (E2.out.keep hb)
  replace S2 := Lib.hid (S2.out.keep hb)
  replace E3 := Lib.hid (E3.out.keep hb)
  replace Sv := Lib.hid (Sv.out.keep hb)
  replace HCR := Lib.hid (HCR.out.keep hb)
  replace Sr := Lib.hid Sr
  clear hb
  go_wp2_with fail
  refine (SameInts_same (backL p) Cb Cr n kb kr w7 lbk Sb.out Sr.out (by omega)).mono ?_
  rintro e w8 ⟨rfl, hb⟩
  replace HB := Lib.hid (HB.out.andThen hb)
  replace HG := Lib.hid (HG.out.keep hb)
  replace Sp := Lib.hid (Sp.out.keep hb)
  replace Sq := Lib.hid (Sq.out.keep hb)
  replace Sl1 := Lib.hid (Sl1.out.keep hb)
  replace Sb := Lib.hid (Sb.out.keep hb)
  replace S1 := Lib.hid (S1.out.keep hb)
  replace E2 := Lib.hid (E2.out.keep hb)
  replace S2 := Lib.hid (S2.out.keep hb)
  replace E3 := Lib.hid (E3.out.keep hb)
  replace Sv := Lib.hid (Sv.out.keep hb)
  replace HCR := Lib.hid (HCR.out.keep hb)
  replace Sr := Lib.hid (Sr.out.keep hb)
  clear hb
  clear Sb Sr
  go_wp2_with fail
  refine (RefEven_any p A n cp w8 (by omega) hlp Sp.out).mono ?_
  rintro e w9 ⟨rfl, hb⟩
  replace HB := Lib.hid (HB.out.andThen hb)
  replace HG := Lib.hid (HG.out.keep hb)
  replace Sp := Lib.hid (Sp.out.keep hb)
  replace Sq := Lib.hid (Sq.out.keep hb)
  replace Sl1 := Lib.hid (Sl1.out.keep hb)
  replace S1 := Lib.hid (S1.out.keep hb)
  replace E2 := Lib.hid (E2.out.keep hb)
  replace S2 := Lib.hid (S2.out.keep hb)
  replace E3 := Lib.hid (E3.out.keep hb)
  replace Sv := Lib.hid (Sv.out.keep hb)
  replace HCR := Lib.hid (HCR.out.keep hb)
  clear hb
  generalize decide (inv p % 2 = 0) = bv
  have hbb : (bv != bv) = false := by simp
  have hol := hci.out.few
  have HX := Lib.hid (fun (k : Nat) (c d : List Int) (hc : outs[k]? = some c) (hd : outs[k + 1]? = some d) => hci.out.rise hc hd)
  go_wp2_with fail
  go_loopw [18, 19, 20] (fun lv nv kv wr => ∃ (k N : Nat) (L : Int), k ≤ outs.length ∧ kv = .int .i64 k ∧ nv = .int .i64 N ∧ lv = .int .i64 L ∧ Hid (N = ((outs.take k).flatten).length) ∧ Hid (∀ c, outs[k]? = some c → L < c.headD 0) ∧ Below w9.heap.size w9 wr) (fun _ _ kv _ => outs.length - (intOf kv).toNat)
  case atStart =>
    refine ⟨0, 0, -1, Nat.zero_le _, rfl, rfl, rfl, rfl, fun c hc => ?_, Below.refl _ _⟩
    obtain ⟨hcn, hcr, _⟩ := hci.out.circ c (List.mem_of_getElem? hc)
    have e1 : c.headD 0 ∈ c := by cases c with | nil => exact absurd rfl hcn | cons y l => simp
    have := (hcr _ e1).1
    omega
  case round =>
    obtain ⟨k, N, L, hk, rfl, rfl, rfl, HN, HL, hb⟩ := hrel
    by_cases hlt : k < outs.length
    · have hck : outs[k]? = some outs[k] := List.getElem?_eq_getElem hlt
      generalize outs[k] = c at hck
      obtain ⟨hcn, hcr, hcc⟩ := hci.out.circ c (List.mem_of_getElem? hck)
      have hlen : 0 < c.length := List.length_pos_iff.2 hcn
      obtain ⟨v, hv, hvo, hvB⟩ := HCR.out.at_ hck
      obtain ⟨g, cap, rfl, _⟩ := own_form hvo hlen
      have HSc := Lib.hid (fun W (hW : Below w9.heap.size w9 W) => (Sl.of_own (own_below hvo hvB hW)))
      obtain ⟨b, off, u, rfl, e1, c1⟩ := (Sv.out.keep hb).one hlt
      rw [hv] at e1
      obtain rfl := Option.some.inj e1
      obtain ⟨b0, off0, u0, h0, e2, c2⟩ := (HSc.out wr hb).one hlen
      cases h0
      rw [List.getElem?_map, List.getElem?_eq_getElem hlen] at e2
      obtain rfl := Option.some.inj e2
      have hh : c[0] = c.headD 0 := by cases c with | nil => exact absurd rfl hcn | cons y l => rfl
      have hLh := HL.out c hck
      rw [hh] at c2
      have hclen : c.length ≤ n := by
        have h1 := take_flat outs k c hck
        have h2 : (outs.take (k + 1)).flatten.length ≤ outs.flatten.length := by
          conv => rhs; rw [← List.take_append_drop (k + 1) outs, List.flatten_append, List.length_append]
          omega
        have h3 := (hlp ▸ hci.out : CI p p.length outs).sum
        omega
      have hNn : N + c.length ≤ n := by
        have h1 := take_flat outs k c hck
        have h2 : (outs.take (k + 1)).flatten.length ≤ outs.flatten.length := by
          conv => rhs; rw [← List.take_append_drop (k + 1) outs, List.flatten_append, List.length_append]
          omega
        have h3 := (hlp ▸ hci.out : CI p p.length outs).sum
        have h4 := HN.out
        omega
      have HCK := Lib.hid hck
      have HCRg := Lib.hid hcr
      have HCC := Lib.hid hcc
      have hh0 := (hcr (c.headD 0) (by rw [← hh]; exact List.getElem_mem hlen)).1
      generalize hhd : c.headD 0 = hd at *
      have HHD := Lib.hid hhd
      have HVV := Lib.hid hv
      clear hhd hck hcn hcr hcc hv hvo hvB hh e1 e2
      generalize hcl : c.length = len at *
      have HCL := Lib.hid hcl
      clear hcl
      have hl0 : ((len : Int) == 0) = false := by simp; omega
      go_wp2_with fail
      go_loopw [19, 21] (fun nv jv wr => ∃ j : Nat, j ≤ len ∧ jv = .int .i64 j ∧ nv = .int .i64 ((N + j : Nat) : Int) ∧ Below w9.heap.size w9 wr) (fun _ jv _ => len - (intOf jv).toNat)
      case atStart => exact ⟨0, Nat.zero_le _, rfl, rfl, hb⟩
      case round =>
        obtain ⟨j, hj, rfl, rfl, hb'⟩ := hrel
        obtain ⟨bv2, ov2, u3, h3, e3, c3⟩ := (Sv.out.keep hb').one hlt
        cases h3
        rw [HVV.out] at e3
        obtain rfl := Option.some.inj e3
        by_cases hjl : j < len
        · have hjc : j < c.length := by rw [HCL.out]; exact hjl
          obtain ⟨b4, off4, u4, h4, e4, c4⟩ := (HSc.out _ hb').one hjl
          cases h4
          rw [List.getElem?_map, List.getElem?_eq_getElem hjc] at e4
          obtain rfl := Option.some.inj e4
          have hm2 : (j + 1) % len < len := Nat.mod_lt _ (by omega)
          have hmc : (j + 1) % len < c.length := by rw [HCL.out]; exact hm2
          obtain ⟨b5, off5, u5, h5, e5, c5⟩ := (HSc.out _ hb').one hm2
          cases h5
          rw [List.getElem?_map, List.getElem?_eq_getElem hmc] at e5
          obtain rfl := Option.some.inj e5
          have hrg := HCRg.out _ (List.getElem_mem hjc)
          have hcc := HCC.out j (by rw [← HCL.out]; exact hjc)
          have hgd : c.getD j 0 = c[j] := by rw [List.getD_eq_getElem?_getD, List.getElem?_eq_getElem hjc]; rfl
          rw [hgd, List.getElem?_eq_getElem hmc] at hcc
          have hmi : ((j : Int) + 1) % (len : Int) = (((j + 1) % len : Nat) : Int) := by push_cast; rfl
          generalize c[j] = x at *
          generalize c[(j + 1) % len] = y at *
          generalize (j + 1) % len = jm at *
          obtain ⟨x, rfl⟩ := Int.eq_ofNat_of_zero_le hrg.1
          have hxn : x < n := by omega
          obtain ⟨b6, off6, u6, rfl, e6, c6⟩ := (Sp.out.keep hb').one hxn
          rw [Int.toNat_natCast] at hcc
          rw [List.getElem?_map, hcc] at e6
          obtain rfl := Option.some.inj e6
          clear e3 e4 e5 e6 hcc hgd
          rw [Nat.zero_add] at c4 c5
          have hdx : decide ((x : Int) < hd) = false := decide_eq_false (by omega)
          go_wp2_with fail
          go_quiet (fail)
          go_wp2_with fail
          go_roundw
          case rel => exact ⟨j + 1, by omega, by go_num, by go_num, bel_drewN hb' _⟩
          case measure => simp [intOf]; omega
        · obtain rfl : j = len := by omega
          go_wp2_with fail
          go_roundw
          case rel =>
            refine ⟨k + 1, N + j, hd, by omega, by go_num, rfl, rfl, ?_, ?_, hb'⟩
            · show _ = _
              rw [take_flat outs k c HCK.out, HN.out, HCL.out]
            · intro d hd2
              rw [← HHD.out]
              exact HX.out _ _ _ HCK.out hd2
          case measure => simp [intOf]; omega
    · obtain rfl : k = outs.length := by omega
      obtain rfl : N = n := by
        have h1 := HN.out
        rw [List.take_of_length_le (Nat.le_refl _), (hlp ▸ hci.out : CI p p.length outs).sum] at h1
        omega
      clear HCR Sv HX
      by_cases htn : t = N
      · subst htn
        have hE3 : e3 = .nilIface := by
          have := E3.out
          rw [putE_ok hO.out (by omega)] at this
          exact this
        subst hE3
        clear HN HL
        go_wp2_with fail
        go_loopw [22] (fun kv wr => ∃ k : Nat, k ≤ t ∧ kv = .int .i64 k ∧ Below w9.heap.size w9 wr) (fun kv _ => t - (intOf kv).toNat)
        case atStart => exact ⟨0, Nat.zero_le _, rfl, hb⟩
        case round =>
          obtain ⟨k, hk, rfl, hb⟩ := hrel
          by_cases hlt : k < t
          · have hj : k < p.length := by omega
            have hj2 : k < l.length := by omega
            obtain ⟨bp, offp, up, rfl, e1, c1⟩ := (Sp.out.keep hb).one hlt
            obtain ⟨bl, offl, ul, rfl, e2', c2⟩ := (Sl1.out.keep hb).one hlt
            rw [List.getElem?_map, List.getElem?_eq_getElem hj] at e1
            obtain rfl := Option.some.inj e1
            rw [List.getElem?_map, List.getElem?_eq_getElem hj2] at e2'
            obtain rfl := Option.some.inj e2'
            have hrg := hO.out.2.1 _ (List.getElem_mem hj)
            have hput := putL_at hO.out (by omega) (List.getElem?_eq_getElem hj) (List.getElem?_eq_getElem hj2)
            generalize p[k] = x at *
            generalize l[k] = y at *
            obtain ⟨x, rfl⟩ := Int.eq_ofNat_of_zero_le hrg.1
            have hxn : x < t2 := by rw [ht2.out, putL_len hO.out (by omega)]; omega
            obtain ⟨bq, offq, uq, rfl, e3', c3⟩ := (S2.out.keep hb).one hxn
            rw [Int.toNat_natCast] at hput
            rw [List.getElem?_map, hput] at e3'
            obtain rfl := Option.some.inj e3'
            clear e1 e2' e3' hput
            go_wp2_with fail
            go_quiet (fail)
            go_wp2_with fail
            go_roundw
            case rel => exact ⟨k + 1, by omega, by go_num, bel_drewN hb _⟩
            case measure => simp [intOf]; omega
          · have HX := Lib.hid hb
            go_wp2_with fail
            have hR := RefRight_any q B m cq wr (by omega) hlq (Sq.out.keep hb)
            by_cases hq : Ord q
            · rw [decide_eq_true hq] at hR
              replace hq := Lib.hid hq
              replace hR := Lib.hid hR
              refine hR.out.mono ?_
              rintro e w0 ⟨rfl, rfl⟩
              by_cases hmn : m = t
              · subst hmn
                have hE2 : e2 = .nilIface := by
                  have := E2.out
                  rw [thenE, if_pos ⟨hO.out, hq.out⟩, if_pos (by omega)] at this
                  exact this
                subst hE2
                go_wp2_with fail
                go_loopw [23] (fun kv wr => ∃ k : Nat, k ≤ m ∧ kv = .int .i64 k ∧ Below w9.heap.size w9 wr) (fun kv _ => m - (intOf kv).toNat)
                case atStart => exact ⟨0, Nat.zero_le _, rfl, HX.out⟩
                case round =>
                  obtain ⟨k, hk, rfl, hb⟩ := hrel
                  by_cases hlt : k < m
                  · have hj : k < p.length := by omega
                    obtain ⟨bp, offp, up, rfl, e1, c1⟩ := (Sp.out.keep hb).one hlt
                    rw [List.getElem?_map, List.getElem?_eq_getElem hj] at e1
                    obtain rfl := Option.some.inj e1
                    have hrg := hO.out.2.1 _ (List.getElem_mem hj)
                    have hpk := List.getElem?_eq_getElem hj
                    generalize p[k] = x at *
                    obtain ⟨x, rfl⟩ := Int.eq_ofNat_of_zero_le hrg.1
                    have hxq : x < q.length := by omega
                    have hthen := thenL_at hO.out hq.out (by omega) hpk (List.getElem?_eq_getElem hxq)
                    have hxm : x < m := by omega
                    obtain ⟨bq, offq, uq, rfl, e2', c2⟩ := (Sq.out.keep hb).one hxm
                    rw [List.getElem?_map, List.getElem?_eq_getElem hxq] at e2'
                    obtain rfl := Option.some.inj e2'
                    generalize q[x] = y at *
                    have hkt : k < t1 := by rw [ht1.out, then_get hO.out hq.out (by omega), List.length_map]; omega
                    obtain ⟨bt, offt, ut, rfl, e3', c3⟩ := (S1.out.keep hb).one hkt
                    rw [List.getElem?_map, hthen] at e3'
                    obtain rfl := Option.some.inj e3'
                    clear e1 e2' e3' hthen hpk
                    go_wp2_with fail
                    go_quiet (fail)
                    go_wp2_with fail
                    go_roundw
                    case rel => exact ⟨k + 1, by omega, by go_num, bel_drewN hb _⟩
                    case measure => simp [intOf]; omega
                  · go_wp2_with fail
                    go_ret
                    exact ⟨rfl, HB.out.andThen hb⟩
              · have hE2 : thenE p q = .flt 1 1 order := by rw [thenE, if_pos ⟨hO.out, hq.out⟩, if_neg (by omega)]
                have E2' := E2.out
                rw [hE2] at E2'
                replace E2' := Lib.hid E2'
                have hmn' : ((m : Int) == (t : Int)) = false := by simp; omega
                go_wp2_with fail
                refine (Code_any _ e2 wr (E2'.out.keep HX.out) (HG.out.keep HX.out)).mono ?_
                rintro e wc ⟨rfl, hbc⟩
                replace hbc := HX.out.andThen hbc
                go_wp2_with fail
                refine (At_any _ e2 wc (E2'.out.keep hbc) (HG.out.keep hbc)).mono ?_
                rintro e wd ⟨rfl, hbd⟩
                replace hbd := hbc.andThen hbd
                go_wp2_with fail
                go_ret
                exact ⟨rfl, HB.out.andThen hbd⟩
            · rw [decide_eq_false hq] at hR
              replace hq := Lib.hid hq
              replace hR := Lib.hid hR
              refine hR.out.mono ?_
              rintro e w0 ⟨rfl, rfl⟩
              have hE2 : thenE p q = .flt 1 0 order := by rw [thenE, if_neg (fun h => hq.out h.2)]
              have E2' := E2.out
              rw [hE2] at E2'
              replace E2' := Lib.hid E2'
              go_wp2_with fail
              refine (Code_any _ e2 wr (E2'.out.keep HX.out) (HG.out.keep HX.out)).mono ?_
              rintro e wc ⟨rfl, hbc⟩
              replace hbc := HX.out.andThen hbc
              go_wp2_with fail
              refine (At_any _ e2 wc (E2'.out.keep hbc) (HG.out.keep hbc)).mono ?_
              rintro e wd ⟨rfl, hbd⟩
              replace hbd := hbc.andThen hbd
              go_wp2_with fail
              go_ret
              exact ⟨rfl, HB.out.andThen hbd⟩
      · have hE3 : putE p l = .flt 1 1 order := by rw [putE, if_pos hO.out, if_neg (by omega)]
        have E3' := E3.out
        rw [hE3] at E3'
        replace E3' := Lib.hid E3'
        clear HN HL hE3
        have htn' : ((t : Int) == (N : Int)) = false := by simp; omega
        go_wp2_with fail
        refine (Code_any _ e3 wr (E3'.out.keep hb) (HG.out.keep hb)).mono ?_
        rintro e wa ⟨rfl, hba⟩
        replace hb := hb.andThen hba
        go_wp2_with fail
        refine (At_any _ e3 wa (E3'.out.keep hb) (HG.out.keep hb)).mono ?_
        rintro e wb ⟨rfl, hba⟩
        replace hb := hb.andThen hba
        clear hba E3'
        have HX := Lib.hid hb
        go_wp2_with fail
        have hR := RefRight_any q B m cq wb (by omega) hlq (Sq.out.keep hb)
        by_cases hq : Ord q
        · rw [decide_eq_true hq] at hR
          replace hq := Lib.hid hq
          replace hR := Lib.hid hR
          refine hR.out.mono ?_
          rintro e w0 ⟨rfl, rfl⟩
          by_cases hmn : m = N
          · subst hmn
            have hE2 : e2 = .nilIface := by
              have := E2.out
              rw [thenE, if_pos ⟨hO.out, hq.out⟩, if_pos (by omega)] at this
              exact this
            subst hE2
            go_wp2_with fail
            go_loopw [23] (fun kv wr => ∃ k : Nat, k ≤ m ∧ kv = .int .i64 k ∧ Below w9.heap.size w9 wr) (fun kv _ => m - (intOf kv).toNat)
            case atStart => exact ⟨0, Nat.zero_le _, rfl, HX.out⟩
            case round =>
              obtain ⟨k, hk, rfl, hb⟩ := hrel
              by_cases hlt : k < m
              · have hj : k < p.length := by omega
                obtain ⟨bp, offp, up, rfl, e1, c1⟩ := (Sp.out.keep hb).one hlt
                rw [List.getElem?_map, List.getElem?_eq_getElem hj] at e1
                obtain rfl := Option.some.inj e1
                have hrg := hO.out.2.1 _ (List.getElem_mem hj)
                have hpk := List.getElem?_eq_getElem hj
                generalize p[k] = x at *
                obtain ⟨x, rfl⟩ := Int.eq_ofNat_of_zero_le hrg.1
                have hxq : x < q.length := by omega
                have hthen := thenL_at hO.out hq.out (by omega) hpk (List.getElem?_eq_getElem hxq)
                have hxm : x < m := by omega
                obtain ⟨bq, offq, uq, rfl, e2', c2⟩ := (Sq.out.keep hb).one hxm
                rw [List.getElem?_map, List.getElem?_eq_getElem hxq] at e2'
                obtain rfl := Option.some.inj e2'
                generalize q[x] = y at *
                have hkt : k < t1 := by rw [ht1.out, then_get hO.out hq.out (by omega), List.length_map]; omega
                obtain ⟨bt, offt, ut, rfl, e3', c3⟩ := (S1.out.keep hb).one hkt
                rw [List.getElem?_map, hthen] at e3'
                obtain rfl := Option.some.inj e3'
                clear e1 e2' e3' hthen hpk
                go_wp2_with fail
                go_quiet (fail)
                go_wp2_with fail
                go_roundw
                case rel => exact ⟨k + 1, by omega, by go_num, bel_drewN hb _⟩
                case measure => simp [intOf]; omega
              · go_wp2_with fail
                go_ret
                exact ⟨rfl, HB.out.andThen hb⟩
          · have hE2 : thenE p q = .flt 1 1 order := by rw [thenE, if_pos ⟨hO.out, hq.out⟩, if_neg (by omega)]
            have E2' := E2.out
            rw [hE2] at E2'
            replace E2' := Lib.hid E2'
            have hmn' : ((m : Int) == (N : Int)) = false := by simp; omega
            go_wp2_with fail
            refine (Code_any _ e2 wb (E2'.out.keep HX.out) (HG.out.keep HX.out)).mono ?_
            rintro e wc ⟨rfl, hbc⟩
            replace hbc := HX.out.andThen hbc
            go_wp2_with fail
            refine (At_any _ e2 wc (E2'.out.keep hbc) (HG.out.keep hbc)).mono ?_
            rintro e wd ⟨rfl, hbd⟩
            replace hbd := hbc.andThen hbd
            go_wp2_with fail
            go_ret
            exact ⟨rfl, HB.out.andThen hbd⟩
        · rw [decide_eq_false hq] at hR
          replace hq := Lib.hid hq
          replace hR := Lib.hid hR
          refine hR.out.mono ?_
          rintro e w0 ⟨rfl, rfl⟩
          have hE2 : thenE p q = .flt 1 0 order := by rw [thenE, if_neg (fun h => hq.out h.2)]
          have E2' := E2.out
          rw [hE2] at E2'
          replace E2' := Lib.hid E2'
          go_wp2_with fail
          refine (Code_any _ e2 wb (E2'.out.keep HX.out) (HG.out.keep HX.out)).mono ?_
          rintro e wc ⟨rfl, hbc⟩
          replace hbc := HX.out.andThen hbc
          go_wp2_with fail
          refine (At_any _ e2 wc (E2'.out.keep hbc) (HG.out.keep hbc)).mono ?_
          rintro e wd ⟨rfl, hbd⟩
          replace hbd := hbc.andThen hbd
          go_wp2_with fail
          go_ret
          exact ⟨rfl, HB.out.andThen hbd⟩

theorem PermTells_main (A : Option Addr) (n cp : Nat) (p : List Int) (B : Option Addr) (m cq : Nat) (q : List Int) (C : Option Addr) (t cl : Nat) (l : List Int) (w : World) (hg : ErrT w)
    (_ : n ≤ maxLen) (hlp : p.length = n) (hs : Sl w 1 A n (p.map (Value.int .i64))) (_ : ∀ x ∈ p, (Lit.int .i64 x).wf = true) (_ : m ≤ maxLen) (hlq : q.length = m) (hsq : Sl w 1 B m (q.map (Value.int .i64))) (_ : ∀ x ∈ q, (Lit.int .i64 x).wf = true) (_ : t ≤ maxLen) (hll : l.length = t) (hsl : Sl w 1 C t (l.map (Value.int .i64))) (_ : ∀ x ∈ l, (Lit.int .i64 x).wf = true) :
    Calls Tryd.prog 5 #[.slice A n cp, .slice B m cq, .slice C t cl] w fun e w' => e = .returned (.bool true) ∧ Below w.heap.size w w' := by
  by_cases h : n ≤ 20 ∧ m ≤ 20 ∧ t ≤ 20
  · by_cases hO : Ord p
    · exact PermTells_yes p q l A B C n m t cp cq cl w hg h.2.1 h.2.2 hlp hlq hll hs hsq hsl hO
    · exact PermTells_no p q l A B C n m t cp cq cl w hg h.1 h.2.1 h.2.2 hlp hlq hll hs hsq hsl hO
  · go_enter Tryd.func5, Tryd.ntmps5
    go_wp2_with fail
    refine (alive07 w hg).mono ?_
    rintro e w1 ⟨rfl, hb⟩
    have HB := Lib.hid hb
    clear hs hsq hsl hg hb
    by_cases h1 : n ≤ 20
    · by_cases h2 : m ≤ 20
      · have h3 : 20 < t := by omega
        clear h
        go_wp2_with fail
        go_ret
        exact ⟨rfl, HB.out⟩
      · clear h
        go_wp2_with fail
        go_ret
        exact ⟨rfl, HB.out⟩
    · clear h
      go_wp2_with fail
      go_ret
      exact ⟨rfl, HB.out⟩
end Go.Proofs.YtkhhjompondnnaaDoor
