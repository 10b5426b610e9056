/-
  Part 7 of the proof of OdagAdds: OdB, Made, RankM, OdK, OdL, Chain, Chain2.
-/
import Derived.Deep.RegionHeld3
import Derived.Test.YtmonepclhbappaaDoorOdagAddsM6
import Derived.BigQuiet
import Derived.DeepKeys4
import Derived.Test.YtmonepclhbappaaDoorOdagAddsM1
import Derived.Test.YtmonepclhbappaaDoorOdagAddsM2
import Derived.Test.YtmonepclhbappaaDoorOdagAddsM3
import Derived.Shelf.SlIterI.Sorted
import Derived.Test.YtmonepclhbappaaDoorOdagAddsM4
import Derived.Deep.LoopGhost
/-
  Odags: contracts of slices.ContainsFunc as Of calls it, and of Of.
-/
namespace Go.Proofs.YtmonepclhbappaaDoor
open Go.RowKit Go.Maps
set_option maxRecDepth 100000
set_option linter.unusedVariables false

/-- Numbers that may stand in an odag. -/
def numOK (x : Int) : Prop := 0 ≤ x ∧ x ≤ 2147483647
theorem Of1_ok (x : Int) (w : World) (h : numOK x) : Calls Tryd.prog 55 #[.int .i64 x] w fun e w' => e = .returned (.bool false) ∧ w = w' := by
  have h1 : ¬ x < 0 := by have := h.1; omega
  have h2 : ¬ 2147483647 < x := by have := h.2; omega
  clear h
  go_enter Tryd.func55, Tryd.ntmps55
  go_wp2_with fail
  go_ret
  exact ⟨rfl, rfl⟩
set_option maxHeartbeats 2000000 in
theorem IndexF_ok (l : List Int) (A : Option Addr) (n c : Nat) (w : World) (hl : l.length = n) (hn : n ≤ 1000000) (hs : Sl w 1 A n (l.map (Value.int .i64))) (hx : ∀ x ∈ l, numOK x) :
    Calls Tryd.prog 85 #[.slice A n c, .func (.func 55) #[] #[]] w fun e w' => e = .returned (.int .i64 (-1)) ∧ w = w' := by
  have HS := Lib.hid hs
  have HL := Lib.hid hl
  have HX := Lib.hid hx
  clear hs hl hx
  go_enter Tryd.func85, Tryd.ntmps85
  go_wp2_with fail
  go_loop [8] (fun i => ∃ k : Nat, k ≤ n ∧ i = .int .i64 k) (fun i => n - (intOf i).toNat)
  case atStart => exact ⟨0, Nat.zero_le _, rfl⟩
  case round =>
    obtain ⟨k, hk, rfl⟩ := hrel
    by_cases hlt : k < n
    · have hlt' : (k : Int) < (n : Int) := by omega
      obtain ⟨x, hx⟩ : ∃ x, l[k]? = some x := ⟨_, List.getElem?_eq_getElem (by rw [HL.out]; exact hlt)⟩
      obtain ⟨b1, off1, rfl, _⟩ := HS.out.at_ (show 0 < n by omega)
      have c1 := HS.out.again hlt (show (l.map (Value.int .i64))[k]? = some (.int .i64 x) by rw [List.getElem?_map, hx]; rfl)
      have HXx := Lib.hid (HX.out x (List.mem_of_getElem? hx))
      clear hx
      go_wp2_with (go_at_call 55; refine (Of1_ok x _ HXx.out).mono ?_; rintro e w' ⟨rfl, rfl⟩)
      go_round
      case rel => exact ⟨k + 1, by omega, by go_num⟩
      case measure => simp [intOf]; omega
    · obtain rfl : k = n := by omega
      have hlt' : ¬ (k : Int) < (k : Int) := by omega
      go_wp2_with fail
      go_ret
      exact ⟨rfl, rfl⟩
theorem ContainsF_ok (l : List Int) (A : Option Addr) (n c : Nat) (w : World) (hl : l.length = n) (hn : n ≤ 1000000) (hs : Sl w 1 A n (l.map (Value.int .i64))) (hx : ∀ x ∈ l, numOK x) :
    Calls Tryd.prog 54 #[.slice A n c, .func (.func 55) #[] #[]] w fun e w' => e = .returned (.bool false) ∧ w = w' := by
  have HC := Lib.hid (IndexF_ok l A n c w hl hn hs hx)
  clear hl hs hx
  go_enter Tryd.func54, Tryd.ntmps54
  go_wp2_with (go_at_call 85; refine HC.out.mono ?_; rintro e w' ⟨rfl, rfl⟩)
  go_ret
  exact ⟨rfl, rfl⟩

/-- One number of a list laid in: the odag behind it. -/
theorem OdC.put {w w' : World} {p : Nat} {od : List Rw} {R : Option Addr} {n c : Nat} {bs : List Nat} {i b : Nat} {r : Rw} (h : OdC w p od R n c bs) (hi : bs[i]? = some b) (hm : NC w b) (hg : w.grownBy w' (some b)) (hr : MRow w' b r) : OdC w' p (od.set i r) R n c bs := by
  obtain ⟨h1, h2, h3, h4, h5, h6, h7⟩ := h
  refine ⟨h1.turned hm hg, by rw [List.length_set]; exact h2, h3, h4, h5.turned hm hg, h6, fun j b' r' hb' hr' => ?_⟩
  by_cases hji : i = j
  · subst hji
    rw [hi] at hb'
    obtain rfl := Option.some.inj hb'
    have hlt : i < od.length := by rw [h2, ← h3]; exact (List.getElem?_eq_some_iff.1 hi).1
    rw [List.getElem?_set_self hlt] at hr'
    obtain rfl := Option.some.inj hr'
    exact hr
  · rw [List.getElem?_set_ne hji] at hr'
    refine (h7 j b' r' hb' hr').other hm hg (fun e => hji ?_)
    subst e
    exact (List.getElem?_inj (by rw [h3]; have := (List.getElem?_eq_some_iff.1 hi).1; omega) h6).1 (hi.trans hb'.symm)
theorem OdC.keep {w w' : World} {p : Nat} {od : List Rw} {R : Option Addr} {n c : Nat} {bs : List Nat} (h : OdC w p od R n c bs) (hb : Below w.heap.size w w') : OdC w' p od R n c bs := by
  obtain ⟨h1, h2, h3, h4, h5, h6, h7⟩ := h
  exact ⟨h1.keep hb, h2, h3, h4, h5.keep hb, h6, fun i b r hb' hr => (h7 i b r hb' hr).keep hb⟩
/-- The call of put at place j. -/
theorem Put_at {B : Nat} {w0 w : World} {p j b m d : Nat} {od : List Rw} {R B' : Option Addr} {n c : Nat} {bs : List Nat} {x : List Int} (h : OdC w p od R n c bs) (hj : bs[j]? = some b) (hB : OdB 60000 od) (ha : numOK (x.getD j 0)) (hL : RowOK w (B', d, nxt x j)) (hm : (nxt x j).length = m)
    (hb0 : Below B w0 w) (hbB : B ≤ b) (hBw : B ≤ w0.heap.size) :
    Calls Tryd.prog 56 #[.map (some b), .int .i64 (x.getD j 0), .slice B' m d] w.drew fun e w' => e = .returned (.tuple #[]) ∧ OdC w' p (od.set j (stepR (od.getD j []) (x.getD j 0) (nxt x j))) R n c bs ∧ Below B w0 w' := by
  have hlt : j < od.length := by rw [h.2.1, ← h.2.2.1]; exact (List.getElem?_eq_some_iff.1 hj).1
  have hr := h.2.2.2.2.2.2 j b _ hj (List.getElem?_eq_getElem hlt)
  have hrB := hB _ (List.getElem_mem hlt)
  have hd := bel_drewN (Below.refl w.heap.size w) 1
  refine (put_any b od[j] (x.getD j 0) B' m d (nxt x j) w.drew (hr.keep hd) (Nat.le_trans hrB.1 (by omega)) (fun q hq => Nat.le_trans (hrB.2 q hq) (by omega)) ⟨by have := ha.1; omega, by have := ha.2; omega⟩ (hL.keep hd) hm (by have := nxt_len x j; omega)).mono fun e w' ⟨h1, h2, h3⟩ => ?_
  have hg : w.grownBy w' (some b) := gb_then hd h3
  have e1 : od.getD j [] = od[j] := by rw [List.getD_eq_getElem?_getD, List.getElem?_eq_getElem hlt]; rfl
  refine ⟨h1, ?_, bel_turn hb0 hg hbB (Nat.le_trans hBw hb0.size)⟩
  rw [e1]
  exact h.put hj hr.isMap hg h2

/-- Lists that may be laid into an odag of length n. -/
def Good (n : Nat) (its : List (Option Addr × Nat × List Int)) : Prop := ∀ t ∈ its, t.2.2.length = n ∧ ∀ x ∈ t.2.2, numOK x

set_option maxHeartbeats 16000000 in
theorem OfOd_any (n : Nat) (its : List (Option Addr × Nat × List Int)) (Q : Option Addr) (m cq : Nat) (w : World) (h1 : 1 ≤ n) (h8 : n ≤ 8) (hm : its.length = m) (hm5 : m ≤ 50000) (hq : Sl w 1 Q m (its.map rv)) (hr : AllRows w its) (hgood : Good n its) :
    Calls Tryd.prog 21 #[.int .i64 (n : Int), .slice Q m cq] w fun e w' => ∃ p, e = .returned (.tuple #[.pointer (some ⟨p, 0, none⟩), .nilIface]) ∧ OdM w' p (odOf n (its.map (·.2.2))) ∧ Below w.heap.size w w' := by
  have HQ := Lib.hid hq
  have HR := Lib.hid hr
  have HG := Lib.hid hgood
  have HM := Lib.hid hm
  clear hq hr hgood hm
  go_enter Tryd.func21, Tryd.ntmps21
  go_wp2_with (go_at_call 53; refine (fresh_any n w h1 h8).mono ?_; rintro e w1 ⟨p, rfl, ho, hb⟩; have HO1 := Lib.hid ho; have HB1 := Lib.hid hb; clear ho hb)
  go_loopw [22] (fun iv wr => ∃ k : Nat, k ≤ m ∧ iv = .int .i64 k ∧ Hid (OdN w.heap.size wr p (odOf n ((its.take k).map (·.2.2)))) ∧ Hid (Below w.heap.size w wr)) (fun iv _ => m - (intOf iv).toNat)
  case atStart => exact ⟨0, Nat.zero_le _, rfl, HO1, HB1⟩
  case round =>
    obtain ⟨k, hk, rfl, HO, HB⟩ := hrel
    by_cases hlt : k < m
    · have hlt' : (k : Int) < (m : Int) := by omega
      obtain ⟨t, ht⟩ : ∃ t, its[k]? = some t := ⟨_, List.getElem?_eq_getElem (by rw [HM.out]; exact hlt)⟩
      obtain ⟨A, c, x⟩ := t
      have HT := Lib.hid ht
      have hmem := List.mem_of_getElem? ht
      have hx := HG.out _ hmem
      have hrow := (HR.out _ hmem).keep HB.out
      obtain ⟨qb, qo, rfl, _⟩ := HQ.out.at_ (show 0 < m by omega)
      have c1 := (HQ.out.keep HB.out).again hlt (show (its.map rv)[k]? = some (.slice A x.length c) by rw [List.getElem?_map, ht]; rfl)
      have HX := Lib.hid hx.2
      have HMem := Lib.hid hmem
      have hxl : x.length = n := hx.1
      rw [hxl] at c1
      have HXl := Lib.hid hxl
      have HCF := Lib.hid (ContainsF_ok x A n c wr hxl (by omega) (by have := hrow.1; simp only at this; rw [hxl] at this; exact this) hx.2)
      clear ht hmem hx hrow hxl
      go_wp2_with (go_at_call 54; refine HCF.out.mono ?_; rintro e w' ⟨rfl, rfl⟩)
      clear HCF
      have HOB := Lib.hid (show OdB 50000 (odOf n ((its.take k).map (·.2.2))) from fun r hr => (odOf_B n _ r hr).mono (by rw [List.length_map, List.length_take, HM.out]; omega))
      go_loopw [39] (fun jv wr => ∃ j : Nat, j ≤ n ∧ jv = .int .i64 j ∧ Hid (OdN w.heap.size wr p (putTo (odOf n ((its.take k).map (·.2.2))) x j)) ∧ Hid (Below w.heap.size w wr)) (fun jv _ => n - (intOf jv).toNat)
      case atStart => exact ⟨0, Nat.zero_le _, rfl, HO, HB⟩
      case round =>
        obtain ⟨j, hj, rfl, HOj, HBj⟩ := hrel
        by_cases hjn : j < n
        · have hjn' : (j : Int) < (n : Int) := by omega
          obtain ⟨R, n', cc, bs, hC, hbs⟩ := HOj.out
          obtain ⟨b, hb⟩ : ∃ b, bs[j]? = some b := ⟨_, List.getElem?_eq_getElem (by rw [hC.2.2.1, ← hC.2.1, putTo_len, odOf_len]; exact hjn)⟩
          have hn' : n' = n := by rw [← hC.2.1, putTo_len, odOf_len]
          subst hn'
          obtain ⟨a, ha⟩ : ∃ a, x[j]? = some a := ⟨_, List.getElem?_eq_getElem (by rw [HXl.out]; exact hjn)⟩
          have hgd : x.getD j 0 = a := by rw [List.getD_eq_getElem?_getD, ha]; rfl
          have hrj := (HR.out _ HMem.out).keep HBj.out
          have hsj : Sl wr 1 A n' (x.map (Value.int .i64)) := by have := hrj.1; simp only at this; rw [HXl.out] at this; exact this
          have hcj : n' ≤ c ∧ c ≤ 9223372036854775807 := by have := hrj.2; simp only at this; rw [HXl.out] at this; exact this
          obtain ⟨ab, ao, rfl, _⟩ := hsj.at_ (show 0 < n' by omega)
          have c1 := hsj.again hjn (show (x.map (Value.int .i64))[j]? = some (.int .i64 a) by rw [List.getElem?_map, ha]; rfl)
          obtain ⟨rb, ro, rfl, _⟩ := hC.2.2.2.2.1.at_ (show 0 < n' by omega)
          have c2 := hC.2.2.2.2.1.again hjn (show (bs.map fun b => Value.map (some b))[j]? = some (.map (some b)) by rw [List.getElem?_map, hb]; rfl)
          have c3 := hC.1.cell 0
          simp at c3
          have hxok : numOK (x.getD j 0) := by rw [hgd]; exact HX.out a (List.mem_of_getElem? ha)
          have hbB := hbs b (List.mem_of_getElem? hb)
          have HPut := Lib.hid (fun (B' : Option Addr) (m' d : Nat) (hL : RowOK wr (B', d, nxt x j)) (hm' : (nxt x j).length = m') => Put_at hC hb (fun r hr => (putTo_B HOB.out x j r hr).mono (by omega)) hxok hL hm' HBj.out hbB (Nat.le_refl _))
          rw [hgd] at HPut
          have HGd := Lib.hid hgd
          have HBs := Lib.hid hbs
          have HA := Lib.hid ha
          have HSj := Lib.hid hsj
          have HCj := Lib.hid hC
          have HK := Lib.hid (show ∀ (od2 : List Rw) W, OdC W p od2 (some ⟨rb, ro, none⟩) n' cc bs → W.cell? ⟨p, 0, none⟩ = some (.slice (some ⟨rb, ro, none⟩) n' cc) ∧ W.cell? ⟨rb, ro + j, none⟩ = some (.map (some b)) from fun od2 W hW => by
            have q := hW.1.cell 0
            simp at q
            exact ⟨q, hW.2.2.2.2.1.again hjn (show (bs.map fun b => Value.map (some b))[j]? = some (.map (some b)) by rw [List.getElem?_map, hb]; rfl)⟩)
          clear ha hgd hrj hsj hC hbs hb hxok hbB
          have hw1 : IntKind.i64.wrap ((j : Int) + 1) = (j : Int) + 1 := by rw [IntKind.wrap_i64]; omega
          have hw2 : IntKind.i64.wrap ((j : Int) + 2) = (j : Int) + 2 := by rw [IntKind.wrap_i64]; omega
          have ht1 : ((j : Int) + 1).toNat = j + 1 := by omega
          have ht2 : ((j : Int) + 2).toNat = j + 2 := by omega
          have hcc : (n' : Int) ≤ (c : Int) := by omega
          by_cases hj1 : j + 1 < n'
          · have hmin : min ((j : Int) + 2) (n' : Int) = (j : Int) + 2 := by omega
            have hmn2 : ¬ (n' : Int) < (j : Int) + 2 := by omega
            have g1 : (0 : Int) ≤ (j : Int) + 1 := by omega
            have g2 : (j : Int) + 1 ≤ (j : Int) + 2 := by omega
            have g3 : (j : Int) + 2 ≤ (c : Int) := by omega
            have g4 : ¬ c = j + 1 := by omega
            have HLen := Lib.hid (show (nxt x j).length = 1 from by unfold nxt; rw [List.length_take, List.length_drop, HXl.out]; omega)
            have HRow := Lib.hid (show RowOK wr (some ⟨ab, ao + (j + 1), none⟩, c - (j + 1), nxt x j) from by
              refine ⟨?_, by simp only; rw [HLen.out]; omega, by simp only; omega⟩
              simp only
              rw [HLen.out]
              have h := (HSj.out.drop (k := j + 1) (by omega)).take (k := 1) (by omega)
              unfold nxt
              rw [List.map_take, List.map_drop]
              exact h)
            go_wp2_with fail
            go_region_held3 (fun w' => w'.cell? ⟨p, 0, none⟩ = some (.slice (some ⟨rb, ro, none⟩) n' cc) ∧ w'.cell? ⟨rb, ro + j, none⟩ = some (.map (some b))) (go_keep)
              ((go_at_call 56; refine (HPut.out (some ⟨ab, ao + (j + 1), none⟩) 1 (c - (j + 1)) HRow.out HLen.out).mono ?_; rintro e' w3 ⟨rfl, ho, hb3⟩; have zz := HK.out _ _ ho; have HO3 := Lib.hid ho; have HB3 := Lib.hid hb3; clear ho hb3))
            go_wp2_with fail
            go_roundw
            case rel => exact ⟨j + 1, by omega, by go_num, Lib.hid ⟨_, _, _, _, by have h := HO3.out; rw [← HGd.out] at h; exact h, HBs.out⟩, HB3⟩
            case measure => simp [intOf]; omega
          · have hmin : min ((j : Int) + 2) (n' : Int) = (n' : Int) := by omega
            have hmn2 : (n' : Int) < (j : Int) + 2 := by omega
            have g1 : (0 : Int) ≤ (j : Int) + 1 := by omega
            have g2 : (j : Int) + 1 ≤ (n' : Int) := by omega
            have hz : n' - (j + 1) = 0 := by omega
            have HLen := Lib.hid (show (nxt x j).length = 0 from by unfold nxt; rw [List.length_take, List.length_drop, HXl.out]; omega)
            have HNil := Lib.hid (List.eq_nil_of_length_eq_zero HLen.out)
            by_cases hcj : c = j + 1
            · subst hcj
              have hcc2 : (n' : Int) ≤ (j : Int) + 1 := by omega
              have HRow := Lib.hid (show RowOK wr (some ⟨ab, ao, none⟩, 0, nxt x j) from by rw [HNil.out]; exact ⟨Sl.nil _ _ _, Nat.le_refl _, Nat.zero_le _⟩)
              go_wp2_with fail
              go_region_held3 (fun w' => w'.cell? ⟨p, 0, none⟩ = some (.slice (some ⟨rb, ro, none⟩) n' cc) ∧ w'.cell? ⟨rb, ro + j, none⟩ = some (.map (some b))) (go_keep)
                ((go_at_call 56; refine (HPut.out (some ⟨ab, ao, none⟩) 0 0 HRow.out HLen.out).mono ?_; rintro e' w3 ⟨rfl, ho, hb3⟩; have zz := HK.out _ _ ho; have HO3 := Lib.hid ho; have HB3 := Lib.hid hb3; clear ho hb3))
              go_wp2_with fail
              go_roundw
              case rel => exact ⟨j + 1, by omega, by go_num, Lib.hid ⟨_, _, _, _, by have h := HO3.out; rw [← HGd.out] at h; exact h, HBs.out⟩, HB3⟩
              case measure => simp [intOf]; omega
            · have HRow := Lib.hid (show RowOK wr (some ⟨ab, ao + (j + 1), none⟩, c - (j + 1), nxt x j) from by rw [HNil.out]; exact ⟨Sl.nil _ _ _, Nat.zero_le _, by show c - (j + 1) ≤ _; omega⟩)
              go_wp2_with fail
              go_region_held3 (fun w' => w'.cell? ⟨p, 0, none⟩ = some (.slice (some ⟨rb, ro, none⟩) n' cc) ∧ w'.cell? ⟨rb, ro + j, none⟩ = some (.map (some b))) (go_keep)
                ((go_at_call 56; refine (HPut.out (some ⟨ab, ao + (j + 1), none⟩) 0 (c - (j + 1)) HRow.out HLen.out).mono ?_; rintro e' w3 ⟨rfl, ho, hb3⟩; have zz := HK.out _ _ ho; have HO3 := Lib.hid ho; have HB3 := Lib.hid hb3; clear ho hb3))
              go_wp2_with fail
              go_roundw
              case rel => exact ⟨j + 1, by omega, by go_num, Lib.hid ⟨_, _, _, _, by have h := HO3.out; rw [← HGd.out] at h; exact h, HBs.out⟩, HB3⟩
              case measure => simp [intOf]; omega
        · obtain rfl : j = n := by omega
          have hlt2 : ¬ (j : Int) < (j : Int) := by omega
          have HPE := Lib.hid (show putTo (odOf j ((its.take k).map (·.2.2))) x j = odOf j ((its.take (k + 1)).map (·.2.2)) from by
            obtain ⟨e1, e2⟩ := List.getElem?_eq_some_iff.1 HT.out
            rw [List.take_succ_eq_append_getElem e1, e2, List.map_append, List.map_singleton, odOf_snoc]
            unfold putO
            rw [HXl.out])
          go_wp2_with fail
          go_roundw
          case rel => exact ⟨k + 1, by omega, by go_num, by rw [← HPE.out]; exact HOj, HBj⟩
          case measure => simp [intOf]; omega
    · obtain rfl : k = m := by omega
      have hlt' : ¬ (k : Int) < (k : Int) := by omega
      have HE := Lib.hid (show its.take k = its from List.take_of_length_le (by rw [HM.out]; exact Nat.le_refl _))
      rw [HE.out] at HO
      go_wp2_with fail
      go_ret2
      exact ⟨_, rfl, HO.out.odM, HB.out⟩
end Go.Proofs.YtmonepclhbappaaDoor
/-
  The laws' Made: the odag of lists that can be one.
-/
namespace Go.Proofs.YtmonepclhbappaaDoor
open Go.RowKit Go.Maps
set_option maxRecDepth 100000
set_option linter.unusedVariables false

set_option maxHeartbeats 4000000 in
theorem Made_any (a : Int) (its : List (Option Addr × Nat × List Int)) (Q : Option Addr) (m cq : Nat) (w : World) (hm : its.length = m) (hq : Sl w 1 Q m (its.map rv)) (hr : AllRows w its) :
    Calls Tryd.prog 26 #[.int .i64 a, .slice Q m cq] w fun e w' => (e = .returned (.tuple #[.pointer none, .bool false]) ∧ Below w.heap.size w w') ∨ ∃ (n p : Nat), a = n ∧ 1 ≤ n ∧ n ≤ 5 ∧ m ≤ 12 ∧ Good n its ∧ e = .returned (.tuple #[.pointer (some ⟨p, 0, none⟩), .bool true]) ∧ OdM w' p (odOf n (its.map (·.2.2))) ∧ Below w.heap.size w w' := by
  have HQ := Lib.hid hq
  have HR := Lib.hid hr
  have HM := Lib.hid hm
  clear hq hr hm
  by_cases h1 : a < 1
  · go_enter Tryd.func26, Tryd.ntmps26
    go_wp2_with fail
    go_ret2
    exact Or.inl ⟨rfl, Below.refl _ _⟩
  · by_cases h5 : 5 < a
    · go_enter Tryd.func26, Tryd.ntmps26
      go_wp2_with fail
      go_ret2
      exact Or.inl ⟨rfl, Below.refl _ _⟩
    · by_cases h12 : 12 < m
      · have h12' : (12 : Int) < (m : Int) := by omega
        go_enter Tryd.func26, Tryd.ntmps26
        go_wp2_with fail
        go_ret2
        exact Or.inl ⟨rfl, Below.refl _ _⟩
      · have h12' : ¬ (12 : Int) < (m : Int) := by omega
        obtain ⟨n, rfl⟩ : ∃ n : Nat, a = (n : Int) := ⟨a.toNat, by omega⟩
        go_enter Tryd.func26, Tryd.ntmps26
        go_wp2_with fail
        go_loop [6] (fun iv => ∃ k : Nat, k ≤ m ∧ iv = .int .i64 k ∧ Hid (Good n (its.take k))) (fun iv => m - (intOf iv).toNat)
        case atStart => exact ⟨0, Nat.zero_le _, rfl, Lib.hid fun t ht => by cases ht⟩
        case round =>
          obtain ⟨k, hk, rfl, HG⟩ := hrel
          by_cases hlt : k < m
          · have hlt' : (k : Int) < (m : Int) := by omega
            obtain ⟨t, ht⟩ : ∃ t, its[k]? = some t := ⟨_, List.getElem?_eq_getElem (by rw [HM.out]; exact hlt)⟩
            obtain ⟨A, c, x⟩ := t
            have HT := Lib.hid ht
            have HRow := Lib.hid (HR.out _ (List.mem_of_getElem? ht))
            obtain ⟨qb, qo, rfl, _⟩ := HQ.out.at_ (show 0 < m by omega)
            have c1 := HQ.out.again hlt (show (its.map rv)[k]? = some (.slice A x.length c) by rw [List.getElem?_map, ht]; rfl)
            clear ht
            by_cases hx : x.length = n
            · have HX := Lib.hid hx
              have hs1 := HRow.out.1
              simp only at hs1
              rw [hx] at c1 hs1
              have HS1 := Lib.hid hs1
              clear hx hs1
              go_wp2_with fail
              go_loop [7] (fun jv => ∃ j : Nat, j ≤ n ∧ jv = .int .i64 j ∧ Hid (∀ y ∈ x.take j, numOK y)) (fun jv => n - (intOf jv).toNat)
              case atStart => exact ⟨0, Nat.zero_le _, rfl, Lib.hid fun y hy => by cases hy⟩
              case round =>
                obtain ⟨j, hj, rfl, HN⟩ := hrel
                by_cases hjn : j < n
                · have hjn' : (j : Int) < (n : Int) := by omega
                  obtain ⟨y, hy⟩ : ∃ y, x[j]? = some y := ⟨_, List.getElem?_eq_getElem (by rw [HX.out]; exact hjn)⟩
                  obtain ⟨b1, off1, rfl, _⟩ := HS1.out.at_ (show 0 < n by omega)
                  have c2 := HS1.out.again hjn (show (x.map (Value.int .i64))[j]? = some (.int .i64 y) by rw [List.getElem?_map, hy]; rfl)
                  have HY := Lib.hid hy
                  clear hy
                  by_cases hy0 : y < 0
                  · go_wp2_with fail
                    go_ret2
                    exact Or.inl ⟨rfl, Below.refl _ _⟩
                  · by_cases hy1 : 2147483647 < y
                    · go_wp2_with fail
                      go_ret2
                      exact Or.inl ⟨rfl, Below.refl _ _⟩
                    · have HNy := Lib.hid (show numOK y from ⟨by omega, by omega⟩)
                      go_wp2_with fail
                      go_round
                      case rel =>
                        refine ⟨j + 1, by omega, by go_num, Lib.hid fun z hz => ?_⟩
                        obtain ⟨e1, e2⟩ := List.getElem?_eq_some_iff.1 HY.out
                        rw [List.take_succ_eq_append_getElem e1, e2] at hz
                        rcases List.mem_append.1 hz with hz | hz
                        · exact HN.out z hz
                        · rw [List.mem_singleton.1 hz]
                          exact HNy.out
                      case measure => simp [intOf]; omega
                · obtain rfl : j = n := by omega
                  have hlt2 : ¬ (j : Int) < (j : Int) := by omega
                  go_wp2_with fail
                  go_round
                  case rel =>
                    refine ⟨k + 1, by omega, by go_num, Lib.hid fun z hz => ?_⟩
                    obtain ⟨e1, e2⟩ := List.getElem?_eq_some_iff.1 HT.out
                    rw [List.take_succ_eq_append_getElem e1, e2] at hz
                    rcases List.mem_append.1 hz with hz | hz
                    · exact HG.out z hz
                    · rw [List.mem_singleton.1 hz]
                      refine ⟨HX.out, fun y hy => HN.out y ?_⟩
                      rw [List.take_of_length_le (by rw [HX.out]; exact Nat.le_refl _)]
                      exact hy
                  case measure => simp [intOf]; omega
            · have hx' : ((x.length : Int) != (n : Int)) = true := by simp; omega
              clear hx
              go_wp2_with fail
              go_ret2
              exact Or.inl ⟨rfl, Below.refl _ _⟩
          · obtain rfl : k = m := by omega
            have hlt2 : ¬ (k : Int) < (k : Int) := by omega
            have HGd := Lib.hid (show Good n its from by have := HG.out; rw [List.take_of_length_le (by rw [HM.out]; exact Nat.le_refl _)] at this; exact this)
            have HOf := Lib.hid (OfOd_any n its Q k cq w (by omega) (by omega) HM.out (by omega) HQ.out HR.out HGd.out)
            go_wp2_with (go_at_call 21; refine HOf.out.mono ?_; rintro e w1 ⟨p, rfl, ho, hb⟩; have HO1 := Lib.hid ho; have HB1 := Lib.hid hb; clear ho hb)
            go_quiet (fail)
            go_wp2_with fail
            go_ret2
            have hd := bel_drewN (Below.refl w1.heap.size w1) 1
            exact Or.inr ⟨n, p, rfl, by omega, by omega, by omega, HGd.out, rfl, HO1.out.keep (bel_drewN (Below.refl _ _) _), HB1.out.andThen (bel_drewN (Below.refl _ _) _)⟩
end Go.Proofs.YtmonepclhbappaaDoor
/-
  The counts of ranks in memory: a map whose keys are structs of two ints; words for it.
-/
namespace Go.Proofs.YtmonepclhbappaaDoor
open Go.RowKit Go.Maps Go.WideMaps
set_option maxRecDepth 100000
set_option linter.unusedVariables false

theorem spot_wide : (match Tryd.prog.underlying 125 with | some (.array _ _) | some (.struct _) => true | _ => false) = true := by kernel_rfl
theorem spot_row : (125 : TypeId) < Tryd.prog.types.size := of_decide_eq_true (by kernel_rfl)
theorem spot_law : KeyLaw Tryd.prog 125 := deep_law_laid fr_laidOut (m := 2) (by omega) spot_row (by kernel_rfl) spot_wide
theorem spot_keyed : Keyed Tryd.prog 125 := Keyed.of_law spot_law
theorem spot_keyType : Tryd.prog.keyType 125 = true := by kernel_rfl
def i64ok (x : Int) : Prop := -9223372036854775808 ≤ x ∧ x ≤ 9223372036854775807
def kS (i a : Int) : Lit := .string (keyBytes [.int .i64 i, .int .i64 a])
theorem spot_size : ∃ m, Tryd.prog.types.size = m + 1 := by
  have h := spot_row
  generalize Tryd.prog.types.size = m at h
  cases m with
  | zero => exact absurd h (Nat.not_lt_zero _)
  | succ m => exact ⟨m, rfl⟩
theorem keyOf_spot {i a : Int} (hi : i64ok i) (ha : i64ok a) : keyOf Tryd.prog 125 (.agg #[.int .i64 i, .int .i64 a]) = some (kS i a) := by
  have wi := lit_i64 hi.1 hi.2
  have wa := lit_i64 ha.1 ha.2
  have hkt := spot_keyType
  obtain ⟨m, hm⟩ := spot_size
  have hu := Tryd.underlying125
  have hc : Tryd.prog.cellsOf 125 = 2 := by kernel_rfl
  have hi2 : Tryd.prog.cellsOf 3 = 1 := by kernel_rfl
  unfold keyOf
  simp only [hu]
  rw [if_pos (by simp [hkt, Value.formed, hu, hc]), hm]
  unfold Program.keyLits
  simp only [hu, Value.cells]
  rw [if_pos ⟨by rw [hc]; rfl, by simp⟩, List.mapM_cons, List.mapM_cons, List.mapM_nil]
  simp [hi2, Program.keyLits, wi, wa, kS]
theorem kS_inj {i a j b : Int} (hi : i64ok i) (ha : i64ok a) (hj : i64ok j) (hb : i64ok b) (h : kS i a = kS j b) : i = j ∧ a = b := by
  have := spot_law.inj (keyOf_spot hi ha) (h ▸ keyOf_spot hj hb)
  simpa using this

/-- Block b is a map of counts: what it answers at each number of a row. -/
def OnMap (w : World) (b n : Nat) (f : Int → Int → Int) : Prop := ∃ D, w.ownsMap Tryd.prog 125 rawR b n D ∧ ∀ i a, i64ok i → i64ok a → D.atKey (kS i a) (.held (.int .i64 0)) = .held (.int .i64 (f i a))
def updF (f : Int → Int → Int) (i a v : Int) : Int → Int → Int := fun j b => if j = i ∧ b = a then v else f j b
section
variable {w w' : World} {b n : Nat} {f : Int → Int → Int}
theorem OnMap.made (w : World) : OnMap (w.alloc (.map #[] 0)) w.heap.size 0 fun _ _ => 0 := ⟨_, World.ownsMap_made w Tryd.prog _ rawR, fun i a _ _ => rfl⟩
theorem OnMap.lt (h : OnMap w b n f) : b < w.heap.size := by
  obtain ⟨D, h1, _⟩ := h
  exact World.ownsMap.lt h1
theorem OnMap.keep (h : OnMap w b n f) (hb : Below w.heap.size w w') : OnMap w' b n f := by
  obtain ⟨D, h1, h2⟩ := h
  have hlt := World.ownsMap.lt h1
  obtain ⟨es', clock, h3, F, hs, hD⟩ := h1
  exact ⟨D, ⟨es', clock, (hb.block b hlt).trans h3, F, hs, hD⟩, h2⟩
theorem OnMap.isMap (h : OnMap w b n f) : NC w b := by
  obtain ⟨D, ⟨es', clock, h3, _⟩, _⟩ := h
  exact NC.of_map h3
end
section
variable (w : World) {ops : Array Oper} {rest : List Oper} {o : Oper} {a : Act} {Q : Exit → Act → World → Prop}
theorem wpList_lookS (hg : o.guard = none) (m x : Operand) (hop : o.op = Op.lookup 119 m x false) (b n : Nat) (f : Int → Int → Int) (hm : a.eval m = .map (some b)) (hown : OnMap w b n f) (i y : Int) (hx : a.eval x = .agg #[.int .i64 i, .int .i64 y]) (hi : i64ok i) (hy : i64ok y)
    (hK : wpList Tryd.prog ops Q rest (a.put o.dst (.int .i64 (f i y))) w) :
    wpList Tryd.prog ops Q (o :: rest) a w := by
  refine wpList_plain hg fun K' hK' => ?_
  obtain ⟨D, h1, h2⟩ := hown
  obtain ⟨v, ps, hrun, hv⟩ := World.ownsMap.lookup h1 spot_keyed Tryd.underlying119 (show (zeroValue 2).run Tryd.prog w = .ok (.int .i64 0) w from by kernel_rfl) (zd := .held (.int .i64 0)) (zp := []) rfl (keyOf_spot hi hy)
  rw [h2 i y hi hy] at hv
  obtain rfl : v = .int .i64 (f i y) := by
    have := (Prod.mk.inj (Option.some.inj hv)).1
    exact DataW.held.inj this
  unfold Oper.wp
  simp [execOp, hop, hm, hx, hrun, Result.andThen]
  exact hK' _ _ hK
theorem wpList_putS (hg : o.guard = none) (m x v : Operand) (hop : o.op = Op.mapUpdate 119 m x v) (b n : Nat) (f : Int → Int → Int) (hm : a.eval m = .map (some b)) (hown : OnMap w b n f) (hn : n < maxLen) (i y z : Int) (hx : a.eval x = .agg #[.int .i64 i, .int .i64 y]) (hv : a.eval v = .int .i64 z) (hi : i64ok i) (hy : i64ok y)
    (hK : ∀ w', OnMap w' b (n + 1) (updF f i y z) → w.grownBy w' (some b) → wpList Tryd.prog ops Q rest (a.put o.dst undef) w') :
    wpList Tryd.prog ops Q (o :: rest) a w := by
  obtain ⟨D, h1, h2⟩ := hown
  refine wpList_mapUpdate_own w hg m x v _ hop 125 2 spot_keyed Tryd.underlying119 rawR b n D hm h1 hn _ _ _ hx hv (keyOf_spot hi hy) (.held (.int .i64 z)) [] rfl fun w' hw' hgr => hK w' ⟨_, hw', fun j c hj hc => ?_⟩ hgr
  unfold updF
  by_cases h : j = i ∧ c = y
  · obtain ⟨rfl, rfl⟩ := h
    rw [if_pos ⟨rfl, rfl⟩, atKey_put_same (World.ownsMap.isMap h1) (spot_keyed.key (keyOf_spot hi hy))]
  · rw [if_neg h, atKey_put_other (fun e => h (kS_inj hj hc hi hy e)), h2 j c hj hc]
end
end Go.Proofs.YtmonepclhbappaaDoor
/-
  Odags: the contracts of Row and Links.
-/
namespace Go.Proofs.YtmonepclhbappaaDoor
open Go.RowKit Go.Maps Go.Sort Go.Shelf
set_option maxRecDepth 100000
set_option linter.unusedVariables false

def keysR_ren : Go.Shelf.Ren := ⟨fun | 7 => 93 | 10 => 106 | n => n, fun | 0 => 0 | 3 => 22 | 4 => 4 | 23 => 101 | 26 => 3 | 27 => 156 | 28 => 157 | 33 => 99 | n => n, fun | n => n⟩
theorem keysR_lays : Go.Proofs.SlLaysZI.n7 Tryd.prog keysR_ren := {
  mixed := by kernel_rfl
  f7 := ⟨Tryd.f93.name, by kernel_rfl, Tryd.func93.trans (congrArg some (by kernel_rfl))⟩
  f10 := ⟨Tryd.f106.name, by kernel_rfl, Tryd.func106.trans (congrArg some (by kernel_rfl))⟩
  t0 := Tryd.underlying0
  a0 := Tryd.isAgg0
  z0 := Tryd.sizeOf0
  v0 := Tryd.zeroValue0
  t4 := Tryd.underlying4
  a4 := Tryd.isAgg4
  z4 := Tryd.sizeOf4
  v4 := Tryd.zeroValue4
  t23 := Tryd.underlying101
  a23 := Tryd.isAgg101
  z23 := Tryd.sizeOf101
  v23 := Tryd.zeroValue101
  t26 := Tryd.underlying3
  a26 := Tryd.isAgg3
  z26 := Tryd.sizeOf3
  v26 := Tryd.zeroValue3
  t27 := Tryd.underlying156
  a27 := Tryd.isAgg156
  z27 := Tryd.sizeOf156
  v27 := Tryd.zeroValue156
  t28 := Tryd.underlying157
  a28 := Tryd.isAgg157
  z28 := Tryd.sizeOf157
  v28 := Tryd.zeroValue157
  t33 := Tryd.underlying99
  a33 := Tryd.isAgg99
  z33 := Tryd.sizeOf99
  v33 := Tryd.zeroValue99 }

def sortedR_ren : Go.Shelf.Ren := ⟨fun | 6 => 92 | 8 => 104 | 9 => 105 | 11 => 124 | n => n, fun | 0 => 0 | 24 => 22 | 26 => 3 | 28 => 157 | 33 => 99 | n => n, fun | n => n⟩
theorem sortedR_lays : Go.Proofs.SlLaysZI.n6 Tryd.prog sortedR_ren := {
  mixed := by kernel_rfl
  f6 := ⟨Tryd.f92.name, by kernel_rfl, Tryd.func92.trans (congrArg some (by kernel_rfl))⟩
  f8 := ⟨Tryd.f104.name, by kernel_rfl, Tryd.func104.trans (congrArg some (by kernel_rfl))⟩
  f11 := ⟨Tryd.f124.name, by kernel_rfl, Tryd.func124.trans (congrArg some (by kernel_rfl))⟩
  t0 := Tryd.underlying0
  a0 := Tryd.isAgg0
  z0 := Tryd.sizeOf0
  v0 := Tryd.zeroValue0
  t24 := Tryd.underlying22
  a24 := Tryd.isAgg22
  z24 := Tryd.sizeOf22
  v24 := Tryd.zeroValue22
  t26 := Tryd.underlying3
  a26 := Tryd.isAgg3
  z26 := Tryd.sizeOf3
  v26 := Tryd.zeroValue3
  t28 := Tryd.underlying157
  a28 := Tryd.isAgg157
  z28 := Tryd.sizeOf157
  v28 := Tryd.zeroValue157
  i26 := by kernel_rfl }

theorem sorts_in (m : Nat) : AnyZI.SortsIn Tryd.prog sortedR_ren Fence.wide m :=
  ⟨fun blk off cap ss W hH hblk hsz => callsIn_wide.2 (Any.slices_Sort_int sort_lays blk off cap ss W hH hblk hsz),
   fun p cap W => callsIn_wide.2 ((Any.slices_Sort_int_none sort_lays p cap W).mono fun e w' h => ⟨h.1, h.2⟩)⟩
theorem keys_asD (es : List (Int × Value)) : intKeys (asD es) = es.map (·.1) := by
  show (es.map enK).map (fun p => Go.intOf p.1) = _
  rw [List.map_map]
  rfl
theorem sort_of_perm {ss l : List Int} (hp : ss.Perm l) (hl : l.Pairwise (· < ·)) : (ss.mergeSort fun x y => decide (x ≤ y)) = l := by
  have h1 : (ss.mergeSort fun x y => decide (x ≤ y)).Pairwise (fun x y => decide (x ≤ y) = true) := List.pairwise_mergeSort (fun a b c => by simp; omega) (fun a b => by simp; omega) ss
  have h2 : (ss.mergeSort fun x y => decide (x ≤ y)).Perm l := (List.mergeSort_perm ss _).trans hp
  have h3 : l.Nodup := hl.imp fun {a b} h e => by subst e; omega
  have h4 := h2.nodup_iff.2 h3
  refine inc_ext ?_ hl (fun y => h2.mem_iff)
  refine (h1.and h4).imp fun {a b} h => ?_
  have h5 : a ≤ b := of_decide_eq_true h.1
  have h6 : a ≠ b := h.2
  omega
set_option maxHeartbeats 1000000 in
theorem SortedKeys_any (b : Nat) (r : Rw) (w : World) (hr : MRow w b r) (hrl : r.length ≤ 1000000) :
    Calls Tryd.prog 92 #[.func (.func 106) #[] #[.pointer (some ⟨w.heap.size, 0, none⟩)]] (w.alloc (.cells #[.map (some b)] 101)) fun e w' => ∃ v, e = .returned v ∧ w'.ownsRow w.heap.size 3 1 v r.length ((r.map (·.1)).map (Value.int .i64)) ∧ Below w.heap.size w w' := by
  have hal := bel_al (Below.refl w.heap.size w) (.cells #[.map (some b)] 101)
  have hr1 := hr.keep hal
  have hinc := hr.incr
  obtain ⟨m, rfl, hM, _⟩ := hr1
  have hinc' : ((m.map pl).map (·.1)).Pairwise (· < ·) := List.pairwise_map.2 hinc
  have hkeys : intKeys (asD (m.map mv)) = (m.map pl).map (·.1) := by
    rw [keys_asD, List.map_map, List.map_map]
    rfl
  have hsz : Maps.size (asD (m.map mv)) = m.length := by unfold asD; rw [Maps.size_eq, List.length_map, List.length_map]
  rw [List.length_map] at hrl
  have hseq : SeqGives Fence.wide 2 Tryd.prog 106 #[.pointer (some ⟨w.heap.size, 0, none⟩)] encZ (fun ss => ss.Perm (intKeys (asD (m.map mv)))) (Maps.size (asD (m.map mv))) (w.alloc (.cells #[.map (some b)] 101)) :=
    AnyZI.keys_gives (ρ := keysR_ren) { keysR_lays with } Fence.wide _ trivial rfl (by omega) w.heap.size b _ _ _ (by simp) (by simp) hM
  have cS := AnyZI.sorted_in sortedR_lays Fence.wide 5 trivial trivial trivial trivial rfl (by omega) (sorts_in _) (enters_of Tryd.func105 (by kernel_rfl) rfl) 106 #[.pointer (some ⟨w.heap.size, 0, none⟩)] trivial (enters_of Tryd.func106 (by kernel_rfl) rfl) _ _ (by rw [hsz]; unfold maxLen; omega) (by rw [hsz]; omega) _ hseq
  refine ((callsIn_wide (n := 5)).1 cS).mono fun e w' ⟨v, ss, h1, h2, h3, _, h5⟩ => ⟨v, h1, ?_, hal.andThen h5⟩
  rw [hkeys] at h2
  rw [sort_of_perm h2 hinc', h2.length_eq, List.length_map] at h3
  exact own_mono h3 (by simp)
theorem Keys_any (b : Nat) (W : World) : Calls Tryd.prog 93 #[.map (some b)] W fun e w' => e = .returned (.func (.func 106) #[] #[.pointer (some ⟨W.heap.size, 0, none⟩)]) ∧ w' = W.alloc (.cells #[.map (some b)] 101) :=
  (callsIn_wide (n := 5)).1 (AnyZI.keys_in keysR_lays Fence.wide 5 trivial rfl (some b) W)

def keysAt (od : List Rw) (i : Int) : List Int := if 0 ≤ i ∧ i < (od.length : Int) then (od.getD i.toNat []).map (·.1) else []
def linksAt (od : List Rw) (i a : Int) : List Int := if 0 ≤ i ∧ i < (od.length : Int) then lkR (od.getD i.toNat []) a else []
theorem OdM.row {w : World} {p : Nat} {od : List Rw} (h : OdM w p od) {i : Nat} (hi : i < od.length) : ∃ (rb ro n c b : Nat), n = od.length ∧ w.cell? ⟨p, 0, none⟩ = some (.slice (some ⟨rb, ro, none⟩) n c) ∧ n ≤ c ∧ w.cell? ⟨rb, ro + i, none⟩ = some (.map (some b)) ∧ MRow w b (od.getD i []) := by
  obtain ⟨R, n, c, bs, h1, h2, h3, h4, h5, h6, h7⟩ := h
  obtain ⟨rb, ro, rfl, _⟩ := h5.at_ (show 0 < n by omega)
  obtain ⟨b, hb⟩ : ∃ b, bs[i]? = some b := ⟨_, List.getElem?_eq_getElem (by omega)⟩
  have c0 := h1.cell 0
  simp at c0
  refine ⟨rb, ro, n, c, b, h2.symm, c0, h4, h5.again (by omega) (show (bs.map fun b => Value.map (some b))[i]? = some (.map (some b)) by rw [List.getElem?_map, hb]; rfl), ?_⟩
  rw [List.getD_eq_getElem?_getD, List.getElem?_eq_getElem hi]
  exact h7 i b _ hb (List.getElem?_eq_getElem hi)

set_option maxHeartbeats 4000000 in
theorem OdRow_any (p : Nat) (od : List Rw) (i : Int) (w : World) (h : OdM w p od) (hB : OdB 1000000 od) (h8 : od.length ≤ 100) : Calls Tryd.prog 62 #[.pointer (some ⟨p, 0, none⟩), .int .i64 i] w fun e w' => ∃ v, e = .returned v ∧ w'.ownsRow w.heap.size 3 1 v (keysAt od i).length ((keysAt od i).map (Value.int .i64)) ∧ Below w.heap.size w w' := by
  have HLn := Lib.hid (OdLen_any p od w h)
  by_cases hi0 : i < 0
  · have HE := Lib.hid (show keysAt od i = [] from if_neg (by omega))
    rw [HE.out]
    clear h hB
    go_enter Tryd.func62, Tryd.ntmps62
    go_wp2_with fail
    go_ret
    exact ⟨_, rfl, World.ownsRow_nil _ _ _ _, Below.refl _ _⟩
  · by_cases hin : i < (od.length : Int)
    · obtain ⟨k, rfl⟩ : ∃ k : Nat, i = (k : Int) := ⟨i.toNat, by omega⟩
      have hk : k < od.length := by omega
      obtain ⟨rb, ro, n, c, b, hn, c0, hnc, c1, hrow⟩ := h.row hk
      have hE : keysAt od (k : Int) = (od.getD k []).map (·.1) := if_pos (by omega)
      have hrB : (od.getD k []).length ≤ 1000000 := (hB _ (by rw [List.getD_eq_getElem?_getD, List.getElem?_eq_getElem hk]; exact List.getElem_mem hk)).1
      rw [hE]
      have HSo := Lib.hid (SortedKeys_any b (od.getD k []) w hrow hrB)
      obtain ⟨ks, hks⟩ : ∃ ks, ks = (od.getD k []).map (·.1) := ⟨_, rfl⟩
      have hkl : ks.length = (od.getD k []).length := by rw [hks, List.length_map]
      rw [← hks, ← hkl] at HSo
      rw [← hks]
      rw [← hn] at HLn
      have hkn : (k : Int) < (n : Int) := by omega
      have hkn' : ¬ (n : Int) ≤ (k : Int) := by omega
      clear h hB hrow hE hrB hks hkl hn hin hi0 hk
      go_enter Tryd.func62, Tryd.ntmps62
      go_wp2_with (first
        | (go_at_call 52; refine HLn.out.mono ?_; rintro e w' ⟨rfl, rfl⟩)
        | (go_at_call 93; refine (Keys_any b _).mono ?_; rintro e w1 ⟨rfl, rfl⟩)
        | (go_at_call 92; refine HSo.out.mono ?_; rintro e w2 ⟨v, rfl, hown, hb⟩; have HO := Lib.hid hown; have HB := Lib.hid hb; clear hown hb))
      go_ret
      exact ⟨_, rfl, HO.out, HB.out⟩
    · have HE := Lib.hid (show keysAt od i = [] from if_neg (by omega))
      rw [HE.out]
      obtain ⟨n, hn⟩ : ∃ n, n = od.length := ⟨_, rfl⟩
      rw [← hn] at HLn hin
      have hin' : (n : Int) ≤ i := by omega
      clear h hB hn hin
      go_enter Tryd.func62, Tryd.ntmps62
      go_wp2_with (go_at_call 52; refine HLn.out.mono ?_; rintro e w' ⟨rfl, rfl⟩)
      go_ret
      exact ⟨_, rfl, World.ownsRow_nil _ _ _ _, Below.refl _ _⟩
end Go.Proofs.YtmonepclhbappaaDoor
/-
  Odags: the contract of Links; no odag at all.
-/
namespace Go.Proofs.YtmonepclhbappaaDoor
open Go.RowKit Go.Maps
set_option maxRecDepth 100000
set_option linter.unusedVariables false

set_option maxHeartbeats 4000000 in
theorem OdLinks_any (p : Nat) (od : List Rw) (i a : Int) (w : World) (h : OdM w p od) (hB : OdB 1000000 od) (h8 : od.length ≤ 100) (ha : -9223372036854775808 ≤ a ∧ a ≤ 9223372036854775807) : Calls Tryd.prog 68 #[.pointer (some ⟨p, 0, none⟩), .int .i64 i, .int .i64 a] w fun e w' => ∃ v, e = .returned v ∧ w'.ownsRow w.heap.size 3 1 v (linksAt od i a).length ((linksAt od i a).map (Value.int .i64)) ∧ Below w.heap.size w w' := by
  have HLn := Lib.hid (OdLen_any p od w h)
  by_cases hi0 : i < 0
  · have HE := Lib.hid (show linksAt od i a = [] from if_neg (by omega))
    rw [HE.out]
    clear h hB
    go_enter Tryd.func68, Tryd.ntmps68
    go_wp2_with fail
    go_ret
    exact ⟨_, rfl, World.ownsRow_nil _ _ _ _, Below.refl _ _⟩
  · by_cases hin : i < (od.length : Int)
    · obtain ⟨k, rfl⟩ : ∃ k : Nat, i = (k : Int) := ⟨i.toNat, by omega⟩
      have hk : k < od.length := by omega
      obtain ⟨rb, ro, n, c, b, hn, c0, hnc, c1, hrow⟩ := h.row hk
      have hE : linksAt od (k : Int) a = lkR (od.getD k []) a := if_pos (by omega)
      have hrB := hB _ (show od.getD k [] ∈ od by rw [List.getD_eq_getElem?_getD, List.getElem?_eq_getElem hk]; exact List.getElem_mem hk)
      rw [hE]
      have HLB := Lib.hid (lkR_B hrB a)
      have HRow := Lib.hid hrow
      have HA := Lib.hid ha
      rw [← hn] at HLn
      have hkn : (k : Int) < (n : Int) := by omega
      have hkn' : ¬ (n : Int) ≤ (k : Int) := by omega
      clear h hB hrow hE hrB hn hin hi0 hk ha
      go_enter Tryd.func68, Tryd.ntmps68
      go_wp2_with (first
        | (go_at_call 52; refine HLn.out.mono ?_; rintro e w' ⟨rfl, rfl⟩)
        | (go_at_call 76; refine HCl.out.mono ?_; rintro e w2 ⟨v, rfl, hown, hb⟩; have HO := Lib.hid hown; have HB := Lib.hid hb; clear hown hb)
        | (refine wpList_lookR _ rfl _ _ rfl b _ (by go_simp) HRow.out a (by go_simp) HA.out.1 HA.out.2 ?_; intro A c' l hrl hl; have HCl := Lib.hid (CloneI_own l A l.length c' _ rfl (by rw [hl]; exact Nat.le_trans HLB.out (by decide)) hrl.1); have HL := Lib.hid hl; clear hrl hl))
      go_ret
      rw [← HL.out]
      exact ⟨_, rfl, HO.out, HB.out⟩
    · have HE := Lib.hid (show linksAt od i a = [] from if_neg (by omega))
      rw [HE.out]
      obtain ⟨n, hn⟩ : ∃ n, n = od.length := ⟨_, rfl⟩
      rw [← hn] at HLn hin
      have hin' : (n : Int) ≤ i := by omega
      clear h hB hn hin
      go_enter Tryd.func68, Tryd.ntmps68
      go_wp2_with (go_at_call 52; refine HLn.out.mono ?_; rintro e w' ⟨rfl, rfl⟩)
      go_ret
      exact ⟨_, rfl, World.ownsRow_nil _ _ _ _, Below.refl _ _⟩
end Go.Proofs.YtmonepclhbappaaDoor
/-
  Chains of errors: errors.As at *api.Fault, errors.Is at a fault, errors.Unwrap, and the fault package's functions over whole chains.
-/
namespace Go.Proofs.YtmonepclhbappaaDoor
open Go.RowKit Go.Extern.Stop Go.Stop Go.Extern

def Err.depth : Err → Nat
  | .step _ e => e.depth + 1
  | _ => 0
def Err.flt? : Err → Option (Int × Int × ByteArray)
  | .flt c a s => some (c, a, s)
  | .step _ e => e.flt?
  | _ => none
theorem Err.code_of : ∀ (E : Err), E ≠ .nil → (∀ w v, E.At w v → E.code = match E.flt? with | some (c, _, _) => c | none => -1)
  | .nil, h, _, _, _ => absurd rfl h
  | .flt _ _ _, _, _, _, _ => rfl
  | .txt _, _, _, _, _ => rfl
theorem Err.at_of : ∀ (E : Err), E.at_ = match E.flt? with | some (_, a, _) => a | none => 0
  | .nil => rfl
  | .flt _ _ _ => rfl
  | .txt _ => rfl
  | .step _ e => Err.at_of e


/-- What errors.as leaves: the target is set to the chain's first fault; or the chain has none. -/
def AsPost (E : Err) (w0 w1 : World) (t : Addr) (ev : Ending) (w' : World) : Prop :=
  (∃ c a s g, E.flt? = some (c, a, s) ∧ ev = .returned (.bool true) ∧ Blk w0 g 131 #[.int .i64 c, .int .i64 a, .string s] ∧ (w1.alloc (.cells #[.pointer (some ⟨g, 0, none⟩)] 128)).setCell t (.pointer (some ⟨g, 0, none⟩)) = w') ∨
  (E.flt? = none ∧ ev = .returned (.bool false) ∧ w1 = w')

theorem Err.At.iface_ {w : World} {E : Err} {v : Value} (h : E.At w v) (hne : E ≠ .nil) : ∃ T x, v = .iface T x := by
  cases E with
  | nil => exact absurd rfl hne
  | flt c a s => obtain ⟨g, rfl, _⟩ := h; exact ⟨_, _, rfl⟩
  | step w e => exact h.elim
  | txt s => exact h.elim

end Go.Proofs.YtmonepclhbappaaDoor
/-
  The fault package over whole chains: errors.As, fault.fault, fault.Code, fault.At.
-/
namespace Go.Proofs.YtmonepclhbappaaDoor
open Go.RowKit Go.Extern.Stop Go.Stop Go.Extern

/-- What errors.As leaves, its target the one cell t. -/
def AsDone (E : Err) (w0 w : World) (t : Addr) (old : Value) (ev : Ending) (w' : World) : Prop :=
  Below t.block w w' ∧
  ((∃ c a s g, E.flt? = some (c, a, s) ∧ ev = .returned (.bool true) ∧ Blk w0 g 131 #[.int .i64 c, .int .i64 a, .string s] ∧ w'.cell? t = some (.pointer (some ⟨g, 0, none⟩))) ∨
   (E.flt? = none ∧ ev = .returned (.bool false) ∧ w'.cell? t = some old))

/-- fault.fault: a pointer to the chain's first fault, or none. -/
def FaultPost (E : Err) (w : World) (ev : Ending) (w' : World) : Prop :=
  Below w.heap.size w w' ∧
  ((∃ c a s g, E.flt? = some (c, a, s) ∧ ev = .returned (.pointer (some ⟨g, 0, none⟩)) ∧ Blk w' g 131 #[.int .i64 c, .int .i64 a, .string s]) ∨ (E.flt? = none ∧ ev = .returned (.pointer none)))

end Go.Proofs.YtmonepclhbappaaDoor
