/-
  Odags: contracts of slices.ContainsFunc as Of calls it, and of Of.
-/
import Derived.Deep.RegionHeld3
import Derived.Test.YtmonepclhbappaaDoorOdA
import Derived.Test.YtmonepclhbappaaDoorOdP
namespace Go.Proofs.YtmonepclhbappaaDoor
open Go.RowKit Go.Maps
set_option maxRecDepth 100000
set_option linter.unusedVariables false

/-- Numbers that may stand in an odag. -/
def numOK (x : Int) : Prop := 0 ≤ x ∧ x ≤ 2147483647
theorem Of1_ok (x : Int) (w : World) (h : numOK x) : Calls Tryd.prog 55 #[.int .i64 x] w fun e w' => e = .returned (.bool false) ∧ w = w' := by
  have h1 : ¬ x < 0 := by have := h.1; omega
  have h2 : ¬ 2147483647 < x := by have := h.2; omega
  clear h
  go_enter Tryd.func55, Tryd.ntmps55
  go_wp2_with fail
  go_ret
  exact ⟨rfl, rfl⟩
set_option maxHeartbeats 2000000 in
theorem IndexF_ok (l : List Int) (A : Option Addr) (n c : Nat) (w : World) (hl : l.length = n) (hn : n ≤ 1000000) (hs : Sl w 1 A n (l.map (Value.int .i64))) (hx : ∀ x ∈ l, numOK x) :
    Calls Tryd.prog 85 #[.slice A n c, .func (.func 55) #[] #[]] w fun e w' => e = .returned (.int .i64 (-1)) ∧ w = w' := by
  have HS := Lib.hid hs
  have HL := Lib.hid hl
  have HX := Lib.hid hx
  clear hs hl hx
  go_enter Tryd.func85, Tryd.ntmps85
  go_wp2_with fail
  go_loop [8] (fun i => ∃ k : Nat, k ≤ n ∧ i = .int .i64 k) (fun i => n - (intOf i).toNat)
  case atStart => exact ⟨0, Nat.zero_le _, rfl⟩
  case round =>
    obtain ⟨k, hk, rfl⟩ := hrel
    by_cases hlt : k < n
    · have hlt' : (k : Int) < (n : Int) := by omega
      obtain ⟨x, hx⟩ : ∃ x, l[k]? = some x := ⟨_, List.getElem?_eq_getElem (by rw [HL.out]; exact hlt)⟩
      obtain ⟨b1, off1, rfl, _⟩ := HS.out.at_ (show 0 < n by omega)
      have c1 := HS.out.again hlt (show (l.map (Value.int .i64))[k]? = some (.int .i64 x) by rw [List.getElem?_map, hx]; rfl)
      have HXx := Lib.hid (HX.out x (List.mem_of_getElem? hx))
      clear hx
      go_wp2_with (go_at_call 55; refine (Of1_ok x _ HXx.out).mono ?_; rintro e w' ⟨rfl, rfl⟩)
      go_round
      case rel => exact ⟨k + 1, by omega, by go_num⟩
      case measure => simp [intOf]; omega
    · obtain rfl : k = n := by omega
      have hlt' : ¬ (k : Int) < (k : Int) := by omega
      go_wp2_with fail
      go_ret
      exact ⟨rfl, rfl⟩
theorem ContainsF_ok (l : List Int) (A : Option Addr) (n c : Nat) (w : World) (hl : l.length = n) (hn : n ≤ 1000000) (hs : Sl w 1 A n (l.map (Value.int .i64))) (hx : ∀ x ∈ l, numOK x) :
    Calls Tryd.prog 54 #[.slice A n c, .func (.func 55) #[] #[]] w fun e w' => e = .returned (.bool false) ∧ w = w' := by
  have HC := Lib.hid (IndexF_ok l A n c w hl hn hs hx)
  clear hl hs hx
  go_enter Tryd.func54, Tryd.ntmps54
  go_wp2_with (go_at_call 85; refine HC.out.mono ?_; rintro e w' ⟨rfl, rfl⟩)
  go_ret
  exact ⟨rfl, rfl⟩

/-- One number of a list laid in: the odag behind it. -/
theorem OdC.put {w w' : World} {p : Nat} {od : List Rw} {R : Option Addr} {n c : Nat} {bs : List Nat} {i b : Nat} {r : Rw} (h : OdC w p od R n c bs) (hi : bs[i]? = some b) (hm : NC w b) (hg : w.grownBy w' (some b)) (hr : MRow w' b r) : OdC w' p (od.set i r) R n c bs := by
  obtain ⟨h1, h2, h3, h4, h5, h6, h7⟩ := h
  refine ⟨h1.turned hm hg, by rw [List.length_set]; exact h2, h3, h4, h5.turned hm hg, h6, fun j b' r' hb' hr' => ?_⟩
  by_cases hji : i = j
  · subst hji
    rw [hi] at hb'
    obtain rfl := Option.some.inj hb'
    have hlt : i < od.length := by rw [h2, ← h3]; exact (List.getElem?_eq_some_iff.1 hi).1
    rw [List.getElem?_set_self hlt] at hr'
    obtain rfl := Option.some.inj hr'
    exact hr
  · rw [List.getElem?_set_ne hji] at hr'
    refine (h7 j b' r' hb' hr').other hm hg (fun e => hji ?_)
    subst e
    exact (List.getElem?_inj (by rw [h3]; have := (List.getElem?_eq_some_iff.1 hi).1; omega) h6).1 (hi.trans hb'.symm)
theorem OdC.keep {w w' : World} {p : Nat} {od : List Rw} {R : Option Addr} {n c : Nat} {bs : List Nat} (h : OdC w p od R n c bs) (hb : Below w.heap.size w w') : OdC w' p od R n c bs := by
  obtain ⟨h1, h2, h3, h4, h5, h6, h7⟩ := h
  exact ⟨h1.keep hb, h2, h3, h4, h5.keep hb, h6, fun i b r hb' hr => (h7 i b r hb' hr).keep hb⟩
/-- The call of put at place j. -/
theorem Put_at {B : Nat} {w0 w : World} {p j b m d : Nat} {od : List Rw} {R B' : Option Addr} {n c : Nat} {bs : List Nat} {x : List Int} (h : OdC w p od R n c bs) (hj : bs[j]? = some b) (hB : OdB 60000 od) (ha : numOK (x.getD j 0)) (hL : RowOK w (B', d, nxt x j)) (hm : (nxt x j).length = m)
    (hb0 : Below B w0 w) (hbB : B ≤ b) (hBw : B ≤ w0.heap.size) :
    Calls Tryd.prog 56 #[.map (some b), .int .i64 (x.getD j 0), .slice B' m d] w.drew fun e w' => e = .returned (.tuple #[]) ∧ OdC w' p (od.set j (stepR (od.getD j []) (x.getD j 0) (nxt x j))) R n c bs ∧ Below B w0 w' := by
  have hlt : j < od.length := by rw [h.2.1, ← h.2.2.1]; exact (List.getElem?_eq_some_iff.1 hj).1
  have hr := h.2.2.2.2.2.2 j b _ hj (List.getElem?_eq_getElem hlt)
  have hrB := hB _ (List.getElem_mem hlt)
  have hd := bel_drewN (Below.refl w.heap.size w) 1
  refine (put_any b od[j] (x.getD j 0) B' m d (nxt x j) w.drew (hr.keep hd) (Nat.le_trans hrB.1 (by omega)) (fun q hq => Nat.le_trans (hrB.2 q hq) (by omega)) ⟨by have := ha.1; omega, by have := ha.2; omega⟩ (hL.keep hd) hm (by have := nxt_len x j; omega)).mono fun e w' ⟨h1, h2, h3⟩ => ?_
  have hg : w.grownBy w' (some b) := gb_then hd h3
  have e1 : od.getD j [] = od[j] := by rw [List.getD_eq_getElem?_getD, List.getElem?_eq_getElem hlt]; rfl
  refine ⟨h1, ?_, bel_turn hb0 hg hbB (Nat.le_trans hBw hb0.size)⟩
  rw [e1]
  exact h.put hj hr.isMap hg h2

/-- Lists that may be laid into an odag of length n. -/
def Good (n : Nat) (its : List (Option Addr × Nat × List Int)) : Prop := ∀ t ∈ its, t.2.2.length = n ∧ ∀ x ∈ t.2.2, numOK x

set_option maxHeartbeats 16000000 in
theorem OfOd_any (n : Nat) (its : List (Option Addr × Nat × List Int)) (Q : Option Addr) (m cq : Nat) (w : World) (h1 : 1 ≤ n) (h8 : n ≤ 8) (hm : its.length = m) (hm5 : m ≤ 50000) (hq : Sl w 1 Q m (its.map rv)) (hr : AllRows w its) (hgood : Good n its) :
    Calls Tryd.prog 21 #[.int .i64 (n : Int), .slice Q m cq] w fun e w' => ∃ p, e = .returned (.tuple #[.pointer (some ⟨p, 0, none⟩), .nilIface]) ∧ OdM w' p (odOf n (its.map (·.2.2))) ∧ Below w.heap.size w w' := by
  have HQ := Lib.hid hq
  have HR := Lib.hid hr
  have HG := Lib.hid hgood
  have HM := Lib.hid hm
  clear hq hr hgood hm
  go_enter Tryd.func21, Tryd.ntmps21
  go_wp2_with (go_at_call 53; refine (fresh_any n w h1 h8).mono ?_; rintro e w1 ⟨p, rfl, ho, hb⟩; have HO1 := Lib.hid ho; have HB1 := Lib.hid hb; clear ho hb)
  go_loopw [22] (fun iv wr => ∃ k : Nat, k ≤ m ∧ iv = .int .i64 k ∧ Hid (OdN w.heap.size wr p (odOf n ((its.take k).map (·.2.2)))) ∧ Hid (Below w.heap.size w wr)) (fun iv _ => m - (intOf iv).toNat)
  case atStart => exact ⟨0, Nat.zero_le _, rfl, HO1, HB1⟩
  case round =>
    obtain ⟨k, hk, rfl, HO, HB⟩ := hrel
    by_cases hlt : k < m
    · have hlt' : (k : Int) < (m : Int) := by omega
      obtain ⟨t, ht⟩ : ∃ t, its[k]? = some t := ⟨_, List.getElem?_eq_getElem (by rw [HM.out]; exact hlt)⟩
      obtain ⟨A, c, x⟩ := t
      have HT := Lib.hid ht
      have hmem := List.mem_of_getElem? ht
      have hx := HG.out _ hmem
      have hrow := (HR.out _ hmem).keep HB.out
      obtain ⟨qb, qo, rfl, _⟩ := HQ.out.at_ (show 0 < m by omega)
      have c1 := (HQ.out.keep HB.out).again hlt (show (its.map rv)[k]? = some (.slice A x.length c) by rw [List.getElem?_map, ht]; rfl)
      have HX := Lib.hid hx.2
      have HMem := Lib.hid hmem
      have hxl : x.length = n := hx.1
      rw [hxl] at c1
      have HXl := Lib.hid hxl
      have HCF := Lib.hid (ContainsF_ok x A n c wr hxl (by omega) (by have := hrow.1; simp only at this; rw [hxl] at this; exact this) hx.2)
      clear ht hmem hx hrow hxl
      go_wp2_with (go_at_call 54; refine HCF.out.mono ?_; rintro e w' ⟨rfl, rfl⟩)
      clear HCF
      have HOB := Lib.hid (show OdB 50000 (odOf n ((its.take k).map (·.2.2))) from fun r hr => (odOf_B n _ r hr).mono (by rw [List.length_map, List.length_take, HM.out]; omega))
      go_loopw [39] (fun jv wr => ∃ j : Nat, j ≤ n ∧ jv = .int .i64 j ∧ Hid (OdN w.heap.size wr p (putTo (odOf n ((its.take k).map (·.2.2))) x j)) ∧ Hid (Below w.heap.size w wr)) (fun jv _ => n - (intOf jv).toNat)
      case atStart => exact ⟨0, Nat.zero_le _, rfl, HO, HB⟩
      case round =>
        obtain ⟨j, hj, rfl, HOj, HBj⟩ := hrel
        by_cases hjn : j < n
        · have hjn' : (j : Int) < (n : Int) := by omega
          obtain ⟨R, n', cc, bs, hC, hbs⟩ := HOj.out
          obtain ⟨b, hb⟩ : ∃ b, bs[j]? = some b := ⟨_, List.getElem?_eq_getElem (by rw [hC.2.2.1, ← hC.2.1, putTo_len, odOf_len]; exact hjn)⟩
          have hn' : n' = n := by rw [← hC.2.1, putTo_len, odOf_len]
          subst hn'
          obtain ⟨a, ha⟩ : ∃ a, x[j]? = some a := ⟨_, List.getElem?_eq_getElem (by rw [HXl.out]; exact hjn)⟩
          have hgd : x.getD j 0 = a := by rw [List.getD_eq_getElem?_getD, ha]; rfl
          have hrj := (HR.out _ HMem.out).keep HBj.out
          have hsj : Sl wr 1 A n' (x.map (Value.int .i64)) := by have := hrj.1; simp only at this; rw [HXl.out] at this; exact this
          have hcj : n' ≤ c ∧ c ≤ 9223372036854775807 := by have := hrj.2; simp only at this; rw [HXl.out] at this; exact this
          obtain ⟨ab, ao, rfl, _⟩ := hsj.at_ (show 0 < n' by omega)
          have c1 := hsj.again hjn (show (x.map (Value.int .i64))[j]? = some (.int .i64 a) by rw [List.getElem?_map, ha]; rfl)
          obtain ⟨rb, ro, rfl, _⟩ := hC.2.2.2.2.1.at_ (show 0 < n' by omega)
          have c2 := hC.2.2.2.2.1.again hjn (show (bs.map fun b => Value.map (some b))[j]? = some (.map (some b)) by rw [List.getElem?_map, hb]; rfl)
          have c3 := hC.1.cell 0
          simp at c3
          have hxok : numOK (x.getD j 0) := by rw [hgd]; exact HX.out a (List.mem_of_getElem? ha)
          have hbB := hbs b (List.mem_of_getElem? hb)
          have HPut := Lib.hid (fun (B' : Option Addr) (m' d : Nat) (hL : RowOK wr (B', d, nxt x j)) (hm' : (nxt x j).length = m') => Put_at hC hb (fun r hr => (putTo_B HOB.out x j r hr).mono (by omega)) hxok hL hm' HBj.out hbB (Nat.le_refl _))
          rw [hgd] at HPut
          have HGd := Lib.hid hgd
          have HBs := Lib.hid hbs
          have HA := Lib.hid ha
          have HSj := Lib.hid hsj
          have HCj := Lib.hid hC
          have HK := Lib.hid (show ∀ (od2 : List Rw) W, OdC W p od2 (some ⟨rb, ro, none⟩) n' cc bs → W.cell? ⟨p, 0, none⟩ = some (.slice (some ⟨rb, ro, none⟩) n' cc) ∧ W.cell? ⟨rb, ro + j, none⟩ = some (.map (some b)) from fun od2 W hW => by
            have q := hW.1.cell 0
            simp at q
            exact ⟨q, hW.2.2.2.2.1.again hjn (show (bs.map fun b => Value.map (some b))[j]? = some (.map (some b)) by rw [List.getElem?_map, hb]; rfl)⟩)
          clear ha hgd hrj hsj hC hbs hb hxok hbB
          have hw1 : IntKind.i64.wrap ((j : Int) + 1) = (j : Int) + 1 := by rw [IntKind.wrap_i64]; omega
          have hw2 : IntKind.i64.wrap ((j : Int) + 2) = (j : Int) + 2 := by rw [IntKind.wrap_i64]; omega
          have ht1 : ((j : Int) + 1).toNat = j + 1 := by omega
          have ht2 : ((j : Int) + 2).toNat = j + 2 := by omega
          have hcc : (n' : Int) ≤ (c : Int) := by omega
          by_cases hj1 : j + 1 < n'
          · have hmin : min ((j : Int) + 2) (n' : Int) = (j : Int) + 2 := by omega
            have hmn2 : ¬ (n' : Int) < (j : Int) + 2 := by omega
            have g1 : (0 : Int) ≤ (j : Int) + 1 := by omega
            have g2 : (j : Int) + 1 ≤ (j : Int) + 2 := by omega
            have g3 : (j : Int) + 2 ≤ (c : Int) := by omega
            have g4 : ¬ c = j + 1 := by omega
            have HLen := Lib.hid (show (nxt x j).length = 1 from by unfold nxt; rw [List.length_take, List.length_drop, HXl.out]; omega)
            have HRow := Lib.hid (show RowOK wr (some ⟨ab, ao + (j + 1), none⟩, c - (j + 1), nxt x j) from by
              refine ⟨?_, by simp only; rw [HLen.out]; omega, by simp only; omega⟩
              simp only
              rw [HLen.out]
              have h := (HSj.out.drop (k := j + 1) (by omega)).take (k := 1) (by omega)
              unfold nxt
              rw [List.map_take, List.map_drop]
              exact h)
            go_wp2_with fail
            go_region_held3 (fun w' => w'.cell? ⟨p, 0, none⟩ = some (.slice (some ⟨rb, ro, none⟩) n' cc) ∧ w'.cell? ⟨rb, ro + j, none⟩ = some (.map (some b))) (go_keep)
              ((go_at_call 56; refine (HPut.out (some ⟨ab, ao + (j + 1), none⟩) 1 (c - (j + 1)) HRow.out HLen.out).mono ?_; rintro e' w3 ⟨rfl, ho, hb3⟩; have zz := HK.out _ _ ho; have HO3 := Lib.hid ho; have HB3 := Lib.hid hb3; clear ho hb3))
            go_wp2_with fail
            go_roundw
            case rel => exact ⟨j + 1, by omega, by go_num, Lib.hid ⟨_, _, _, _, by have h := HO3.out; rw [← HGd.out] at h; exact h, HBs.out⟩, HB3⟩
            case measure => simp [intOf]; omega
          · have hmin : min ((j : Int) + 2) (n' : Int) = (n' : Int) := by omega
            have hmn2 : (n' : Int) < (j : Int) + 2 := by omega
            have g1 : (0 : Int) ≤ (j : Int) + 1 := by omega
            have g2 : (j : Int) + 1 ≤ (n' : Int) := by omega
            have hz : n' - (j + 1) = 0 := by omega
            have HLen := Lib.hid (show (nxt x j).length = 0 from by unfold nxt; rw [List.length_take, List.length_drop, HXl.out]; omega)
            have HNil := Lib.hid (List.eq_nil_of_length_eq_zero HLen.out)
            by_cases hcj : c = j + 1
            · subst hcj
              have hcc2 : (n' : Int) ≤ (j : Int) + 1 := by omega
              have HRow := Lib.hid (show RowOK wr (some ⟨ab, ao, none⟩, 0, nxt x j) from by rw [HNil.out]; exact ⟨Sl.nil _ _ _, Nat.le_refl _, Nat.zero_le _⟩)
              go_wp2_with fail
              go_region_held3 (fun w' => w'.cell? ⟨p, 0, none⟩ = some (.slice (some ⟨rb, ro, none⟩) n' cc) ∧ w'.cell? ⟨rb, ro + j, none⟩ = some (.map (some b))) (go_keep)
                ((go_at_call 56; refine (HPut.out (some ⟨ab, ao, none⟩) 0 0 HRow.out HLen.out).mono ?_; rintro e' w3 ⟨rfl, ho, hb3⟩; have zz := HK.out _ _ ho; have HO3 := Lib.hid ho; have HB3 := Lib.hid hb3; clear ho hb3))
              go_wp2_with fail
              go_roundw
              case rel => exact ⟨j + 1, by omega, by go_num, Lib.hid ⟨_, _, _, _, by have h := HO3.out; rw [← HGd.out] at h; exact h, HBs.out⟩, HB3⟩
              case measure => simp [intOf]; omega
            · have HRow := Lib.hid (show RowOK wr (some ⟨ab, ao + (j + 1), none⟩, c - (j + 1), nxt x j) from by rw [HNil.out]; exact ⟨Sl.nil _ _ _, Nat.zero_le _, by show c - (j + 1) ≤ _; omega⟩)
              go_wp2_with fail
              go_region_held3 (fun w' => w'.cell? ⟨p, 0, none⟩ = some (.slice (some ⟨rb, ro, none⟩) n' cc) ∧ w'.cell? ⟨rb, ro + j, none⟩ = some (.map (some b))) (go_keep)
                ((go_at_call 56; refine (HPut.out (some ⟨ab, ao + (j + 1), none⟩) 0 (c - (j + 1)) HRow.out HLen.out).mono ?_; rintro e' w3 ⟨rfl, ho, hb3⟩; have zz := HK.out _ _ ho; have HO3 := Lib.hid ho; have HB3 := Lib.hid hb3; clear ho hb3))
              go_wp2_with fail
              go_roundw
              case rel => exact ⟨j + 1, by omega, by go_num, Lib.hid ⟨_, _, _, _, by have h := HO3.out; rw [← HGd.out] at h; exact h, HBs.out⟩, HB3⟩
              case measure => simp [intOf]; omega
        · obtain rfl : j = n := by omega
          have hlt2 : ¬ (j : Int) < (j : Int) := by omega
          have HPE := Lib.hid (show putTo (odOf j ((its.take k).map (·.2.2))) x j = odOf j ((its.take (k + 1)).map (·.2.2)) from by
            obtain ⟨e1, e2⟩ := List.getElem?_eq_some_iff.1 HT.out
            rw [List.take_succ_eq_append_getElem e1, e2, List.map_append, List.map_singleton, odOf_snoc]
            unfold putO
            rw [HXl.out])
          go_wp2_with fail
          go_roundw
          case rel => exact ⟨k + 1, by omega, by go_num, by rw [← HPE.out]; exact HOj, HBj⟩
          case measure => simp [intOf]; omega
    · obtain rfl : k = m := by omega
      have hlt' : ¬ (k : Int) < (k : Int) := by omega
      have HE := Lib.hid (show its.take k = its from List.take_of_length_le (by rw [HM.out]; exact Nat.le_refl _))
      rw [HE.out] at HO
      go_wp2_with fail
      go_ret2
      exact ⟨_, rfl, HO.out.odM, HB.out⟩
end Go.Proofs.YtmonepclhbappaaDoor
