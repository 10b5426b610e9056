/-
  Contracts: wire.Pack, Unpack; the document's Parcel.
-/
import Derived.Test.YtclbbchljiagpaaDoorWireB
import Derived.ArgAppend
import Derived.Lib.SmallJoins
import Derived.Laws.BytesArg
import Derived.Lib.Strings
import Derived.Deep.RegionLaw
namespace Go.Proofs.YtclbbchljiagpaaDoor
open Go.RowKit
set_option maxRecDepth 100000

set_option maxHeartbeats 2000000 in
theorem Pack_any (kd : Int) (l : List Int) (A : Option Addr) (n c : Nat) (w : World) (hk : 0 ≤ kd ∧ kd ≤ 255) (hl : l.length = n) (hn : n ≤ 4000000000) (hb : Bys l) (hs : Sl w 1 A n (l.map (Value.int .u8))) :
    Calls Tryd.prog 16 #[.int .u8 kd, .slice A n c] w fun e w' => ∃ C k, e = .returned (.slice C (n + 13) k) ∧ Sl w' 1 C (n + 13) ((packL kd l).map (Value.int .u8)) ∧ (n + 13 ≤ k ∧ k ≤ 9223372036854775807) ∧ Below w.heap.size w w' := by
  have kc := fun (w : World) (C : Array Value) (n c : Nat) => Lib.run_convert_bytes_const (P := Tryd.prog) w 22 5 C n c Tryd.underlying22 Tryd.underlying5
  have HS := Lib.hid hs
  have HB := Lib.hid hb
  clear hs hb
  go_enter Tryd.func16, Tryd.ntmps16
  have h1 := (Sl.newMark w [.int .u8 70, .int .u8 87, .int .u8 82, .int .u8 75] 5 (4, 5) 4 rfl).alloc (.cells #[.int .u8 kd] 5)
  have h2 := Sl.newAt (w.alloc (.cells #[.int .u8 70, .int .u8 87, .int .u8 82, .int .u8 75] 5 (4, 5))) [.int .u8 kd] 5 1 rfl
  rw [World.size_alloc] at h2
  have H1 := Lib.hid h1
  have H2 := Lib.hid h2
  have hb1 := bel_al (bel_al (Below.refl w.heap.size w) (.cells #[.int .u8 70, .int .u8 87, .int .u8 82, .int .u8 75] 5 (4, 5))) (.cells #[.int .u8 kd] 5)
  have HB1 := Lib.hid hb1
  clear h1 h2 hb1
  go_wp2_with (at_builtin; refine wpList_full elemByte _ _ rfl rfl H1.out (by omega) H2.out (by omega) rfl rfl (by simp [Value.oneCell']) (by unfold lim; omega) (by unfold lim; omega) ?_; intro v' w5 hown1 hb5)
  have HB5 := Lib.hid (HB1.out.andThen hb5)
  have HO1 := Lib.hid (own_mono hown1 (show w.heap.size ≤ _ by simp; omega))
  clear hown1 hb5 H1 H2 HB1
  refine (word_own n (by omega) (fwrk ++ [kd]) v' 5 w.heap.size w5 rfl HO1.out HB5.out.size (by omega)).mono ?_
  rintro e w6 ⟨v6, rfl, hown6, hg6⟩
  have HB6 := Lib.hid (HB5.out.trans (hg6.belowOwn HB5.out.size HO1.out))
  have HO6 := Lib.hid hown6
  have HS6 := Lib.hid (HS.out.keep HB6.out)
  clear hown6 hg6 HB5 HO1 HS
  go_wp2_with (at_builtin; refine wpList_cat_at elemByte _ _ rfl rfl HO6.out HB6.out.size HS6.out rfl rfl (one_u8 _) (by unfold lim; omega) (by unfold lim; omega) ?_; intro v7 w7 hown7 hg7)
  have HB7 := Lib.hid (HB6.out.trans (hg7.belowOwn HB6.out.size HO6.out))
  have HO7 := Lib.hid hown7
  clear hown7 hg7 HO6 HB6 HS6
  obtain ⟨g7, c7, rfl, _⟩ := own_form HO7.out (by omega)
  have hpre : List.map (Value.int IntKind.u8) (fwrk ++ [kd] ++ wordL n) ++ List.map (Value.int IntKind.u8) l = (preL kd l).map (Value.int .u8) := by
    rw [← List.map_append, preL, hl]; simp
  rw [hpre] at HO7
  have hpl : (preL kd l).length = 5 + 4 + n := by rw [preL_len, hl]; omega
  have HP := Lib.hid (Sum_any (preL kd l) _ _ c7 w7 hpl (by omega) (preL_bys hk HB.out) (Sl.of_own HO7.out))
  have HW := Lib.hid (word_own (sumL (preL kd l)) (sumL_lt _) (preL kd l) _ _ w.heap.size w7 hpl HO7.out HB7.out.size (by omega))
  clear hpre
  refine HP.out.mono ?_
  rintro e w8 ⟨rfl, rfl⟩
  clear HP
  go_wp2_with fail
  refine HW.out.mono ?_
  rintro e w8 ⟨v8, rfl, hown8, hg8⟩
  have HB8 := Lib.hid (HB7.out.trans (hg8.belowOwn HB7.out.size HO7.out))
  rw [show 5 + 4 + n + 4 = n + 13 by omega] at hown8
  obtain ⟨g8, c8, rfl, _⟩ := own_form hown8 (by omega)
  have HO8 := Lib.hid hown8
  clear hown8 hg8 HO7 HB7 HW
  go_wp2_with fail
  go_ret
  exact ⟨_, _, rfl, Sl.of_own HO8.out, own_cap HO8.out, HB8.out⟩

theorem Sum_q (l : List Int) (A : Option Addr) (n c : Nat) (w : World) (hl : l.length = n) (hn : n ≤ 1099511627776) (hb : Bys l) (hs : Sl w 1 A n (l.map (Value.int .u8))) :
    Calls Tryd.prog 20 #[.slice A n c] w fun e w' => e = .returned (.int .u32 (sumL l : Nat)) ∧ ∃ m, w' = w.drewN m :=
  (Sum_any l A n c w hl hn hb hs).mono fun _ _ h => ⟨h.1, 0, by rw [← h.2]; rfl⟩

def txtMark : ByteArray := ⟨#[109, 97, 114, 107]⟩
def txtParcel : ByteArray := ⟨#[112, 97, 114, 99, 101, 108]⟩
/-- The error that a parcel's fault makes. -/
def unE (l : List Int) : Err := match unW l with
  | 0 => .nil
  | 1 => .flt 2 0 txtMark
  | 4 => .flt 2 0 txtParcel
  | 5 => .flt 8 0 txtParcel
  | _ => .flt 9 0 txtParcel
def unK (l : List Int) : Int := if unW l = 0 then l.getD 4 0 else 0
def unB (l : List Int) : List Int := if unW l = 0 then (l.drop 9).take (wordN (l.drop 5)) else []

theorem mark_test {l : List Int} (hb : Bys l) (h4 : 4 ≤ l.length) : ((strOfNums (l.take 4)).toList == [70, 87, 82, 75]) = decide (l.take 4 = fwrk) := by
  obtain ⟨a, b, c, d, e, he⟩ := four h4
  have h1 := hb a (by rw [he]; simp)
  have h2 := hb b (by rw [he]; simp)
  have h3 := hb c (by rw [he]; simp)
  have h5 := hb d (by rw [he]; simp)
  rw [Lib.toList_data, strOfNums_data, e]
  have hu : ∀ (x : Int) (k : Nat), 0 ≤ x ∧ x ≤ 255 → k < 256 → ((UInt8.ofNat x.toNat = UInt8.ofNat k) ↔ x = k) := by
    intro x k hx hk
    rw [← UInt8.toNat_inj, UInt8.toNat_ofNat', UInt8.toNat_ofNat', Nat.mod_eq_of_lt (by omega), Nat.mod_eq_of_lt (by omega)]
    omega
  have e1 := hu a 70 h1 (by omega)
  have e2 := hu b 87 h2 (by omega)
  have e3 := hu c 82 h3 (by omega)
  have e4 := hu d 75 h5 (by omega)
  rw [show ([70, 87, 82, 75] : List UInt8) = [UInt8.ofNat 70, UInt8.ofNat 87, UInt8.ofNat 82, UInt8.ofNat 75] from rfl]
  rw [Bool.eq_iff_iff, decide_eq_true_iff, beq_iff_eq]
  simp only [List.map_cons, List.map_nil, fwrk, List.cons.injEq, and_true, e1, e2, e3, e4]
  omega

def UnPost (l : List Int) (w : World) (e : Ending) (w' : World) : Prop :=
  ∃ C k ev, e = .returned (.tuple #[.int .u8 (unK l), .slice C (unB l).length k, ev]) ∧ (unE l).At w' ev ∧ Sl w' 1 C (unB l).length ((unB l).map (Value.int .u8)) ∧ ((unB l).length ≤ k ∧ k ≤ 9223372036854775807) ∧ Below w.heap.size w w'
theorem un_bad {l : List Int} {w w' : World} {c : Int} {t : ByteArray} {ev : Value} (h : unW l ≠ 0) (hE : unE l = .flt c 0 t) (hev : (Err.flt c 0 t).At w' ev) (hb : Below w.heap.size w w') : UnPost l w (.returned (.tuple #[.int .u8 0, .slice none 0 0, ev])) w' := by
  have hk : unK l = 0 := by rw [unK, if_neg h]
  have hB : unB l = [] := by rw [unB, if_neg h]
  refine ⟨none, 0, ev, by rw [hk, hB]; rfl, by rw [hE]; exact hev, by rw [hB]; exact Sl.nil _ _ _, by rw [hB]; exact ⟨Nat.le_refl _, by omega⟩, hb⟩

set_option maxHeartbeats 2000000 in
/-- wire.Unpack: its beginning is another one. -/
theorem Unpack_1 (l : List Int) (A : Option Addr) (n c : Nat) (w : World) (hnc : n ≤ c) (hl : l.length = n) (hb : Bys l) (hs : Sl w 1 A n (l.map (Value.int .u8))) (h4 : 4 ≤ n) (hne : l.take 4 ≠ fwrk) :
    Calls Tryd.prog 17 #[.slice A n c] w (UnPost l w) := by
  obtain ⟨g, off, rfl, hc⟩ := hs.2 (by omega)
  have hcv := run_convert_bytes_arg (P := Tryd.prog) w 22 5 Tryd.underlying22 Tryd.underlying5 g off 4 c (l.take 4) (by simp; omega) (fun i hi => hc i _ (by
    rw [List.getElem?_map, List.getD_eq_getElem?_getD, List.getElem?_take, if_pos hi, List.getElem?_eq_getElem (by omega)]; rfl))
  have hcv2 := hcv 9 Tryd.underlying9
  have hmt := mark_test hb (by omega)
  rw [decide_eq_false hne] at hmt
  have hW : unW l = 1 := by unfold unW; rw [if_pos ⟨by omega, hne⟩]
  have HW := Lib.hid hW
  clear hc hs hcv hW
  go_enter Tryd.func17, Tryd.ntmps17
  go_wp2_with fail
  refine (New_err 2 0 txtMark w).mono ?_
  rintro e w1 ⟨v, rfl, hv, hb1⟩
  have HV := Lib.hid hv
  clear hv
  go_wp2_with fail
  go_ret3
  exact un_bad (by rw [HW.out]; omega) (by rw [unE, HW.out]; rfl) HV.out hb1

set_option maxHeartbeats 2000000 in
/-- wire.Unpack: too short for any. -/
theorem Unpack_2 (l : List Int) (A : Option Addr) (n c : Nat) (w : World) (hnc : n ≤ c) (hl : l.length = n) (hb : Bys l) (hs : Sl w 1 A n (l.map (Value.int .u8))) (h13 : n < 13) (hne : 4 ≤ n → l.take 4 = fwrk) :
    Calls Tryd.prog 17 #[.slice A n c] w (UnPost l w) := by
  have hW : unW l = 2 := by unfold unW; rw [if_neg (fun h => h.2 (hne (by omega))), if_pos (by omega)]
  have HW := Lib.hid hW
  clear hW
  by_cases h4 : 4 ≤ n
  · obtain ⟨g, off, rfl, hc⟩ := hs.2 (by omega)
    have hcv := run_convert_bytes_arg (P := Tryd.prog) w 22 5 Tryd.underlying22 Tryd.underlying5 g off 4 c (l.take 4) (by simp; omega) (fun i hi => hc i _ (by
      rw [List.getElem?_map, List.getD_eq_getElem?_getD, List.getElem?_take, if_pos hi, List.getElem?_eq_getElem (by omega)]; rfl))
    have hcv2 := hcv 9 Tryd.underlying9
    have hmt := mark_test hb (by omega)
    rw [decide_eq_true (hne h4)] at hmt
    clear hc hs hcv hne
    go_enter Tryd.func17, Tryd.ntmps17
    go_wp2_with fail
    refine (New_err 9 0 txtParcel w).mono ?_
    rintro e w1 ⟨v, rfl, hv, hb1⟩
    have HV := Lib.hid hv
    clear hv
    go_wp2_with fail
    go_ret3
    exact un_bad (by rw [HW.out]; omega) (by rw [unE, HW.out]; rfl) HV.out hb1
  · clear hs hne
    go_enter Tryd.func17, Tryd.ntmps17
    go_wp2_with fail
    refine (New_err 9 0 txtParcel w).mono ?_
    rintro e w1 ⟨v, rfl, hv, hb1⟩
    have HV := Lib.hid hv
    clear hv
    go_wp2_with fail
    go_ret3
    exact un_bad (by rw [HW.out]; omega) (by rw [unE, HW.out]; rfl) HV.out hb1

set_option maxHeartbeats 4000000 in
/-- wire.Unpack: long enough. -/
theorem Unpack_3 (l : List Int) (A : Option Addr) (n c : Nat) (w : World) (hnc : n ≤ c) (hc9 : c ≤ 9223372036854775807) (hn : n ≤ 1099511627776) (hl : l.length = n) (hb : Bys l) (hs : Sl w 1 A n (l.map (Value.int .u8))) (h13 : 13 ≤ n) (hm : l.take 4 = fwrk) :
    Calls Tryd.prog 17 #[.slice A n c] w (UnPost l w) := by
  obtain ⟨g, off, rfl, hc⟩ := hs.2 (by omega)
  have hcv := run_convert_bytes_arg (P := Tryd.prog) w 22 5 Tryd.underlying22 Tryd.underlying5 g off 4 c (l.take 4) (by simp; omega) (fun i hi => hc i _ (by
    rw [List.getElem?_map, List.getD_eq_getElem?_getD, List.getElem?_take, if_pos hi, List.getElem?_eq_getElem (by omega)]; rfl))
  have hcv2 := hcv 9 Tryd.underlying9
  have hmt := mark_test hb (by omega)
  rw [decide_eq_true hm] at hmt
  have hd5 : ∀ W, Sl W 1 (some ⟨g, off, none⟩) n (l.map (Value.int .u8)) → Sl W 1 (some ⟨g, off + 5, none⟩) (n - 5) ((l.drop 5).map (Value.int .u8)) := fun W h => by rw [List.map_drop]; exact h.drop (by omega)
  have HA := Lib.hid (wordAt_any (l.drop 5) _ (n - 5) (c - 5) w (by rw [List.length_drop]; omega) (by omega) (hb.drop 5) (hd5 w hs))
  have HN := Lib.hid (wordN_lt (hb.drop 5))
  have HS := Lib.hid hs
  have HB := Lib.hid hb
  clear hc hs hcv hd5 hb
  have hW1 : ¬ (4 ≤ l.length ∧ l.take 4 ≠ fwrk) := fun h => h.2 hm
  have HW1 := Lib.hid hW1
  clear hW1 hm
  go_enter Tryd.func17, Tryd.ntmps17
  go_wp2_with fail
  refine HA.out.mono ?_
  rintro e w2 ⟨rfl, hq⟩
  have HQ := Lib.hid (drew_bel hq)
  replace HS := Lib.hid (HS.out.keep HQ.out)
  clear hq
  have hN := HN.out
  by_cases c1 : n - 13 < wordN (l.drop 5)
  · have HW := Lib.hid (show unW l = 3 by unfold unW; rw [if_neg HW1.out, if_neg (by omega), if_pos (by omega)])
    clear HA HN
    generalize wordN (l.drop 5) = N at *
    go_wp2_with fail
    refine (New_err 9 0 txtParcel _).mono ?_
    rintro e w1 ⟨v, rfl, hv, hb1⟩
    have HV := Lib.hid hv
    clear hv
    go_wp2_with fail
    go_ret3
    exact un_bad (by rw [HW.out]; omega) (by rw [unE, HW.out]; rfl) HV.out (HQ.out.andThen hb1)
  · by_cases c2 : wordN (l.drop 5) < n - 13
    · have HW := Lib.hid (show unW l = 4 by unfold unW; rw [if_neg HW1.out, if_neg (by omega), if_neg (by omega), if_pos (by omega)])
      clear HA HN
      generalize wordN (l.drop 5) = N at *
      go_wp2_with fail
      refine (New_err 2 0 txtParcel _).mono ?_
      rintro e w1 ⟨v, rfl, hv, hb1⟩
      have HV := Lib.hid hv
      clear hv
      go_wp2_with fail
      go_ret3
      exact un_bad (by rw [HW.out]; omega) (by rw [unE, HW.out]; rfl) HV.out (HQ.out.andThen hb1)
    · have hNe : wordN (l.drop 5) = n - 13 := by omega
      have HNe := Lib.hid hNe
      have HW5 := Lib.hid (show wordN (l.drop (9 + wordN (l.drop 5))) ≠ sumL (l.take (9 + wordN (l.drop 5))) → unW l = 5 by intro h; unfold unW; rw [if_neg HW1.out, if_neg (by omega), if_neg (by omega), if_neg (by omega), if_pos h])
      have HW0 := Lib.hid (show wordN (l.drop (9 + wordN (l.drop 5))) = sumL (l.take (9 + wordN (l.drop 5))) → unW l = 0 by intro h; unfold unW; rw [if_neg HW1.out, if_neg (by omega), if_neg (by omega), if_neg (by omega), if_neg (fun h' => h' h)])
      clear HA HN hNe
      generalize hNN : wordN (l.drop 5) = N at *
      have HNN := Lib.hid hNN
      clear hNN
      have hN13 : N + 13 = n := by have := HNe.out; omega
      have HA2 := Lib.hid (fun W (h : Sl W 1 (some ⟨g, off, none⟩) n (l.map (Value.int .u8))) => wordAt_any (l.drop (9 + N)) (some ⟨g, off + (9 + N), none⟩) (n - (9 + N)) (c - (9 + N)) W (by rw [List.length_drop]; omega) (by omega) (HB.out.drop _) (by rw [List.map_drop]; exact h.drop (by omega)))
      have HS2 := Lib.hid (fun W (h : Sl W 1 (some ⟨g, off, none⟩) n (l.map (Value.int .u8))) => Sum_q (l.take (9 + N)) (some ⟨g, off, none⟩) (9 + N) c W (by rw [List.length_take]; omega) (by omega) (HB.out.take _) (by rw [List.map_take]; exact h.take (by omega)))
      have hE0 : (0 : Int) ≤ 9 + (N : Int) := by omega
      have hE1 : 9 + (N : Int) ≤ (n : Int) := by omega
      have hE2 : 9 + (N : Int) ≤ (c : Int) := by omega
      have hE3 : ¬ c = 9 + N := by omega
      have hE4 : (9 + (N : Int)).toNat = 9 + N := by omega
      generalize wordN (l.drop (9 + N)) = X at *
      generalize sumL (l.take (9 + N)) = Y at *
      go_wp2_with fail
      go_quiet (first | (go_at_call 65; exact Calls.quiet_of (HA2.out _ HS.out)) | (go_at_call 20; exact Calls.quiet_of (HS2.out _ HS.out)))
      obtain ⟨w3, hw3⟩ : ∃ w3, w3 = w2.drewN nq := ⟨_, rfl⟩
      rw [← hw3]
      have HQ3 := Lib.hid (HQ.out.andThen (drew_bel ⟨nq, hw3⟩))
      have HS3 := Lib.hid (HS.out.keep (drew_bel ⟨nq, hw3⟩))
      clear hw3 HA2 HS2 HS HQ
      by_cases hXY : X = Y
      · subst hXY
        have HW := Lib.hid (HW0.out rfl)
        clear HW0 HW5
        have hk4 : l[4]? = some l[4] := List.getElem?_eq_getElem (by omega)
        have hcell := HS3.out.again (k := 4) (by omega) (u := .int .u8 l[4]) (by rw [List.getElem?_map, hk4]; rfl)
        have HK := Lib.hid (show unK l = l[4] by rw [unK, if_pos HW.out, List.getD_eq_getElem?_getD, hk4]; rfl)
        have HU := Lib.hid (show unB l = (l.drop 9).take N by rw [unB, if_pos HW.out, HNN.out])
        have HSl := Lib.hid (fun W (h : Sl W 1 (some ⟨g, off, none⟩) n (l.map (Value.int .u8))) => (by
          have h1 := (h.drop (k := 9) (by omega)).take (k := N) (by omega)
          rwa [← List.map_drop, ← List.map_take] at h1 : Sl W 1 (some ⟨g, off + 9, none⟩) N (((l.drop 9).take N).map (Value.int .u8))))
        have HK4 := Lib.hid hk4
        clear hk4
        generalize l[4] = k4 at *
        have hE5 : ¬ c = 9 := by omega
        have hE7 : (4 : Int) < (n : Int) := by omega
        have hE6 : (9 : Int) ≤ 9 + (N : Int) := by omega
        go_wp2_with fail
        have HB1 := Lib.hid (show w3.heap.size ≤ (w3.alloc (.cells #[] 5)).drew.heap.size by simp)
        have HO1 := Lib.hid (show (w3.alloc (.cells #[] 5)).drew.ownsRow w3.heap.size 5 1 (.slice (some ⟨w3.heap.size, 0, none⟩) 0 0) 0 [] from World.ownsRow_made w3 #[] 0 (Nat.le_refl _) (Nat.zero_le _) rfl)
        have HL1 := Lib.hid (show (0 + N) * 1 ≤ lim by unfold lim; omega)
        have HL2 := Lib.hid (show 0 + N ≤ lim by unfold lim; omega)
        have HCell := Lib.hid (fun W (h : Below w3.heap.size w3 W) => (HS3.out.keep h).again (k := 4) (by omega) (u := .int .u8 k4) (by rw [List.getElem?_map, HK4.out]; rfl))
        have hcell2 := HCell.out (w3.alloc (.cells #[] 5)) (bel_al (Below.refl _ _) _)
        have HGB := Lib.hid (fun v' w' (h : Gr (w3.alloc (.cells #[] 5)).drew w' (.slice (some ⟨w3.heap.size, 0, none⟩) 0 0) v') => (show Below w3.heap.size w3 (w3.alloc (.cells #[] 5)).drew from bel_drewN (bel_al (Below.refl _ _) _) 1).trans (h.belowOwn HB1.out HO1.out))
        go_region_law (refine step_cat_at elemByte (.tmp 55) (.tmp 58) rfl rfl HO1.out HB1.out (c := c - 9) (HSl.out _ (HS3.out.alloc _)) rfl rfl (one_u8 _) HL1.out HL2.out ?_; intro v' w' hown' hgr'; have hbw := HGB.out v' w' hgr'; have hcw := HCell.out w' hbw)
        all_goals
          go_wp2_with fail
          go_ret3
          rw [List.nil_append, Nat.zero_add] at hown'
          obtain ⟨C, k, hv', hsl⟩ := Sl.own hown'
          have hlu : (unB l).length = N := by rw [HU.out, List.length_take, List.length_drop]; omega
          refine ⟨C, k, .nilIface, by rw [HK.out, hlu, ← hv']; rfl, by rw [unE, HW.out]; rfl, by rw [hlu, HU.out]; exact hsl, ?_, HQ3.out.andThen hbw⟩
          rw [hv'] at hown'
          rw [hlu]
          exact own_cap hown'
      · have HW := Lib.hid (HW5.out hXY)
        clear HW0 HW5
        have hXY' : ((X : Int) != (Y : Int)) = true := by simp; omega
        go_wp2_with fail
        refine (New_err 8 0 txtParcel _).mono ?_
        rintro e w1 ⟨v, rfl, hv, hb1⟩
        have HV := Lib.hid hv
        clear hv
        go_wp2_with fail
        go_ret3
        exact un_bad (by rw [HW.out]; omega) (by rw [unE, HW.out]; rfl) HV.out (HQ3.out.andThen hb1)

/-- wire.Unpack. -/
theorem Unpack_any (l : List Int) (A : Option Addr) (n c : Nat) (w : World) (hnc : n ≤ c) (hc9 : c ≤ 9223372036854775807) (hn : n ≤ 1099511627776) (hl : l.length = n) (hb : Bys l) (hs : Sl w 1 A n (l.map (Value.int .u8))) :
    Calls Tryd.prog 17 #[.slice A n c] w (UnPost l w) := by
  by_cases h4 : 4 ≤ n
  · by_cases hm : l.take 4 = fwrk
    · by_cases h13 : n < 13
      · exact Unpack_2 l A n c w hnc hl hb hs h13 fun _ => hm
      · exact Unpack_3 l A n c w hnc hc9 hn hl hb hs (by omega) hm
    · exact Unpack_1 l A n c w hnc hl hb hs h4 hm
  · exact Unpack_2 l A n c w hnc hl hb hs (by omega) fun h => absurd h h4
end Go.Proofs.YtclbbchljiagpaaDoor
