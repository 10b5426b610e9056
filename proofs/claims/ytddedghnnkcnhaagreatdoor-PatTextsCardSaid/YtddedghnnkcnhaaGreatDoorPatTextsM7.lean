/-
  Part 7 of the proof of PatTexts: WireC, WireD, First, WireE, WrK, WrB.
-/
import Derived.Test.YtddedghnnkcnhaaGreatDoorPatTextsM6
import Derived.ArgAppend
import Derived.Lib.SmallJoins
import Derived.Laws.BytesArg
import Derived.Lib.Strings
import Derived.Deep.RegionLaw
import Derived.Lib.AppendStr
import Derived.Deep.RegionWith
import Derived.Test.YtddedghnnkcnhaaGreatDoorPatTextsM2
import Derived.WalkSpells
/-
  Contracts: wire.Pack, Unpack; the document's Parcel.
-/
namespace Go.Proofs.YtddedghnnkcnhaaGreatDoor
open Go.RowKit
set_option maxRecDepth 100000

set_option maxHeartbeats 2000000 in
theorem Pack_any (kd : Int) (l : List Int) (A : Option Addr) (n c : Nat) (w : World) (hk : 0 ≤ kd ∧ kd ≤ 255) (hl : l.length = n) (hn : n ≤ 4000000000) (hb : Bys l) (hs : Sl w 1 A n (l.map (Value.int .u8))) :
    Calls Tryz.prog 134 #[.int .u8 kd, .slice A n c] w fun e w' => ∃ C k, e = .returned (.slice C (n + 13) k) ∧ Sl w' 1 C (n + 13) ((packL kd l).map (Value.int .u8)) ∧ (n + 13 ≤ k ∧ k ≤ 9223372036854775807) ∧ Below w.heap.size w w' := by
  have kc := fun (w : World) (C : Array Value) (n c : Nat) => Lib.run_convert_bytes_const (P := Tryz.prog) w 26 5 C n c Tryz.underlying26 Tryz.underlying5
  have HS := Lib.hid hs
  have HB := Lib.hid hb
  clear hs hb
  go_enter Tryz.func134, Tryz.ntmps134
  have h1 := (Sl.newMark w [.int .u8 70, .int .u8 87, .int .u8 82, .int .u8 75] 5 (4, 5) 4 rfl).alloc (.cells #[.int .u8 kd] 5)
  have h2 := Sl.newAt (w.alloc (.cells #[.int .u8 70, .int .u8 87, .int .u8 82, .int .u8 75] 5 (4, 5))) [.int .u8 kd] 5 1 rfl
  rw [World.size_alloc] at h2
  have H1 := Lib.hid h1
  have H2 := Lib.hid h2
  have hb1 := bel_al (bel_al (Below.refl w.heap.size w) (.cells #[.int .u8 70, .int .u8 87, .int .u8 82, .int .u8 75] 5 (4, 5))) (.cells #[.int .u8 kd] 5)
  have HB1 := Lib.hid hb1
  clear h1 h2 hb1
  go_wp2_with (at_builtin; refine wpList_full elemByte _ _ rfl rfl H1.out (by omega) H2.out (by omega) rfl rfl (by simp [Value.oneCell']) (by unfold lim; omega) (by unfold lim; omega) ?_; intro v' w5 hown1 hb5)
  have HB5 := Lib.hid (HB1.out.andThen hb5)
  have HO1 := Lib.hid (own_mono hown1 (show w.heap.size ≤ _ by simp; omega))
  clear hown1 hb5 H1 H2 HB1
  refine (word_own n (by omega) (fwrk ++ [kd]) v' 5 w.heap.size w5 rfl HO1.out HB5.out.size (by omega)).mono ?_
  rintro e w6 ⟨v6, rfl, hown6, hg6⟩
  have HB6 := Lib.hid (HB5.out.trans (hg6.belowOwn HB5.out.size HO1.out))
  have HO6 := Lib.hid hown6
  have HS6 := Lib.hid (HS.out.keep HB6.out)
  clear hown6 hg6 HB5 HO1 HS
  go_wp2_with (at_builtin; refine wpList_cat_at elemByte _ _ rfl rfl HO6.out HB6.out.size HS6.out rfl rfl (one_u8 _) (by unfold lim; omega) (by unfold lim; omega) ?_; intro v7 w7 hown7 hg7)
  have HB7 := Lib.hid (HB6.out.trans (hg7.belowOwn HB6.out.size HO6.out))
  have HO7 := Lib.hid hown7
  clear hown7 hg7 HO6 HB6 HS6
  obtain ⟨g7, c7, rfl, _⟩ := own_form HO7.out (by omega)
  have hpre : List.map (Value.int IntKind.u8) (fwrk ++ [kd] ++ wordL n) ++ List.map (Value.int IntKind.u8) l = (preL kd l).map (Value.int .u8) := by
    rw [← List.map_append, preL, hl]; simp
  rw [hpre] at HO7
  have hpl : (preL kd l).length = 5 + 4 + n := by rw [preL_len, hl]; omega
  have HP := Lib.hid (Sum_any (preL kd l) _ _ c7 w7 hpl (by omega) (preL_bys hk HB.out) (Sl.of_own HO7.out))
  have HW := Lib.hid (word_own (sumL (preL kd l)) (sumL_lt _) (preL kd l) _ _ w.heap.size w7 hpl HO7.out HB7.out.size (by omega))
  clear hpre
  refine HP.out.mono ?_
  rintro e w8 ⟨rfl, rfl⟩
  clear HP
  go_wp2_with fail
  refine HW.out.mono ?_
  rintro e w8 ⟨v8, rfl, hown8, hg8⟩
  have HB8 := Lib.hid (HB7.out.trans (hg8.belowOwn HB7.out.size HO7.out))
  rw [show 5 + 4 + n + 4 = n + 13 by omega] at hown8
  obtain ⟨g8, c8, rfl, _⟩ := own_form hown8 (by omega)
  have HO8 := Lib.hid hown8
  clear hown8 hg8 HO7 HB7 HW
  go_wp2_with fail
  go_ret
  exact ⟨_, _, rfl, Sl.of_own HO8.out, own_cap HO8.out, HB8.out⟩

theorem Sum_q (l : List Int) (A : Option Addr) (n c : Nat) (w : World) (hl : l.length = n) (hn : n ≤ 1099511627776) (hb : Bys l) (hs : Sl w 1 A n (l.map (Value.int .u8))) :
    Calls Tryz.prog 188 #[.slice A n c] w fun e w' => e = .returned (.int .u32 (sumL l : Nat)) ∧ ∃ m, w' = w.drewN m :=
  (Sum_any l A n c w hl hn hb hs).mono fun _ _ h => ⟨h.1, 0, by rw [← h.2]; rfl⟩

def txtMark : ByteArray := ⟨#[109, 97, 114, 107]⟩
def txtParcel : ByteArray := ⟨#[112, 97, 114, 99, 101, 108]⟩
/-- The error that a parcel's fault makes. -/
def unE (l : List Int) : Err := match unW l with
  | 0 => .nil
  | 1 => .flt 2 0 txtMark
  | 4 => .flt 2 0 txtParcel
  | 5 => .flt 8 0 txtParcel
  | _ => .flt 9 0 txtParcel
def unK (l : List Int) : Int := if unW l = 0 then l.getD 4 0 else 0
def unB (l : List Int) : List Int := if unW l = 0 then (l.drop 9).take (wordN (l.drop 5)) else []

theorem mark_test {l : List Int} (hb : Bys l) (h4 : 4 ≤ l.length) : ((strOfNums (l.take 4)).toList == [70, 87, 82, 75]) = decide (l.take 4 = fwrk) := by
  obtain ⟨a, b, c, d, e, he⟩ := four h4
  have h1 := hb a (by rw [he]; simp)
  have h2 := hb b (by rw [he]; simp)
  have h3 := hb c (by rw [he]; simp)
  have h5 := hb d (by rw [he]; simp)
  rw [Lib.toList_data, strOfNums_data, e]
  have hu : ∀ (x : Int) (k : Nat), 0 ≤ x ∧ x ≤ 255 → k < 256 → ((UInt8.ofNat x.toNat = UInt8.ofNat k) ↔ x = k) := by
    intro x k hx hk
    rw [← UInt8.toNat_inj, UInt8.toNat_ofNat', UInt8.toNat_ofNat', Nat.mod_eq_of_lt (by omega), Nat.mod_eq_of_lt (by omega)]
    omega
  have e1 := hu a 70 h1 (by omega)
  have e2 := hu b 87 h2 (by omega)
  have e3 := hu c 82 h3 (by omega)
  have e4 := hu d 75 h5 (by omega)
  rw [show ([70, 87, 82, 75] : List UInt8) = [UInt8.ofNat 70, UInt8.ofNat 87, UInt8.ofNat 82, UInt8.ofNat 75] from rfl]
  rw [Bool.eq_iff_iff, decide_eq_true_iff, beq_iff_eq]
  simp only [List.map_cons, List.map_nil, fwrk, List.cons.injEq, and_true, e1, e2, e3, e4]
  omega

def UnPost (l : List Int) (w : World) (e : Ending) (w' : World) : Prop :=
  ∃ C k ev, e = .returned (.tuple #[.int .u8 (unK l), .slice C (unB l).length k, ev]) ∧ (unE l).At w' ev ∧ Sl w' 1 C (unB l).length ((unB l).map (Value.int .u8)) ∧ ((unB l).length ≤ k ∧ k ≤ 9223372036854775807) ∧ Below w.heap.size w w'
theorem un_bad {l : List Int} {w w' : World} {c : Int} {t : ByteArray} {ev : Value} (h : unW l ≠ 0) (hE : unE l = .flt c 0 t) (hev : (Err.flt c 0 t).At w' ev) (hb : Below w.heap.size w w') : UnPost l w (.returned (.tuple #[.int .u8 0, .slice none 0 0, ev])) w' := by
  have hk : unK l = 0 := by rw [unK, if_neg h]
  have hB : unB l = [] := by rw [unB, if_neg h]
  refine ⟨none, 0, ev, by rw [hk, hB]; rfl, by rw [hE]; exact hev, by rw [hB]; exact Sl.nil _ _ _, by rw [hB]; exact ⟨Nat.le_refl _, by omega⟩, hb⟩

set_option maxHeartbeats 2000000 in
/-- wire.Unpack: its beginning is another one. -/
theorem Unpack_1 (l : List Int) (A : Option Addr) (n c : Nat) (w : World) (hnc : n ≤ c) (hl : l.length = n) (hb : Bys l) (hs : Sl w 1 A n (l.map (Value.int .u8))) (h4 : 4 ≤ n) (hne : l.take 4 ≠ fwrk) :
    Calls Tryz.prog 183 #[.slice A n c] w (UnPost l w) := by
  obtain ⟨g, off, rfl, hc⟩ := hs.2 (by omega)
  have hcv := run_convert_bytes_arg (P := Tryz.prog) w 26 5 Tryz.underlying26 Tryz.underlying5 g off 4 c (l.take 4) (by simp; omega) (fun i hi => hc i _ (by
    rw [List.getElem?_map, List.getD_eq_getElem?_getD, List.getElem?_take, if_pos hi, List.getElem?_eq_getElem (by omega)]; rfl))
  have hcv2 := hcv 9 Tryz.underlying9
  have hmt := mark_test hb (by omega)
  rw [decide_eq_false hne] at hmt
  have hW : unW l = 1 := by unfold unW; rw [if_pos ⟨by omega, hne⟩]
  have HW := Lib.hid hW
  clear hc hs hcv hW
  go_enter Tryz.func183, Tryz.ntmps183
  go_wp2_with fail
  refine (New_err 2 0 txtMark w).mono ?_
  rintro e w1 ⟨v, rfl, hv, hb1⟩
  have HV := Lib.hid hv
  clear hv
  go_wp2_with fail
  go_ret3
  exact un_bad (by rw [HW.out]; omega) (by rw [unE, HW.out]; rfl) HV.out hb1

set_option maxHeartbeats 2000000 in
/-- wire.Unpack: too short for any. -/
theorem Unpack_2 (l : List Int) (A : Option Addr) (n c : Nat) (w : World) (hnc : n ≤ c) (hl : l.length = n) (hb : Bys l) (hs : Sl w 1 A n (l.map (Value.int .u8))) (h13 : n < 13) (hne : 4 ≤ n → l.take 4 = fwrk) :
    Calls Tryz.prog 183 #[.slice A n c] w (UnPost l w) := by
  have hW : unW l = 2 := by unfold unW; rw [if_neg (fun h => h.2 (hne (by omega))), if_pos (by omega)]
  have HW := Lib.hid hW
  clear hW
  by_cases h4 : 4 ≤ n
  · obtain ⟨g, off, rfl, hc⟩ := hs.2 (by omega)
    have hcv := run_convert_bytes_arg (P := Tryz.prog) w 26 5 Tryz.underlying26 Tryz.underlying5 g off 4 c (l.take 4) (by simp; omega) (fun i hi => hc i _ (by
      rw [List.getElem?_map, List.getD_eq_getElem?_getD, List.getElem?_take, if_pos hi, List.getElem?_eq_getElem (by omega)]; rfl))
    have hcv2 := hcv 9 Tryz.underlying9
    have hmt := mark_test hb (by omega)
    rw [decide_eq_true (hne h4)] at hmt
    clear hc hs hcv hne
    go_enter Tryz.func183, Tryz.ntmps183
    go_wp2_with fail
    refine (New_err 9 0 txtParcel w).mono ?_
    rintro e w1 ⟨v, rfl, hv, hb1⟩
    have HV := Lib.hid hv
    clear hv
    go_wp2_with fail
    go_ret3
    exact un_bad (by rw [HW.out]; omega) (by rw [unE, HW.out]; rfl) HV.out hb1
  · clear hs hne
    go_enter Tryz.func183, Tryz.ntmps183
    go_wp2_with fail
    refine (New_err 9 0 txtParcel w).mono ?_
    rintro e w1 ⟨v, rfl, hv, hb1⟩
    have HV := Lib.hid hv
    clear hv
    go_wp2_with fail
    go_ret3
    exact un_bad (by rw [HW.out]; omega) (by rw [unE, HW.out]; rfl) HV.out hb1

set_option maxHeartbeats 4000000 in
/-- wire.Unpack: long enough. -/
theorem Unpack_3 (l : List Int) (A : Option Addr) (n c : Nat) (w : World) (hnc : n ≤ c) (hc9 : c ≤ 9223372036854775807) (hn : n ≤ 1099511627776) (hl : l.length = n) (hb : Bys l) (hs : Sl w 1 A n (l.map (Value.int .u8))) (h13 : 13 ≤ n) (hm : l.take 4 = fwrk) :
    Calls Tryz.prog 183 #[.slice A n c] w (UnPost l w) := by
  obtain ⟨g, off, rfl, hc⟩ := hs.2 (by omega)
  have hcv := run_convert_bytes_arg (P := Tryz.prog) w 26 5 Tryz.underlying26 Tryz.underlying5 g off 4 c (l.take 4) (by simp; omega) (fun i hi => hc i _ (by
    rw [List.getElem?_map, List.getD_eq_getElem?_getD, List.getElem?_take, if_pos hi, List.getElem?_eq_getElem (by omega)]; rfl))
  have hcv2 := hcv 9 Tryz.underlying9
  have hmt := mark_test hb (by omega)
  rw [decide_eq_true hm] at hmt
  have hd5 : ∀ W, Sl W 1 (some ⟨g, off, none⟩) n (l.map (Value.int .u8)) → Sl W 1 (some ⟨g, off + 5, none⟩) (n - 5) ((l.drop 5).map (Value.int .u8)) := fun W h => by rw [List.map_drop]; exact h.drop (by omega)
  have HA := Lib.hid (wordAt_any (l.drop 5) _ (n - 5) (c - 5) w (by rw [List.length_drop]; omega) (by omega) (hb.drop 5) (hd5 w hs))
  have HN := Lib.hid (wordN_lt (hb.drop 5))
  have HS := Lib.hid hs
  have HB := Lib.hid hb
  clear hc hs hcv hd5 hb
  have hW1 : ¬ (4 ≤ l.length ∧ l.take 4 ≠ fwrk) := fun h => h.2 hm
  have HW1 := Lib.hid hW1
  clear hW1 hm
  go_enter Tryz.func183, Tryz.ntmps183
  go_wp2_with fail
  refine HA.out.mono ?_
  rintro e w2 ⟨rfl, hq⟩
  have HQ := Lib.hid (drew_bel hq)
  replace HS := Lib.hid (HS.out.keep HQ.out)
  clear hq
  have hN := HN.out
  by_cases c1 : n - 13 < wordN (l.drop 5)
  · have HW := Lib.hid (show unW l = 3 by unfold unW; rw [if_neg HW1.out, if_neg (by omega), if_pos (by omega)])
    clear HA HN
    generalize wordN (l.drop 5) = N at *
    go_wp2_with fail
    refine (New_err 9 0 txtParcel _).mono ?_
    rintro e w1 ⟨v, rfl, hv, hb1⟩
    have HV := Lib.hid hv
    clear hv
    go_wp2_with fail
    go_ret3
    exact un_bad (by rw [HW.out]; omega) (by rw [unE, HW.out]; rfl) HV.out (HQ.out.andThen hb1)
  · by_cases c2 : wordN (l.drop 5) < n - 13
    · have HW := Lib.hid (show unW l = 4 by unfold unW; rw [if_neg HW1.out, if_neg (by omega), if_neg (by omega), if_pos (by omega)])
      clear HA HN
      generalize wordN (l.drop 5) = N at *
      go_wp2_with fail
      refine (New_err 2 0 txtParcel _).mono ?_
      rintro e w1 ⟨v, rfl, hv, hb1⟩
      have HV := Lib.hid hv
      clear hv
      go_wp2_with fail
      go_ret3
      exact un_bad (by rw [HW.out]; omega) (by rw [unE, HW.out]; rfl) HV.out (HQ.out.andThen hb1)
    · have hNe : wordN (l.drop 5) = n - 13 := by omega
      have HNe := Lib.hid hNe
      have HW5 := Lib.hid (show wordN (l.drop (9 + wordN (l.drop 5))) ≠ sumL (l.take (9 + wordN (l.drop 5))) → unW l = 5 by intro h; unfold unW; rw [if_neg HW1.out, if_neg (by omega), if_neg (by omega), if_neg (by omega), if_pos h])
      have HW0 := Lib.hid (show wordN (l.drop (9 + wordN (l.drop 5))) = sumL (l.take (9 + wordN (l.drop 5))) → unW l = 0 by intro h; unfold unW; rw [if_neg HW1.out, if_neg (by omega), if_neg (by omega), if_neg (by omega), if_neg (fun h' => h' h)])
      clear HA HN hNe
      generalize hNN : wordN (l.drop 5) = N at *
      have HNN := Lib.hid hNN
      clear hNN
      have hN13 : N + 13 = n := by have := HNe.out; omega
      have HA2 := Lib.hid (fun W (h : Sl W 1 (some ⟨g, off, none⟩) n (l.map (Value.int .u8))) => wordAt_any (l.drop (9 + N)) (some ⟨g, off + (9 + N), none⟩) (n - (9 + N)) (c - (9 + N)) W (by rw [List.length_drop]; omega) (by omega) (HB.out.drop _) (by rw [List.map_drop]; exact h.drop (by omega)))
      have HS2 := Lib.hid (fun W (h : Sl W 1 (some ⟨g, off, none⟩) n (l.map (Value.int .u8))) => Sum_q (l.take (9 + N)) (some ⟨g, off, none⟩) (9 + N) c W (by rw [List.length_take]; omega) (by omega) (HB.out.take _) (by rw [List.map_take]; exact h.take (by omega)))
      have hE0 : (0 : Int) ≤ 9 + (N : Int) := by omega
      have hE1 : 9 + (N : Int) ≤ (n : Int) := by omega
      have hE2 : 9 + (N : Int) ≤ (c : Int) := by omega
      have hE3 : ¬ c = 9 + N := by omega
      have hE4 : (9 + (N : Int)).toNat = 9 + N := by omega
      generalize wordN (l.drop (9 + N)) = X at *
      generalize sumL (l.take (9 + N)) = Y at *
      go_wp2_with fail
      go_quiet (first | (go_at_call 161; exact Calls.quiet_of (HA2.out _ HS.out)) | (go_at_call 188; exact Calls.quiet_of (HS2.out _ HS.out)))
      obtain ⟨w3, hw3⟩ : ∃ w3, w3 = w2.drewN nq := ⟨_, rfl⟩
      rw [← hw3]
      have HQ3 := Lib.hid (HQ.out.andThen (drew_bel ⟨nq, hw3⟩))
      have HS3 := Lib.hid (HS.out.keep (drew_bel ⟨nq, hw3⟩))
      clear hw3 HA2 HS2 HS HQ
      by_cases hXY : X = Y
      · subst hXY
        have HW := Lib.hid (HW0.out rfl)
        clear HW0 HW5
        have hk4 : l[4]? = some l[4] := List.getElem?_eq_getElem (by omega)
        have hcell := HS3.out.again (k := 4) (by omega) (u := .int .u8 l[4]) (by rw [List.getElem?_map, hk4]; rfl)
        have HK := Lib.hid (show unK l = l[4] by rw [unK, if_pos HW.out, List.getD_eq_getElem?_getD, hk4]; rfl)
        have HU := Lib.hid (show unB l = (l.drop 9).take N by rw [unB, if_pos HW.out, HNN.out])
        have HSl := Lib.hid (fun W (h : Sl W 1 (some ⟨g, off, none⟩) n (l.map (Value.int .u8))) => (by
          have h1 := (h.drop (k := 9) (by omega)).take (k := N) (by omega)
          rwa [← List.map_drop, ← List.map_take] at h1 : Sl W 1 (some ⟨g, off + 9, none⟩) N (((l.drop 9).take N).map (Value.int .u8))))
        have HK4 := Lib.hid hk4
        clear hk4
        generalize l[4] = k4 at *
        have hE5 : ¬ c = 9 := by omega
        have hE7 : (4 : Int) < (n : Int) := by omega
        have hE6 : (9 : Int) ≤ 9 + (N : Int) := by omega
        go_wp2_with fail
        have HB1 := Lib.hid (show w3.heap.size ≤ (w3.alloc (.cells #[] 5)).drew.heap.size by simp)
        have HO1 := Lib.hid (show (w3.alloc (.cells #[] 5)).drew.ownsRow w3.heap.size 5 1 (.slice (some ⟨w3.heap.size, 0, none⟩) 0 0) 0 [] from World.ownsRow_made w3 #[] 0 (Nat.le_refl _) (Nat.zero_le _) rfl)
        have HL1 := Lib.hid (show (0 + N) * 1 ≤ lim by unfold lim; omega)
        have HL2 := Lib.hid (show 0 + N ≤ lim by unfold lim; omega)
        have HCell := Lib.hid (fun W (h : Below w3.heap.size w3 W) => (HS3.out.keep h).again (k := 4) (by omega) (u := .int .u8 k4) (by rw [List.getElem?_map, HK4.out]; rfl))
        have hcell2 := HCell.out (w3.alloc (.cells #[] 5)) (bel_al (Below.refl _ _) _)
        have HGB := Lib.hid (fun v' w' (h : Gr (w3.alloc (.cells #[] 5)).drew w' (.slice (some ⟨w3.heap.size, 0, none⟩) 0 0) v') => (show Below w3.heap.size w3 (w3.alloc (.cells #[] 5)).drew from bel_drewN (bel_al (Below.refl _ _) _) 1).trans (h.belowOwn HB1.out HO1.out))
        go_region_law (refine step_cat_at elemByte (.tmp 55) (.tmp 58) rfl rfl HO1.out HB1.out (c := c - 9) (HSl.out _ (HS3.out.alloc _)) rfl rfl (one_u8 _) HL1.out HL2.out ?_; intro v' w' hown' hgr'; have hbw := HGB.out v' w' hgr'; have hcw := HCell.out w' hbw)
        all_goals
          go_wp2_with fail
          go_ret3
          rw [List.nil_append, Nat.zero_add] at hown'
          obtain ⟨C, k, hv', hsl⟩ := Sl.own hown'
          have hlu : (unB l).length = N := by rw [HU.out, List.length_take, List.length_drop]; omega
          refine ⟨C, k, .nilIface, by rw [HK.out, hlu, ← hv']; rfl, by rw [unE, HW.out]; rfl, by rw [hlu, HU.out]; exact hsl, ?_, HQ3.out.andThen hbw⟩
          rw [hv'] at hown'
          rw [hlu]
          exact own_cap hown'
      · have HW := Lib.hid (HW5.out hXY)
        clear HW0 HW5
        have hXY' : ((X : Int) != (Y : Int)) = true := by simp; omega
        go_wp2_with fail
        refine (New_err 8 0 txtParcel _).mono ?_
        rintro e w1 ⟨v, rfl, hv, hb1⟩
        have HV := Lib.hid hv
        clear hv
        go_wp2_with fail
        go_ret3
        exact un_bad (by rw [HW.out]; omega) (by rw [unE, HW.out]; rfl) HV.out (HQ3.out.andThen hb1)

/-- wire.Unpack. -/
theorem Unpack_any (l : List Int) (A : Option Addr) (n c : Nat) (w : World) (hnc : n ≤ c) (hc9 : c ≤ 9223372036854775807) (hn : n ≤ 1099511627776) (hl : l.length = n) (hb : Bys l) (hs : Sl w 1 A n (l.map (Value.int .u8))) :
    Calls Tryz.prog 183 #[.slice A n c] w (UnPost l w) := by
  by_cases h4 : 4 ≤ n
  · by_cases hm : l.take 4 = fwrk
    · by_cases h13 : n < 13
      · exact Unpack_2 l A n c w hnc hl hb hs h13 fun _ => hm
      · exact Unpack_3 l A n c w hnc hc9 hn hl hb hs (by omega) hm
    · exact Unpack_1 l A n c w hnc hl hb hs h4 hm
  · exact Unpack_2 l A n c w hnc hl hb hs (by omega) fun h => absurd h h4
end Go.Proofs.YtddedghnnkcnhaaGreatDoor
/-
  The document's Parcel; chapter 03's alive.
-/
namespace Go.Proofs.YtddedghnnkcnhaaGreatDoor
open Go.RowKit
set_option maxRecDepth 100000

theorem unK_pack (kd : Int) (l : List Int) (h : l.length < 4294967296) : unK (packL kd l) = kd := by
  rw [unK, if_pos (unW_pack kd l h), List.getD_eq_getElem?_getD, (packL_parts kd l).2.2.2.2.1]; rfl
theorem unB_pack (kd : Int) (l : List Int) (h : l.length < 4294967296) : unB (packL kd l) = l := by
  rw [unB, if_pos (unW_pack kd l h), (packL_parts kd l).2.1, wordN_of h, (packL_parts kd l).2.2.2.2.2]
theorem unE_pack (kd : Int) (l : List Int) (h : l.length < 4294967296) : unE (packL kd l) = .nil := by rw [unE, unW_pack kd l h]; rfl
theorem unE_nil {l : List Int} (h : unE l = .nil) : unW l = 0 := by
  unfold unE at h
  split at h
  · assumption
  all_goals cases h
theorem unE_bad {l : List Int} (h : unW l ≠ 0) : unE l ≠ .nil := fun e => h (unE_nil e)

set_option maxHeartbeats 2000000 in
theorem Parcel_any (kd : Int) (l : List Int) (A : Option Addr) (n c : Nat) (w : World) (hk : 0 ≤ kd ∧ kd ≤ 255) (hl : l.length = n) (hn : n ≤ 4000000000) (hb : Bys l) (hs : Sl w 1 A n (l.map (Value.int .u8))) :
    Calls Tryz.prog 63 #[.int .u8 kd, .slice A n c] w fun e w' => ∃ C k, e = .returned (.slice C (n + 13) k) ∧ Sl w' 1 C (n + 13) ((packL kd l).map (Value.int .u8)) ∧ Below w.heap.size w w' := by
  have kc := fun (w : World) (C : Array Value) (n c : Nat) => Lib.run_convert_bytes_const (P := Tryz.prog) w 26 5 C n c Tryz.underlying26 Tryz.underlying5
  have HS := Lib.hid hs
  have HB := Lib.hid hb
  clear hs hb
  go_enter Tryz.func63, Tryz.ntmps63
  have h1 := (Sl.newMark w [.int .u8 70, .int .u8 87, .int .u8 82, .int .u8 75] 5 (4, 5) 4 rfl).alloc (.cells #[.int .u8 kd] 5)
  have h2 := Sl.newAt (w.alloc (.cells #[.int .u8 70, .int .u8 87, .int .u8 82, .int .u8 75] 5 (4, 5))) [.int .u8 kd] 5 1 rfl
  rw [World.size_alloc] at h2
  have H1 := Lib.hid h1
  have H2 := Lib.hid h2
  have hb1 := bel_al (bel_al (Below.refl w.heap.size w) (.cells #[.int .u8 70, .int .u8 87, .int .u8 82, .int .u8 75] 5 (4, 5))) (.cells #[.int .u8 kd] 5)
  have HB1 := Lib.hid hb1
  clear h1 h2 hb1
  go_wp2_with (at_builtin; refine wpList_full elemByte _ _ rfl rfl H1.out (by omega) H2.out (by omega) rfl rfl (by simp [Value.oneCell']) (by unfold lim; omega) (by unfold lim; omega) ?_; intro v' w5 hown1 hb5)
  have HB5 := Lib.hid (HB1.out.andThen hb5)
  have HO1 := Lib.hid (own_mono hown1 (show w.heap.size ≤ _ by simp; omega))
  clear hown1 hb5 H1 H2 HB1
  refine (RefWord_any n (by omega) w5).mono ?_
  rintro e w6 ⟨A6, c6, rfl, hs6, hb6⟩
  have HB6 := Lib.hid (HB5.out.andThen hb6)
  have HO6 := Lib.hid (own_below HO1.out (fun g hg => (HO1.out.lt g hg).2) hb6)
  have HW6 := Lib.hid hs6
  clear hs6 hb6 HB5 HO1
  go_wp2_with (first
    | (at_builtin; refine wpList_cat_at elemByte _ _ rfl rfl HO6.out HB6.out.size HW6.out rfl rfl (one_u8 _) (by unfold lim; omega) (by unfold lim; omega) ?_; intro v7 w7 hown7 hg7; have HB7 := Lib.hid (HB6.out.trans (hg7.belowOwn HB6.out.size HO6.out)); have HO7 := Lib.hid hown7; have HS7 := Lib.hid (HS.out.keep HB7.out); clear hown7 hg7 HO6 HB6 HW6 HS)
    | (at_builtin; refine wpList_cat_at elemByte _ _ rfl rfl HO7.out HB7.out.size HS7.out rfl rfl (one_u8 _) (by unfold lim; omega) (by unfold lim; omega) ?_; intro v8 w8 hown8 hg8; have HB8 := Lib.hid (HB7.out.trans (hg8.belowOwn HB7.out.size HO7.out)); have HO8 := Lib.hid hown8; clear hown8 hg8 HO7 HB7 HS7))
  obtain ⟨g8, c8, rfl, _⟩ := own_form HO8.out (by omega)
  have hpre : [Value.int .u8 70, .int .u8 87, .int .u8 82, .int .u8 75] ++ [Value.int .u8 kd] ++ (wordL n).map (Value.int .u8) ++ l.map (Value.int .u8) = (preL kd l).map (Value.int .u8) := by
    rw [preL, hl]; simp [fwrk]
  rw [hpre] at HO8
  have hpl : (preL kd l).length = 4 + 1 + 4 + n := by rw [preL_len, hl]; omega
  have HP := Lib.hid (RefSum_any (preL kd l) _ _ c8 w8 hpl (by omega) (preL_bys hk HB.out) (Sl.of_own HO8.out))
  clear hpre
  refine HP.out.mono ?_
  rintro e w9 ⟨rfl, rfl⟩
  clear HP
  have hsl := sumL_lt (preL kd l)
  go_wp2_with fail
  refine (RefWord_any (sumL (preL kd l)) hsl w8).mono ?_
  rintro e w9 ⟨A9, c9, rfl, hs9, hb9⟩
  have HB9 := Lib.hid (HB8.out.andThen hb9)
  have HO9 := Lib.hid (own_below HO8.out (fun g hg => (HO8.out.lt g hg).2) hb9)
  have HW9 := Lib.hid hs9
  clear hs9 hb9 HB8 HO8
  go_wp2_with (at_builtin; refine wpList_cat_at elemByte _ _ rfl rfl HO9.out HB9.out.size HW9.out rfl rfl (one_u8 _) (by unfold lim; omega) (by unfold lim; omega) ?_; intro v10 w10 hown10 hg10)
  have hb10 := HB9.out.trans (hg10.belowOwn HB9.out.size HO9.out)
  rw [← List.map_append, show 4 + 1 + 4 + n + 4 = n + 13 by omega] at hown10
  obtain ⟨C, k, rfl, hsl10⟩ := Sl.own hown10
  have HX := Lib.hid hsl10
  clear hsl10 hown10 hg10
  go_wp2_with fail
  go_ret
  exact ⟨_, _, rfl, HX.out, hb10⟩

theorem Unpack_pack (kd : Int) (l : List Int) (A : Option Addr) (n c : Nat) (w : World) (hk : 0 ≤ kd ∧ kd ≤ 255) (hnc : n + 13 ≤ c) (hc9 : c ≤ 9223372036854775807) (hn : n ≤ 4000000000) (hl : l.length = n) (hb : Bys l) (hs : Sl w 1 A (n + 13) ((packL kd l).map (Value.int .u8))) :
    Calls Tryz.prog 183 #[.slice A (n + 13) c] w fun e w' => ∃ D k, e = .returned (.tuple #[.int .u8 kd, .slice D n k, .nilIface]) ∧ Sl w' 1 D n (l.map (Value.int .u8)) ∧ (n ≤ k ∧ k ≤ 9223372036854775807) ∧ Below w.heap.size w w' := by
  refine (Unpack_any (packL kd l) A (n + 13) c w hnc hc9 (by omega) (by rw [packL_len, hl]) (packL_bys hk hb) hs).mono ?_
  rintro e w3 ⟨D, k3, ev, rfl, hev, hs3, hk3, hb3⟩
  have hl2 : l.length < 4294967296 := by omega
  rw [unE_pack _ _ hl2] at hev
  obtain rfl : ev = .nilIface := hev
  rw [unB_pack _ _ hl2, hl] at hs3 hk3
  exact ⟨D, k3, by rw [unK_pack _ _ hl2, unB_pack _ _ hl2, hl], hs3, hk3, hb3⟩

end Go.Proofs.YtddedghnnkcnhaaGreatDoor
/-
  Errors and their values, one by one; contract of fault.First.
-/
namespace Go.Proofs.YtddedghnnkcnhaaGreatDoor
open Go.RowKit

def Err.first : List Err → Err
  | [] => .nil
  | .nil :: l => Err.first l
  | e :: _ => e
theorem Err.first_cons {E : Err} (h : E ≠ .nil) (l : List Err) : Err.first (E :: l) = E := by cases E <;> first | exact absurd rfl h | rfl

/-- Errors and their values, one by one. -/
def Err.AtAll (w : World) : List Err → List Value → Prop
  | [], vs => vs = []
  | E :: Es, vs => ∃ v vs', vs = v :: vs' ∧ E.At w v ∧ Err.AtAll w Es vs'
theorem Err.AtAll.len {w : World} : ∀ {Es : List Err} {vs : List Value}, Err.AtAll w Es vs → vs.length = Es.length
  | [], _, h => by rw [show _ = [] from h]; rfl
  | _ :: _, _, ⟨_, _, h1, _, h3⟩ => by rw [h1, List.length_cons, List.length_cons, h3.len]
theorem Err.AtAll.at_ {w : World} : ∀ {Es : List Err} {vs : List Value}, Err.AtAll w Es vs → ∀ (k : Nat) (E : Err), Es[k]? = some E → ∃ v, vs[k]? = some v ∧ E.At w v
  | [], _, _, k, E, h => by simp at h
  | _ :: _, _, ⟨v, _, h1, h2, _⟩, 0, E, h => by
    simp at h
    subst h
    exact ⟨v, by rw [h1]; rfl, h2⟩
  | _ :: _, _, ⟨_, _, h1, _, h3⟩, k + 1, E, h => by
    obtain ⟨v, hv, hE⟩ := h3.at_ k E (by simpa using h)
    exact ⟨v, by rw [h1]; simpa using hv, hE⟩
theorem Err.AtAll.keep {w w' : World} (hb : Below w.heap.size w w') : ∀ {Es : List Err} {vs : List Value}, Err.AtAll w Es vs → Err.AtAll w' Es vs
  | [], _, h => h
  | _ :: _, _, ⟨v, vs', h1, h2, h3⟩ => ⟨v, vs', h1, h2.keep hb, h3.keep hb⟩

set_option maxHeartbeats 1000000 in
theorem First_any (Es : List Err) (vs : List Value) (A : Option Addr) (n c : Nat) (w : World) (hn : n ≤ 4294967296) (hl : Es.length = n) (hE : Err.AtAll w Es vs) (hs : Sl w 1 A n vs) :
    Calls Tryz.prog 204 #[.slice A n c] w fun e w' => ∃ v', e = .returned v' ∧ (Err.first Es).At w v' ∧ w = w' := by
  go_enter Tryz.func204, Tryz.ntmps204
  go_wp2
  go_loop [7] (fun i => ∃ k : Nat, k ≤ n ∧ i = .int .i64 k ∧ Hid (Err.first Es = Err.first (Es.drop k))) (fun i => n - (intOf i).toNat)
  case atStart => exact ⟨0, Nat.zero_le _, rfl, rfl⟩
  case round =>
    obtain ⟨k, hk, rfl, HF⟩ := hrel
    by_cases hlt : k < n
    · have hl' : k < Es.length := by omega
      obtain ⟨b, off, u, rfl, e1, c1⟩ := hs.one hlt
      obtain ⟨v, e2, hv⟩ := hE.at_ k Es[k] (List.getElem?_eq_getElem hl')
      obtain rfl : u = v := Option.some.inj (e1.symm.trans e2)
      have HD := Lib.hid (List.drop_eq_getElem_cons hl')
      have HV := Lib.hid hv
      clear e1 e2 hE hs hl
      by_cases hz : Es[k] = .nil
      · rw [hz] at hv
        obtain rfl : u = .nilIface := hv
        have HZ := Lib.hid hz
        clear hz
        go_wp2
        go_round
        case rel => exact ⟨k + 1, by omega, by go_num, by show _ = _; rw [HF.out, HD.out, HZ.out]; rfl⟩
        case measure => simp [intOf]; omega
      · obtain ⟨T, x, rfl⟩ := Err.At.iface_ hv hz
        have HZ := Lib.hid hz
        clear hv hz
        go_wp2
        go_ret
        exact ⟨_, rfl, by rw [HF.out, HD.out, Err.first_cons HZ.out]; exact HV.out, rfl⟩
    · have HD := Lib.hid (show Es.drop k = [] from List.drop_eq_nil_of_le (by omega))
      clear hl hE hs
      go_wp2
      go_ret
      exact ⟨_, rfl, by rw [HF.out, HD.out]; rfl, rfl⟩
end Go.Proofs.YtddedghnnkcnhaaGreatDoor
/-
  Contracts of wire.Writer: Num, Long, Text, List, Bytes, Err.
-/
namespace Go.Proofs.YtddedghnnkcnhaaGreatDoor
open Go.RowKit
set_option maxRecDepth 100000
set_option linter.unusedVariables false

/-- An error without steps. -/
def Err.flat : Err → Prop
  | .nil => True
  | .flt _ _ _ => True
  | _ => False
theorem Err.At.far {w w' : World} : ∀ {E : Err} {v : Value}, E.flat → E.At w v → (∀ g cs, Blk w g 148 cs → Blk w' g 148 cs) → E.At w' v
  | .nil, _, _, h, _ => h
  | .flt _ _ _, _, _, ⟨g, h1, h2⟩, hk => ⟨g, h1, hk g _ h2⟩
  | .step _ _, _, hf, _, _ => hf.elim
  | .txt _, _, hf, _, _ => hf.elim
theorem Err.first2_flat {c a : Int} {s : ByteArray} : ∀ {E : Err}, E.flat → (Err.first [E, .flt c a s]).flat
  | .nil, _ => trivial
  | .flt _ _ _, _ => trivial
  | .step _ _, h => h.elim
  | .txt _, h => h.elim

theorem Err.first2_ne {c a : Int} {s : ByteArray} : ∀ {E : Err}, Err.first [E, .flt c a s] ≠ .nil
  | .nil => fun h => by cases h
  | .flt _ _ _ => fun h => by cases h
  | .step _ _ => fun h => by cases h
  | .txt _ => fun h => by cases h

def txtNumber : ByteArray := ⟨#[110, 117, 109, 98, 101, 114]⟩
/-- A writer at block g: what it has put, and its first error; its bytes lie in a row of the caller's own. -/
def Wr (w : World) (B g : Nat) (bs : List Int) (E : Err) : Prop :=
  B ≤ g ∧ E.flat ∧ ∃ bv ev, Blk w g 136 #[bv, ev] ∧ w.ownsRow B 5 1 bv bs.length (bs.map (Value.int .u8)) ∧ E.At w ev
theorem own_farBlk {w : World} {B g size n i : Nat} {t e : TypeId} {cs : Array Value} {v : Value} {xs : List Value} (h : w.ownsRow B e size v n xs) (hb : Blk w g t cs) (hne : t ≠ e) (u : Value) : (w.setCell ⟨g, i, none⟩ u).ownsRow B e size v n xs :=
  own_block h fun g' hg' => heap_setCell_other w ⟨g, i, none⟩ g' u (fun e' => own_notBlk h hb hne (by rw [hg', e']))
theorem blk_farBlk {w : World} {g g' i : Nat} {t t' : TypeId} {cs cs' : Array Value} (h : Blk w g' t' cs') (hb : Blk w g t cs) (hne : t ≠ t') (u : Value) : Blk (w.setCell ⟨g, i, none⟩ u) g' t' cs' :=
  h.far (p := ⟨g, i, none⟩) (fun e => by
    have e : g' = g := e
    subst e
    unfold Blk at h hb
    rw [h] at hb
    injection hb with hb
    injection hb with _ h3
    exact hne h3.symm) u
/-- The row is turned into another one that grew out of it. -/
theorem Wr.turn {w w' : World} {B g : Nat} {bs bs' : List Int} {E : Err} {bv bv' ev : Value} (hB : B ≤ g) (hE : E.flat) (hb : Blk w g 136 #[bv, ev]) (hown : w.ownsRow B 5 1 bv bs.length (bs.map (Value.int .u8))) (he : E.At w ev)
    (hg : w.grownBy w' bv.ownBlock) (hown' : w'.ownsRow B 5 1 bv' bs'.length (bs'.map (Value.int .u8))) : Wr (w'.setCell ⟨g, 0, none⟩ bv') B g bs' E := by
  have hb' : Blk w' g 136 #[bv, ev] := hb.others hown hg (by decide)
  refine ⟨hB, hE, bv', ev, ?_, own_farBlk hown' hb' (by decide) _, he.far hE fun g' cs h => blk_farBlk (h.others hown hg (by decide)) hb' (by decide) _⟩
  have := hb'.set_ 0 bv'
  simpa using this
theorem Wr.keep {w w' : World} {B g : Nat} {bs : List Int} {E : Err} (h : Wr w B g bs E) (hb : Below w.heap.size w w') : Wr w' B g bs E := by
  obtain ⟨h1, h2, bv, ev, h3, h4, h5⟩ := h
  exact ⟨h1, h2, bv, ev, h3.keep hb, own_below h4 (fun g hg => (h4.lt g hg).2) hb, h5.keep hb⟩

/-- What is put, and the first error. -/
abbrev St := List Int × Err
def fits (z : Int) : Prop := 0 ≤ z ∧ z ≤ 4294967295
instance (z : Int) : Decidable (fits z) := by unfold fits; exact inferInstance
def pNum (z : Int) (st : St) : St := if fits z then (st.1 ++ wordL z.toNat, st.2) else (st.1 ++ wordL 0, Err.first [st.2, .flt 3 st.1.length txtNumber])
theorem pNum_len (z : Int) (st : St) : (pNum z st).1.length = st.1.length + 4 := by unfold pNum; split <;> simp [wordL]
theorem pNum_flat (z : Int) {st : St} (h : st.2.flat) : (pNum z st).2.flat := by
  unfold pNum; split
  · exact h
  · exact Err.first2_flat h

set_option maxHeartbeats 2000000 in
theorem Num_fits (k : Nat) (hk : k < 4294967296) (g B : Nat) (bs : List Int) (E : Err) (w : World) (hW : Wr w B g bs E) (hl : bs.length ≤ 1099511627776) :
    Calls Tryz.prog 157 #[.pointer (some ⟨g, 0, none⟩), .int .i64 k] w fun e w' => e = .returned (.tuple #[]) ∧ Wr w' B g (bs ++ wordL k) E ∧ Below B w w' := by
  obtain ⟨hBg, hE, bv, ev, hb, hown, he⟩ := hW
  have hBw : B ≤ w.heap.size := Nat.le_trans hBg (Nat.le_of_lt hb.lt)
  have hc0 := hb.cell 0
  simp at hc0
  have HW := Lib.hid (word_own k hk bs bv bs.length B w rfl hown hBw hl)
  have HBk := Lib.hid hb
  have HO := Lib.hid hown
  have HE := Lib.hid he
  clear hb hown he
  go_enter Tryz.func157, Tryz.ntmps157
  go_wp2_with fail
  refine HW.out.mono ?_
  rintro e w1 ⟨v', rfl, hown1, hgr⟩
  obtain ⟨g1, c1, rfl, _⟩ := own_form hown1 (by omega)
  have hb1 := hgr.blkOwn HBk.out HO.out (by decide)
  have hcell := hb1.cell 0
  simp at hcell
  have hfr := hb1.frozen 0
  have HT := Lib.hid (Wr.turn (bs' := bs ++ wordL k) hBg hE HBk.out HO.out HE.out hgr.g (by rw [List.length_append, wordL_len]; exact hown1))
  have HB1 := Lib.hid (hgr.belowOwn hBw HO.out)
  clear hown1 hgr hb1 HW
  go_wp2_with fail
  go_end0
  exact ⟨rfl, HT.out, HB1.out.setCell (p := ⟨g, 0, none⟩) hBg _⟩

end Go.Proofs.YtddedghnnkcnhaaGreatDoor
/-
  Contracts of wire.Writer: Num, List where all fits: rows of other cells are left be.
-/
namespace Go.Proofs.YtddedghnnkcnhaaGreatDoor
open Go.RowKit
set_option maxRecDepth 100000
set_option linter.unusedVariables false

/-- All is left be but cells of bytes and of writers. -/
def okO (o : Obj) : Prop := ∀ cs t fr, o = .cells cs t fr → t ≠ 5 ∧ t ≠ 136
def WkT (w w' : World) : Prop := w.heap.size ≤ w'.heap.size ∧ ∀ (k : Nat) (o : Obj), okO o → w.heap[k]? = some o → w'.heap[k]? = some o
theorem WkT.refl (w : World) : WkT w w := ⟨Nat.le_refl _, fun _ _ _ h => h⟩
theorem WkT.trans {a b c : World} (h : WkT a b) (k : WkT b c) : WkT a c := ⟨Nat.le_trans h.1 k.1, fun i o ho hi => k.2 i o ho (h.2 i o ho hi)⟩
theorem WkT.of {w w' : World} (h : Below w.heap.size w w') : WkT w w' := ⟨h.size, fun k o _ hk => (h.block k (Array.getElem?_eq_some_iff.1 hk).1).trans hk⟩
theorem WkT.grown {w w' : World} {B n : Nat} {v : Value} {xs : List Value} (hown : w.ownsRow B 5 1 v n xs) (hg : w.grownBy w' v.ownBlock) : WkT w w' := ⟨hg.size, fun k o ho hk => by
  refine (hg.block k (Array.getElem?_eq_some_iff.1 hk).1 fun e => ?_).trans hk
  rcases hown.2 with ⟨rfl, _⟩ | ⟨g, cap, cur, rfl, _, h2, _⟩
  · simp [Value.ownBlock] at e
  · obtain rfl : k = g := by simpa [Value.ownBlock] using e
    rw [h2] at hk
    cases hk
    exact (ho _ _ _ rfl).1 rfl⟩
theorem WkT.set {w : World} {g i : Nat} {cs : Array Value} (hb : Blk w g 136 cs) (u : Value) : WkT w (w.setCell ⟨g, i, none⟩ u) := ⟨by simp, fun k o ho hk => by
  refine (Below.heap_setCell w ⟨g, i, none⟩ u k fun e => ?_).trans hk
  have e' : k = g := e
  subst e'
  unfold Blk at hb
  rw [hb] at hk
  cases hk
  exact (ho _ _ _ rfl).2 rfl⟩
theorem WkT.own {w w' : World} {B size n : Nat} {e : TypeId} {v : Value} {xs : List Value} (h : w.ownsRow B e size v n xs) (hk : WkT w w') (h1 : e ≠ 5) (h2 : e ≠ 136) : w'.ownsRow B e size v n xs := by
  refine ⟨h.1, ?_⟩
  rcases h.2 with h' | ⟨g, cap, cur, rfl, k1, k2, k3⟩
  · exact .inl h'
  · exact .inr ⟨g, cap, cur, rfl, k1, hk.2 g _ (fun cs t fr e => by cases e; exact ⟨h1, h2⟩) k2, k3⟩

set_option maxHeartbeats 2000000 in
theorem Num_K (k : Nat) (hk : k < 4294967296) (g B : Nat) (bs : List Int) (E : Err) (w : World) (hW : Wr w B g bs E) (hl : bs.length ≤ 1099511627776) :
    Calls Tryz.prog 157 #[.pointer (some ⟨g, 0, none⟩), .int .i64 k] w fun e w' => e = .returned (.tuple #[]) ∧ Wr w' B g (bs ++ wordL k) E ∧ Below B w w' ∧ WkT w w' := by
  obtain ⟨hBg, hE, bv, ev, hb, hown, he⟩ := hW
  have hBw : B ≤ w.heap.size := Nat.le_trans hBg (Nat.le_of_lt hb.lt)
  have hc0 := hb.cell 0
  simp at hc0
  have HW := Lib.hid (word_own k hk bs bv bs.length B w rfl hown hBw hl)
  have HBk := Lib.hid hb
  have HO := Lib.hid hown
  have HE := Lib.hid he
  clear hb hown he
  go_enter Tryz.func157, Tryz.ntmps157
  go_wp2_with fail
  refine HW.out.mono ?_
  rintro e w1 ⟨v', rfl, hown1, hgr⟩
  obtain ⟨g1, c1, rfl, _⟩ := own_form hown1 (by omega)
  have hb1 := hgr.blkOwn HBk.out HO.out (by decide)
  have hcell := hb1.cell 0
  simp at hcell
  have hfr := hb1.frozen 0
  have HT := Lib.hid (Wr.turn (bs' := bs ++ wordL k) hBg hE HBk.out HO.out HE.out hgr.g (by rw [List.length_append, wordL_len]; exact hown1))
  have HB1 := Lib.hid (hgr.belowOwn hBw HO.out)
  have HK1 := Lib.hid ((WkT.grown HO.out hgr.g).trans (WkT.set (i := 0) hb1 (.slice (some ⟨g1, 0, none⟩) (bs.length + 4) c1)))
  clear hown1 hgr hb1 HW
  go_wp2_with fail
  go_end0
  exact ⟨rfl, HT.out, HB1.out.setCell (p := ⟨g, 0, none⟩) hBg _, HK1.out⟩
/-- A list in bytes. -/
def encW (l : List Int) : List Int := wordL l.length ++ l.flatMap fun x => wordL x.toNat
theorem encF_len (l : List Int) : (l.flatMap fun x => wordL x.toNat).length = 4 * l.length := by
  induction l with
  | nil => rfl
  | cons x l ih => rw [List.flatMap_cons, List.length_append, ih, wordL_len, List.length_cons]; omega
theorem encW_len (l : List Int) : (encW l).length = 4 + 4 * l.length := by unfold encW; rw [List.length_append, encF_len, wordL_len]
theorem fits_nat {z : Int} (h : fits z) : ∃ k : Nat, z = (k : Int) ∧ k < 4294967296 := ⟨z.toNat, by have := h.1; omega, by have := h.1; have := h.2; omega⟩

set_option maxHeartbeats 2000000 in
theorem List_K (l : List Int) (hr : ∀ x ∈ l, fits x) (A : Option Addr) (n c : Nat) (hn : n ≤ 268435456) (hln : l.length = n) (g B : Nat) (bs : List Int) (E : Err) (w : World)
    (hsB : ∀ w', Below B w w' → WkT w w' → Sl w' 1 A n (l.map (Value.int .i64))) (hW : Wr w B g bs E) (hl : bs.length ≤ 1099511627) :
    Calls Tryz.prog 92 #[.pointer (some ⟨g, 0, none⟩), .slice A n c] w fun e w' => e = .returned (.tuple #[]) ∧ Wr w' B g (bs ++ encW l) E ∧ Below B w w' ∧ WkT w w' := by
  have HN := Lib.hid (Num_K n (by omega) g B bs E w hW (by omega))
  have HSB := Lib.hid hsB
  have HR := Lib.hid hr
  have HL := Lib.hid hl
  clear hW hsB hr hl
  go_enter Tryz.func92, Tryz.ntmps92
  go_wp2_with fail
  refine HN.out.mono ?_
  rintro e w1 ⟨rfl, hW1, hb1, hk1⟩
  have HW1 := Lib.hid hW1
  have HB1 := Lib.hid hb1
  have HK1 := Lib.hid hk1
  clear hW1 hb1 hk1 HN
  go_wp2_with fail
  go_loopw [12] (fun iv wr => ∃ i : Nat, i ≤ n ∧ iv = .int .i64 i ∧ Hid (Wr wr B g (bs ++ wordL n ++ (l.take i).flatMap fun x => wordL x.toNat) E) ∧ Hid (Below B w wr) ∧ Hid (WkT w wr)) (fun iv _ => n - (intOf iv).toNat)
  case atStart => exact ⟨0, Nat.zero_le _, rfl, Lib.hid (by rw [List.take_zero, List.flatMap_nil, List.append_nil]; exact HW1.out), HB1, HK1⟩
  case round =>
    clear HW1 HB1 HK1
    obtain ⟨i, hi, rfl, HWr, HB, HK⟩ := hrel
    by_cases hlt : i < n
    · have hj : i < l.length := by omega
      obtain ⟨b, off, u, rfl, e1, c1⟩ := (HSB.out wr HB.out HK.out).one hlt
      rw [List.getElem?_map, List.getElem?_eq_getElem hj] at e1
      obtain rfl := Option.some.inj e1
      have HT := Lib.hid (List.take_succ_eq_append_getElem hj)
      have hz := HR.out _ (List.getElem_mem hj)
      generalize l[i] = z at *
      obtain ⟨k, rfl, hk⟩ := fits_nat hz
      have HZ := Lib.hid (Num_K k hk g B _ E wr HWr.out (by
        have h1 := encF_len (l.take i)
        rw [List.length_take] at h1
        rw [List.length_append, List.length_append, h1, wordL_len]
        have := HL.out
        omega))
      clear e1 hz
      go_wp2_with fail
      refine HZ.out.mono ?_
      rintro e w2 ⟨rfl, hW2, hb2, hk2⟩
      have HW2 := Lib.hid hW2
      have HB2 := Lib.hid (HB.out.trans hb2)
      have HK2 := Lib.hid (HK.out.trans hk2)
      clear hW2 hb2 hk2 HZ
      go_wp2_with fail
      go_roundw
      case rel => exact ⟨i + 1, by omega, by go_num, Lib.hid (by rw [HT.out, List.flatMap_append, ← List.append_assoc]; simpa using HW2.out), HB2, HK2⟩
      case measure => simp [intOf]; omega
    · obtain rfl : i = n := by omega
      rw [List.take_of_length_le (by omega)] at HWr
      go_wp2_with fail
      go_end0
      refine ⟨rfl, ?_, HB.out, HK.out⟩
      unfold encW
      rw [hln, ← List.append_assoc]
      exact HWr.out
end Go.Proofs.YtddedghnnkcnhaaGreatDoor
/-
  Contracts of wire.Writer: Bytes; bytes.Clone.
-/
namespace Go.Proofs.YtddedghnnkcnhaaGreatDoor
open Go.RowKit
set_option maxRecDepth 100000
set_option linter.unusedVariables false

set_option maxHeartbeats 2000000 in
theorem Clone_any (l : List Int) (A : Option Addr) (n c : Nat) (w : World) (hl : l.length = n) (hn : n ≤ 1099511627776) (hs : Sl w 1 A n (l.map (Value.int .u8))) :
    Calls Tryz.prog 158 #[.slice A n c] w fun e w' => ∃ C k, e = .returned (.slice C n k) ∧ Sl w' 1 C n (l.map (Value.int .u8)) ∧ (n ≤ k ∧ k ≤ 9223372036854775807) ∧ Below w.heap.size w w' := by
  have nn := fun (w : World) (a : Option Addr) (n c : Nat) => Lib.run_eql_slice_nil (P := Tryz.prog) w 26 5 a n c 0 0 Tryz.underlying26
  have HS := Lib.hid hs
  go_enter Tryz.func158, Tryz.ntmps158
  rcases A with _ | A
  · have hn0 : n = 0 := by
      rcases Nat.eq_zero_or_pos n with h | h
      · exact h
      · obtain ⟨_, _, h, _⟩ := hs.2 h; cases h
    subst hn0
    clear hs
    go_wp2_with fail
    go_ret
    exact ⟨none, 0, rfl, HS.out, by omega, Below.refl _ _⟩
  · have hbA := bel_al (Below.refl w.heap.size w) (.cells #[] 5)
    have HOE := Lib.hid (World.ownsRow_made (e := 5) (size := 1) w #[] 0 (Nat.le_refl _) (Nat.zero_le _) rfl)
    have HBA := Lib.hid hbA
    have SPA := Lib.hid (HS.out.keep hbA)
    clear hs hbA
    go_wp2_with (at_builtin; refine wpList_cat_at elemByte _ _ rfl rfl HOE.out HBA.out.size SPA.out rfl rfl (one_u8 _) (by unfold lim; omega) (by unfold lim; omega) ?_; intro v8 w8 hown8 hg8; have HO8 := Lib.hid hown8; have HB8 := Lib.hid (HBA.out.trans (hg8.belowOwn HBA.out.size HOE.out)); clear hown8 hg8 HOE HBA SPA)
    go_ret
    have hown := HO8.out
    rw [List.nil_append, Nat.zero_add] at hown
    obtain ⟨C, k, rfl, hsl⟩ := Sl.own hown
    exact ⟨C, k, rfl, hsl, own_cap hown, HB8.out⟩

theorem Bytes_any (g B : Nat) (st : St) (w : World) (hW : Wr w B g st.1 st.2) (hl : st.1.length ≤ 1099511627776) :
    Calls Tryz.prog 93 #[.pointer (some ⟨g, 0, none⟩)] w fun e w' => ∃ C k, e = .returned (.slice C st.1.length k) ∧ Sl w' 1 C st.1.length (st.1.map (Value.int .u8)) ∧ (st.1.length ≤ k ∧ k ≤ 9223372036854775807) ∧ Below w.heap.size w w' := by
  obtain ⟨hBg, hE, bv, ev, hb, hown, he⟩ := hW
  have hc0 := hb.cell 0
  simp at hc0
  obtain ⟨A0, n0, rfl, hsl0⟩ := Sl.own hown
  have HC := Lib.hid (Clone_any st.1 A0 st.1.length n0 w rfl hl hsl0)
  clear hb hown he hsl0
  go_enter Tryz.func93, Tryz.ntmps93
  go_wp2_with fail
  refine HC.out.mono ?_
  rintro e w1 ⟨C, k, rfl, hs1, hk1, hb1⟩
  have HS1 := Lib.hid hs1
  clear hs1 HC
  go_wp2_with fail
  go_ret
  exact ⟨_, _, rfl, HS1.out, hk1, hb1⟩
end Go.Proofs.YtddedghnnkcnhaaGreatDoor
