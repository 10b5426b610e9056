/-
  The document's Parcel; chapter 03's alive.
-/
import Derived.Test.YtclbbchljiagpaaDoorWireC
namespace Go.Proofs.YtclbbchljiagpaaDoor
open Go.RowKit
set_option maxRecDepth 100000

theorem unK_pack (kd : Int) (l : List Int) (h : l.length < 4294967296) : unK (packL kd l) = kd := by
  rw [unK, if_pos (unW_pack kd l h), List.getD_eq_getElem?_getD, (packL_parts kd l).2.2.2.2.1]; rfl
theorem unB_pack (kd : Int) (l : List Int) (h : l.length < 4294967296) : unB (packL kd l) = l := by
  rw [unB, if_pos (unW_pack kd l h), (packL_parts kd l).2.1, wordN_of h, (packL_parts kd l).2.2.2.2.2]
theorem unE_pack (kd : Int) (l : List Int) (h : l.length < 4294967296) : unE (packL kd l) = .nil := by rw [unE, unW_pack kd l h]; rfl
theorem unE_nil {l : List Int} (h : unE l = .nil) : unW l = 0 := by
  unfold unE at h
  split at h
  · assumption
  all_goals cases h
theorem unE_bad {l : List Int} (h : unW l ≠ 0) : unE l ≠ .nil := fun e => h (unE_nil e)

set_option maxHeartbeats 2000000 in
theorem Parcel_any (kd : Int) (l : List Int) (A : Option Addr) (n c : Nat) (w : World) (hk : 0 ≤ kd ∧ kd ≤ 255) (hl : l.length = n) (hn : n ≤ 4000000000) (hb : Bys l) (hs : Sl w 1 A n (l.map (Value.int .u8))) :
    Calls Tryd.prog 19 #[.int .u8 kd, .slice A n c] w fun e w' => ∃ C k, e = .returned (.slice C (n + 13) k) ∧ Sl w' 1 C (n + 13) ((packL kd l).map (Value.int .u8)) ∧ Below w.heap.size w w' := by
  have kc := fun (w : World) (C : Array Value) (n c : Nat) => Lib.run_convert_bytes_const (P := Tryd.prog) w 22 5 C n c Tryd.underlying22 Tryd.underlying5
  have HS := Lib.hid hs
  have HB := Lib.hid hb
  clear hs hb
  go_enter Tryd.func19, Tryd.ntmps19
  have h1 := (Sl.newMark w [.int .u8 70, .int .u8 87, .int .u8 82, .int .u8 75] 5 (4, 5) 4 rfl).alloc (.cells #[.int .u8 kd] 5)
  have h2 := Sl.newAt (w.alloc (.cells #[.int .u8 70, .int .u8 87, .int .u8 82, .int .u8 75] 5 (4, 5))) [.int .u8 kd] 5 1 rfl
  rw [World.size_alloc] at h2
  have H1 := Lib.hid h1
  have H2 := Lib.hid h2
  have hb1 := bel_al (bel_al (Below.refl w.heap.size w) (.cells #[.int .u8 70, .int .u8 87, .int .u8 82, .int .u8 75] 5 (4, 5))) (.cells #[.int .u8 kd] 5)
  have HB1 := Lib.hid hb1
  clear h1 h2 hb1
  go_wp2_with (at_builtin; refine wpList_full elemByte _ _ rfl rfl H1.out (by omega) H2.out (by omega) rfl rfl (by simp [Value.oneCell']) (by unfold lim; omega) (by unfold lim; omega) ?_; intro v' w5 hown1 hb5)
  have HB5 := Lib.hid (HB1.out.andThen hb5)
  have HO1 := Lib.hid (own_mono hown1 (show w.heap.size ≤ _ by simp; omega))
  clear hown1 hb5 H1 H2 HB1
  refine (RefWord_any n (by omega) w5).mono ?_
  rintro e w6 ⟨A6, c6, rfl, hs6, hb6⟩
  have HB6 := Lib.hid (HB5.out.andThen hb6)
  have HO6 := Lib.hid (own_below HO1.out (fun g hg => (HO1.out.lt g hg).2) hb6)
  have HW6 := Lib.hid hs6
  clear hs6 hb6 HB5 HO1
  go_wp2_with (first
    | (at_builtin; refine wpList_cat_at elemByte _ _ rfl rfl HO6.out HB6.out.size HW6.out rfl rfl (one_u8 _) (by unfold lim; omega) (by unfold lim; omega) ?_; intro v7 w7 hown7 hg7; have HB7 := Lib.hid (HB6.out.trans (hg7.belowOwn HB6.out.size HO6.out)); have HO7 := Lib.hid hown7; have HS7 := Lib.hid (HS.out.keep HB7.out); clear hown7 hg7 HO6 HB6 HW6 HS)
    | (at_builtin; refine wpList_cat_at elemByte _ _ rfl rfl HO7.out HB7.out.size HS7.out rfl rfl (one_u8 _) (by unfold lim; omega) (by unfold lim; omega) ?_; intro v8 w8 hown8 hg8; have HB8 := Lib.hid (HB7.out.trans (hg8.belowOwn HB7.out.size HO7.out)); have HO8 := Lib.hid hown8; clear hown8 hg8 HO7 HB7 HS7))
  obtain ⟨g8, c8, rfl, _⟩ := own_form HO8.out (by omega)
  have hpre : [Value.int .u8 70, .int .u8 87, .int .u8 82, .int .u8 75] ++ [Value.int .u8 kd] ++ (wordL n).map (Value.int .u8) ++ l.map (Value.int .u8) = (preL kd l).map (Value.int .u8) := by
    rw [preL, hl]; simp [fwrk]
  rw [hpre] at HO8
  have hpl : (preL kd l).length = 4 + 1 + 4 + n := by rw [preL_len, hl]; omega
  have HP := Lib.hid (RefSum_any (preL kd l) _ _ c8 w8 hpl (by omega) (preL_bys hk HB.out) (Sl.of_own HO8.out))
  clear hpre
  refine HP.out.mono ?_
  rintro e w9 ⟨rfl, rfl⟩
  clear HP
  have hsl := sumL_lt (preL kd l)
  go_wp2_with fail
  refine (RefWord_any (sumL (preL kd l)) hsl w8).mono ?_
  rintro e w9 ⟨A9, c9, rfl, hs9, hb9⟩
  have HB9 := Lib.hid (HB8.out.andThen hb9)
  have HO9 := Lib.hid (own_below HO8.out (fun g hg => (HO8.out.lt g hg).2) hb9)
  have HW9 := Lib.hid hs9
  clear hs9 hb9 HB8 HO8
  go_wp2_with (at_builtin; refine wpList_cat_at elemByte _ _ rfl rfl HO9.out HB9.out.size HW9.out rfl rfl (one_u8 _) (by unfold lim; omega) (by unfold lim; omega) ?_; intro v10 w10 hown10 hg10)
  have hb10 := HB9.out.trans (hg10.belowOwn HB9.out.size HO9.out)
  rw [← List.map_append, show 4 + 1 + 4 + n + 4 = n + 13 by omega] at hown10
  obtain ⟨C, k, rfl, hsl10⟩ := Sl.own hown10
  have HX := Lib.hid hsl10
  clear hsl10 hown10 hg10
  go_wp2_with fail
  go_ret
  exact ⟨_, _, rfl, HX.out, hb10⟩

theorem Unpack_pack (kd : Int) (l : List Int) (A : Option Addr) (n c : Nat) (w : World) (hk : 0 ≤ kd ∧ kd ≤ 255) (hnc : n + 13 ≤ c) (hc9 : c ≤ 9223372036854775807) (hn : n ≤ 4000000000) (hl : l.length = n) (hb : Bys l) (hs : Sl w 1 A (n + 13) ((packL kd l).map (Value.int .u8))) :
    Calls Tryd.prog 17 #[.slice A (n + 13) c] w fun e w' => ∃ D k, e = .returned (.tuple #[.int .u8 kd, .slice D n k, .nilIface]) ∧ Sl w' 1 D n (l.map (Value.int .u8)) ∧ (n ≤ k ∧ k ≤ 9223372036854775807) ∧ Below w.heap.size w w' := by
  refine (Unpack_any (packL kd l) A (n + 13) c w hnc hc9 (by omega) (by rw [packL_len, hl]) (packL_bys hk hb) hs).mono ?_
  rintro e w3 ⟨D, k3, ev, rfl, hev, hs3, hk3, hb3⟩
  have hl2 : l.length < 4294967296 := by omega
  rw [unE_pack _ _ hl2] at hev
  obtain rfl : ev = .nilIface := hev
  rw [unB_pack _ _ hl2, hl] at hs3 hk3
  exact ⟨D, k3, by rw [unK_pack _ _ hl2, unB_pack _ _ hl2, hl], hs3, hk3, hb3⟩

set_option maxHeartbeats 2000000 in
theorem alive03 (w : World) (hg : ErrT w) : Calls Tryd.prog 15 #[] w fun e w' => e = .returned (.bool true) ∧ Below w.heap.size w w' := by
  have kc := fun (w : World) (C : Array Value) (n c : Nat) => Lib.run_convert_bytes_const (P := Tryd.prog) w 22 5 C n c Tryd.underlying22 Tryd.underlying5
  have hab : ((strOfNums [97, 98]).toList == [97, 98]) = true := by rw [Lib.toList_data]; rfl
  have h1 := Sl.newMark w [.int .u8 97, .int .u8 98] 5 (2, 3) 2 rfl
  have hb1 := bel_al (Below.refl w.heap.size w) (.cells #[.int .u8 97, .int .u8 98] 5 (2, 3))
  have HP := Lib.hid (Pack_any 7 [97, 98] _ 2 2 _ (by omega) rfl (by omega) (by intro x hx; simp at hx; omega) h1)
  have HB1 := Lib.hid hb1
  clear h1 hb1
  go_enter Tryd.func15, Tryd.ntmps15
  go_wp2_with fail
  refine HP.out.mono ?_
  rintro e w2 ⟨C, k, rfl, hs2, hk2, hb2⟩
  have HU := Lib.hid (Unpack_pack 7 [97, 98] C 2 k w2 (by omega) hk2.1 hk2.2 (by omega) rfl (by intro x hx; simp at hx; omega) hs2)
  have HB2 := Lib.hid (HB1.out.andThen hb2)
  clear hs2 hb2 HP HB1
  go_wp2_with fail
  refine HU.out.mono ?_
  rintro e w3 ⟨D, k3, rfl, hs3, hk3, hb3⟩
  have HS3 := Lib.hid hs3
  have HB3 := Lib.hid (HB2.out.andThen hb3)
  clear hs3 hb3 hk3 HU HB2
  have h4 := Sl.newMark w3 [.int .u8 70, .int .u8 87, .int .u8 82, .int .u8 88] 5 (4, 5) 4 rfl
  have hb4 := bel_al (Below.refl w3.heap.size w3) (.cells #[.int .u8 70, .int .u8 87, .int .u8 82, .int .u8 88] 5 (4, 5))
  have HU := Lib.hid (Unpack_any [70, 87, 82, 88] _ 4 4 _ (by omega) (by omega) (by omega) rfl (by intro x hx; simp at hx; omega) h4)
  have HB4 := Lib.hid hb4
  clear h4 hb4
  go_wp2_with fail
  refine HU.out.mono ?_
  rintro e w5 ⟨D5, k5, ev5, rfl, hev5, _, _, hb5⟩
  have hun : unE [70, 87, 82, 88] = .flt 2 0 txtMark := by rw [unE, show unW [70, 87, 82, 88] = 1 by decide]; rfl
  rw [hun] at hev5
  have HE := Lib.hid hev5
  have HB5 := Lib.hid (HB4.out.andThen hb5)
  have HS5 := Lib.hid (HS3.out.keep HB5.out)
  clear hev5 hb5 HU HS3 HB4
  have HSum := Lib.hid (Sum_any [] none 0 0 w5 rfl (by omega) Bys.nil (Sl.nil _ _ _))
  have hg5 := Lib.hid (((hg.keep HB3.out)).keep HB5.out)
  go_wp2_with fail
  refine HSum.out.mono ?_
  rintro e w6 ⟨rfl, rfl⟩
  rw [show ((sumL [] : Nat) : Int) = 1 from rfl]
  obtain ⟨g, off, rfl, hc⟩ := HS5.out.2 (by omega)
  have hcv := run_convert_bytes_arg (P := Tryd.prog) w5 22 5 Tryd.underlying22 Tryd.underlying5 g off 2 k3 [97, 98] rfl (fun i hi => hc i _ (by
    rw [List.getElem?_map, List.getD_eq_getElem?_getD, List.getElem?_eq_getElem (by exact hi)]; rfl))
  have hcv2 := hcv 9 Tryd.underlying9
  clear hcv hc HSum HS5
  go_wp2_with fail
  refine (Code_any _ ev5 w5 HE.out hg5.out).mono ?_
  rintro e w7 ⟨rfl, hb7⟩
  go_wp2_with fail
  go_ret
  exact ⟨rfl, HB3.out.andThen (HB5.out.andThen hb7)⟩
end Go.Proofs.YtclbbchljiagpaaDoor
