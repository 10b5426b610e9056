/-
  Part 24 of the proof of LoadSpoilt: LdS, LdT, LdY, LoadSpoilt.
-/
import Derived.BigQuiet
import Derived.Deep.RegionHeld3
import Derived.Test.YtbbmgcdocolakaaGreatDoorLoadSpoiltM22
import Derived.Test.YtbbmgcdocolakaaGreatDoorLoadSpoiltM12
import Derived.Test.YtbbmgcdocolakaaGreatDoorLoadSpoiltM11
import Derived.Test.YtbbmgcdocolakaaGreatDoorLoadSpoiltM20
import Derived.Test.YtbbmgcdocolakaaGreatDoorLoadSpoiltM23
import Derived.Test.YtbbmgcdocolakaaGreatDoorLoadSpoiltM18
import Derived.Test.YtbbmgcdocolakaaGreatDoorLoadSpoiltM21
import Derived.Test.YtbbmgcdocolakaaGreatDoorLoadSpoiltM19
import Derived.Test.YtbbmgcdocolakaaGreatDoorLoadSpoiltM6
set_option linter.unusedVariables false
/-
  What the document packs: two lists, a graph; load.Pack of no graph.
-/
namespace Go.Proofs.YtbbmgcdocolakaaGreatDoor
open Go.RowKit
set_option maxRecDepth 100000
set_option linter.unusedVariables false

section
attribute [local go_sem ↓] Go.wp_at_zero Go.wp_at_succ
set_option maxHeartbeats 2000000 in
/-- The document's parcel, with its room. -/
theorem Parcel_cap (kd : Int) (l : List Int) (A : Option Addr) (n c : Nat) (w : World) (hk : 0 ≤ kd ∧ kd ≤ 255) (hl : l.length = n) (hn : n ≤ 4000000000) (hb : Bys l) (hs : Sl w 1 A n (l.map (Value.int .u8))) :
    Calls Tryz.prog 22 #[.int .u8 kd, .slice A n c] w fun e w' => ∃ C k, e = .returned (.slice C (n + 13) k) ∧ Sl w' 1 C (n + 13) ((packL kd l).map (Value.int .u8)) ∧ (n + 13 ≤ k ∧ k ≤ 9223372036854775807) ∧ Below w.heap.size w w' := by
  have kc := fun (w : World) (C : Array Value) (n c : Nat) => Lib.run_convert_bytes_const (P := Tryz.prog) w 42 5 C n c Tryz.underlying42 Tryz.underlying5
  have HS := Lib.hid hs
  have HB := Lib.hid hb
  clear hs hb
  go_enter Tryz.func22, Tryz.ntmps22
  have h1 := (Sl.newMark w [.int .u8 70, .int .u8 87, .int .u8 82, .int .u8 75] 5 (4, 5) 4 rfl).alloc (.cells #[.int .u8 kd] 5)
  have h2 := Sl.newAt (w.alloc (.cells #[.int .u8 70, .int .u8 87, .int .u8 82, .int .u8 75] 5 (4, 5))) [.int .u8 kd] 5 1 rfl
  rw [World.size_alloc] at h2
  have H1 := Lib.hid h1
  have H2 := Lib.hid h2
  have hb1 := bel_al (bel_al (Below.refl w.heap.size w) (.cells #[.int .u8 70, .int .u8 87, .int .u8 82, .int .u8 75] 5 (4, 5))) (.cells #[.int .u8 kd] 5)
  have HB1 := Lib.hid hb1
  clear h1 h2 hb1
  go_wp2_with (at_builtin; refine wpList_full elemByte _ _ rfl rfl H1.out (by omega) H2.out (by omega) rfl rfl (by simp [Value.oneCell']) (by unfold lim; omega) (by unfold lim; omega) ?_; intro v' w5 hown1 hb5)
  have HB5 := Lib.hid (HB1.out.andThen hb5)
  have HO1 := Lib.hid (own_mono hown1 (show w.heap.size ≤ _ by simp; omega))
  clear hown1 hb5 H1 H2 HB1
  refine (RefWord_any n (by omega) w5).mono ?_
  rintro e w6 ⟨A6, c6, rfl, hs6, hb6⟩
  have HB6 := Lib.hid (HB5.out.andThen hb6)
  have HO6 := Lib.hid (own_below HO1.out (fun g hg => (HO1.out.lt g hg).2) hb6)
  have HW6 := Lib.hid hs6
  clear hs6 hb6 HB5 HO1
  go_wp2_with (first
    | (at_builtin; refine wpList_cat_at elemByte _ _ rfl rfl HO6.out HB6.out.size HW6.out rfl rfl (one_u8 _) (by unfold lim; omega) (by unfold lim; omega) ?_; intro v7 w7 hown7 hg7; have HB7 := Lib.hid (HB6.out.trans (hg7.belowOwn HB6.out.size HO6.out)); have HO7 := Lib.hid hown7; have HS7 := Lib.hid (HS.out.keep HB7.out); clear hown7 hg7 HO6 HB6 HW6 HS)
    | (at_builtin; refine wpList_cat_at elemByte _ _ rfl rfl HO7.out HB7.out.size HS7.out rfl rfl (one_u8 _) (by unfold lim; omega) (by unfold lim; omega) ?_; intro v8 w8 hown8 hg8; have HB8 := Lib.hid (HB7.out.trans (hg8.belowOwn HB7.out.size HO7.out)); have HO8 := Lib.hid hown8; clear hown8 hg8 HO7 HB7 HS7))
  obtain ⟨g8, c8, rfl, _⟩ := own_form HO8.out (by omega)
  have hpre : [Value.int .u8 70, .int .u8 87, .int .u8 82, .int .u8 75] ++ [Value.int .u8 kd] ++ (wordL n).map (Value.int .u8) ++ l.map (Value.int .u8) = (preL kd l).map (Value.int .u8) := by
    rw [preL, hl]; simp [fwrk]
  rw [hpre] at HO8
  have hpl : (preL kd l).length = 4 + 1 + 4 + n := by rw [preL_len, hl]; omega
  have HP := Lib.hid (RefSum_any (preL kd l) _ _ c8 w8 hpl (by omega) (preL_bys hk HB.out) (Sl.of_own HO8.out))
  clear hpre
  refine HP.out.mono ?_
  rintro e w9 ⟨rfl, rfl⟩
  clear HP
  have hsl := sumL_lt (preL kd l)
  go_wp2_with fail
  refine (RefWord_any (sumL (preL kd l)) hsl w8).mono ?_
  rintro e w9 ⟨A9, c9, rfl, hs9, hb9⟩
  have HB9 := Lib.hid (HB8.out.andThen hb9)
  have HO9 := Lib.hid (own_below HO8.out (fun g hg => (HO8.out.lt g hg).2) hb9)
  have HW9 := Lib.hid hs9
  clear hs9 hb9 HB8 HO8
  go_wp2_with (at_builtin; refine wpList_cat_at elemByte _ _ rfl rfl HO9.out HB9.out.size HW9.out rfl rfl (one_u8 _) (by unfold lim; omega) (by unfold lim; omega) ?_; intro v10 w10 hown10 hg10)
  have hb10 := HB9.out.trans (hg10.belowOwn HB9.out.size HO9.out)
  rw [← List.map_append, show 4 + 1 + 4 + n + 4 = n + 13 by omega] at hown10
  obtain ⟨C, k, rfl, hsl10⟩ := Sl.own hown10
  have HCp := Lib.hid (own_cap hown10)
  have HX := Lib.hid hsl10
  clear hsl10 hown10 hg10
  go_wp2_with fail
  go_ret
  exact ⟨_, _, rfl, HX.out, HCp.out, hb10⟩
end
theorem Its_two {w : World} {L M : List Int} {A X : Option Addr} {n c m xc : Nat} (hl : L.length = n) (hm : M.length = m) (hn60 : n ≤ 60) (hm60 : m ≤ 60) (hf : ∀ x ∈ L, fits x) (hg : ∀ x ∈ M, fits x) (hs : Sl w 1 A n (L.map (Value.int .i64))) (ht : Sl w 1 X m (M.map (Value.int .i64))) (hc : n ≤ c ∧ c ≤ 9223372036854775807) (hx : m ≤ xc ∧ xc ≤ 9223372036854775807) :
    Its (w.alloc (.cells #[.int .i64 3, .int .i64 0, .string ⟨#[]⟩, .slice A n c, .int .i64 3, .int .i64 0, .string ⟨#[]⟩, .slice X m xc] 51)) (some ⟨w.heap.size, 0, none⟩) 2 [⟨3, 0, ⟨#[]⟩, L⟩, ⟨3, 0, ⟨#[]⟩, M⟩] := by
  have hk := Blk.new w 51 #[.int .i64 3, .int .i64 0, .string ⟨#[]⟩, .slice A n c, .int .i64 3, .int .i64 0, .string ⟨#[]⟩, .slice X m xc]
  have hal := bel_al (Below.refl w.heap.size w) (.cells #[.int .i64 3, .int .i64 0, .string ⟨#[]⟩, .slice A n c, .int .i64 3, .int .i64 0, .string ⟨#[]⟩, .slice X m xc] 51)
  refine ⟨rfl, fun i x hi => ?_⟩
  match i, hi with
  | 0, hi =>
    cases hi
    refine ⟨⟨(show (-9223372036854775808 : Int) ≤ 3 ∧ (3 : Int) ≤ 9223372036854775807 by decide), (show (-9223372036854775808 : Int) ≤ 0 ∧ (0 : Int) ≤ 9223372036854775807 by decide), (show (0 : Nat) ≤ 9223372036854775807 by decide), by rw [hl]; omega, fun z hz => by have := hf z hz; unfold fits at this; omega⟩, w.heap.size, 0, A, c, rfl, ?_, ?_, ?_, ?_, ?_, ?_⟩
    · exact hk.cell 0
    · exact hk.cell 1
    · exact hk.cell 2
    · simp only; rw [hl]; exact hk.cell 3
    · simp only; rw [hl]; exact hs.keep hal
    · simp only; rw [hl]; exact hc
  | 1, hi =>
    cases hi
    refine ⟨⟨(show (-9223372036854775808 : Int) ≤ 3 ∧ (3 : Int) ≤ 9223372036854775807 by decide), (show (-9223372036854775808 : Int) ≤ 0 ∧ (0 : Int) ≤ 9223372036854775807 by decide), (show (0 : Nat) ≤ 9223372036854775807 by decide), by rw [hm]; omega, fun z hz => by have := hg z hz; unfold fits at this; omega⟩, w.heap.size, 0, X, xc, rfl, ?_, ?_, ?_, ?_, ?_, ?_⟩
    · exact hk.cell 4
    · exact hk.cell 5
    · exact hk.cell 6
    · simp only; rw [hm]; exact hk.cell 7
    · simp only; rw [hm]; exact ht.keep hal
    · simp only; rw [hm]; exact hx
  | i + 2, hi => simp at hi
theorem PutTwo_any {w : World} {L M : List Int} {A X : Option Addr} {n c m xc z : Nat} (hl : L.length = n) (hm : M.length = m) (hn60 : n ≤ 60) (hm60 : m ≤ 60) (hf : ∀ x ∈ L, fits x) (hg : ∀ x ∈ M, fits x) (hs : Sl w 1 A n (L.map (Value.int .i64))) (ht : Sl w 1 X m (M.map (Value.int .i64))) (hc : n ≤ c ∧ c ≤ 9223372036854775807) (hx : m ≤ xc ∧ xc ≤ 9223372036854775807) (hz : z = 8 + 4 * n + 4 * m) :
    Calls Tryz.prog 21 #[.slice (some ⟨w.heap.size, 0, none⟩) 2 2] (w.alloc (.cells #[.int .i64 3, .int .i64 0, .string ⟨#[]⟩, .slice A n c, .int .i64 3, .int .i64 0, .string ⟨#[]⟩, .slice X m xc] 51)) fun e w' => ∃ C kk d, e = .returned (.tuple #[.slice C z kk, .int .i64 d]) ∧ Sl w' 1 C z ((encW L ++ encW M).map (Value.int .u8)) ∧ Below w.heap.size w w' := by
  have hI := Its_two hl hm hn60 hm60 hf hg hs ht hc hx
  have hE := put_two hf hg (by omega) (by omega)
  have hzz : (encW L ++ encW M).length = z := by rw [List.length_append, encW_len, encW_len, hl, hm, hz]; omega
  refine (Put_ref _ _ 2 2 _ hI ⟨show (2 : Nat) ≤ 40 by decide, fun x hx => ?_⟩).mono fun e w' ⟨C, kk, h1, h2, h3⟩ => ?_
  · rcases List.mem_cons.1 hx with rfl | hx
    · refine ⟨(show (0 : Nat) ≤ 200 by decide), ?_, (show (0 : Int) ≤ 3 by decide), (show (3 : Int) ≤ 3 by decide)⟩
      simp only
      omega
    · obtain rfl := List.mem_singleton.1 hx
      refine ⟨(show (0 : Nat) ≤ 200 by decide), ?_, (show (0 : Int) ≤ 3 by decide), (show (3 : Int) ≤ 3 by decide)⟩
      simp only
      omega
  · rw [hE, hzz] at h1 h2
    exact ⟨C, kk, _, h1, h2, (bel_al (Below.refl _ _) _).andThen h3⟩
theorem bytesP_two (L : List Int) (F : List (Int × Int)) : encW L ++ encW (endsL F) = bytesP L F := rfl
set_option maxHeartbeats 8000000 in
theorem RPack_any {L : List Int} {E : List (Int × Int)} {A B : Option Addr} {n c m d z : Nat} {w : World} (hG : GrOK L E) (hl : L.length = n) (hn60 : n ≤ 60) (hm28 : m ≤ 30) (hc : n ≤ c ∧ c ≤ 9223372036854775807) (hs : Sl w 1 A n (L.map (Value.int .i64))) (ht : Sl w 2 B m (Rk.cells E)) (hz : z = 21 + 4 * L.length + 8 * E.length) :
    Calls Tryz.prog 25 #[.agg #[.slice A n c, .slice B m d]] w fun e w' => ∃ C k, e = .returned (.slice C z k) ∧ Sl w' 1 C z ((packG L E).map (Value.int .u8)) ∧ Below w.heap.size w w' := by
  have hb0 := bel_al (Below.refl w.heap.size w) (.cells #[.slice A n c, .slice B m d] 27)
  have HB0 := Lib.hid hb0
  have HK := Lib.hid (Blk.new w 27 #[.slice A n c, .slice B m d])
  have HS := Lib.hid (hs.keep hb0)
  have HTt := Lib.hid (ht.keep hb0)
  have HM := Lib.hid ht.len2
  have HL := Lib.hid hl
  have HR := Lib.hid hG
  have HCc := Lib.hid hc
  have HZz := Lib.hid (show z = (8 + 4 * n + 4 * (2 * m)) + 13 from by rw [hz, hl, ht.len2]; omega)
  clear hb0 hs ht hl hG hz hc
  go_enter Tryz.func25, Tryz.ntmps25
  go_wp2_with fail
  obtain ⟨w0, hw0⟩ : ∃ w0, w0 = w.alloc (.cells #[.slice A n c, .slice B m d] 27) := ⟨_, rfl⟩
  rw [← hw0] at HB0 HK HS HTt ⊢
  clear hw0
  have HCe := Lib.hid (show ∀ V, Below w0.heap.size w0 V → V.cell? ⟨w.heap.size, 0, none⟩ = some (.slice A n c) ∧ V.cell? ⟨w.heap.size, 1, none⟩ = some (.slice B m d) from fun V hV => by
    have k0 := (HK.out.keep hV).cell 0
    have k1 := (HK.out.keep hV).cell 1
    simp at k0 k1
    exact ⟨k0, k1⟩)
  go_loopw [3, 4] (fun v iv wr => ∃ k : Nat, k ≤ m ∧ iv = .int .i64 (k : Int) ∧ Hid (wr.ownsRow w0.heap.size 3 1 v (2 * k) ((endsL (E.take k)).map (Value.int .i64))) ∧ Hid (Below w0.heap.size w0 wr)) (fun _ iv _ => m - (intOf iv).toNat)
  case atStart => exact ⟨0, Nat.zero_le _, rfl, Lib.hid (by simpa [endsL] using World.ownsRow_nil _ _ _ _), Lib.hid (Below.refl _ _)⟩
  case round =>
    obtain ⟨k, hk, rfl, HO, HB⟩ := hrel
    obtain ⟨k0, k1⟩ := HCe.out wr HB.out
    by_cases hlt : k < m
    · have hlt' : (k : Int) < (m : Int) := by omega
      have hk0 : (0 : Int) ≤ (k : Int) := by omega
      obtain ⟨⟨x, y⟩, he⟩ : ∃ e, E[k]? = some e := ⟨_, List.getElem?_eq_getElem (by rw [HM.out]; exact hlt)⟩
      obtain ⟨b2, off2, rfl, c0, c1⟩ := (HTt.out.keep HB.out).edge hlt he
      simp only at c0 c1
      have HE := Lib.hid (show endsL (E.take (k + 1)) = endsL (E.take k) ++ [x, y] from by
        obtain ⟨h1, h2⟩ := List.getElem?_eq_some_iff.1 he
        rw [List.take_succ_eq_append_getElem h1, h2, endsL_snoc])
      have hbd := bel_drewN (Below.refl wr.heap.size wr) 1
      have HOd := Lib.hid (own_block HO.out (w' := wr.drewN 1) fun g hg => hbd.block g (HO.out.lt g hg).2)
      have HBd := Lib.hid (HB.out.andThen hbd)
      have HBs := Lib.hid (show w0.heap.size ≤ (wr.drewN 1).heap.size from (HB.out.andThen hbd).size)
      have HAll := Lib.hid (show ∀ V, Below w0.heap.size w0 V → V.cell? ⟨w.heap.size, 1, none⟩ = some (.slice (some ⟨b2, off2, none⟩) m d) ∧ V.cell? ⟨b2, off2 + k * 2, none⟩ = some (.int .i64 x) ∧ V.cell? ⟨b2, off2 + k * 2 + 1, none⟩ = some (.int .i64 y) from fun V hV => by
        obtain ⟨b3, off3, hA, e0, e1⟩ := (HTt.out.keep hV).edge hlt he
        cases hA
        exact ⟨(HCe.out V hV).2, e0, e1⟩)
      clear he hbd
      go_wp2_with fail
      go_region_held3 (fun w' => w'.cell? ⟨w.heap.size, 1, none⟩ = some (.slice (some ⟨b2, off2, none⟩) m d) ∧ w'.cell? ⟨b2, off2 + k * 2, none⟩ = some (.int .i64 x) ∧ w'.cell? ⟨b2, off2 + k * 2 + 1, none⟩ = some (.int .i64 y)) (go_keep)
        ((refine step_cat_at elemInt (.tmp 14) (.tmp 27) (by rfl) (by rfl) (HOd.out.alloc _) (by have := HBs.out; simp at this ⊢; omega) (Sl.newAt _ [_, _] _ 2 rfl) (by rfl) (by rfl) (by simp [Value.oneCell']) (by unfold lim; omega) (by unfold lim; omega) ?_; intro v6 w6 hown6 hgr; have HO6 := Lib.hid hown6; have HB6 := Lib.hid ((HBd.out.alloc HBs.out _).trans (hgr.belowOwn (by have := HBs.out; simp at this ⊢; omega) (HOd.out.alloc _))); obtain ⟨q1, q2, q3⟩ := HAll.out _ HB6.out; clear hown6 hgr))
      all_goals (
        go_wp2_with fail
        go_roundw
        case rel => exact ⟨k + 1, by omega, by go_num, Lib.hid (by have h := HO6.out; rw [HE.out, List.map_append, show 2 * (k + 1) = 2 * k + 2 by omega]; simpa using h), HB6⟩
        case measure => simp [intOf]; omega)
    · obtain rfl : k = m := by omega
      have hlt' : ¬ (k : Int) < (k : Int) := by omega
      rw [List.take_of_length_le (by rw [HM.out]; exact Nat.le_refl _)] at HO
      obtain ⟨X, xc, rfl, hX⟩ := Sl.own HO.out
      have hcap := own_cap HO.out
      have HX := Lib.hid hX
      have HCap := Lib.hid hcap
      have HEn := Lib.hid (show (endsL E).length = 2 * k ∧ ∀ x ∈ endsL E, fits x from ⟨by rw [endsL_len, HM.out], fun z hz => by
        obtain ⟨e, he, h⟩ := List.mem_flatMap.1 hz
        rcases List.mem_cons.1 h with rfl | h
        · exact (HR.out.fitE e he).1
        · rw [List.mem_singleton.1 h]
          exact (HR.out.fitE e he).2⟩)
      have HPt := Lib.hid (PutTwo_any (z := 8 + 4 * n + 4 * (2 * k)) HL.out HEn.out.1 hn60 (by omega) HR.out.fitL HEn.out.2 (HS.out.keep HB.out) HX.out HCc.out HCap.out rfl)
      obtain ⟨y, hy⟩ : ∃ y, y = 8 + 4 * n + 4 * (2 * k) := ⟨_, rfl⟩
      rw [← hy] at HPt HZz
      have HYl := Lib.hid (show (bytesP L E).length = y from by rw [bytesP_len5, HL.out, HM.out, hy]; omega)
      have hy9 : y ≤ 100000 := by omega
      clear hX hcap hy
      go_wp2_with (first
        | (go_at_call 21; refine HPt.out.mono ?_; clear HPt; rintro e w4 ⟨C, kk, dd, rfl, hs4, hb4⟩; have HB4 := Lib.hid hb4; have HPc := Lib.hid (Parcel_cap 1 (bytesP L E) C y kk w4 (by decide) HYl.out (by omega) bytesP_bys5 hs4); clear hs4 hb4)
        | (go_at_call 22; refine HPc.out.mono ?_; clear HPc; rintro e w5 ⟨C5, k5, rfl, hs5, _, hb5⟩; have HS5 := Lib.hid hs5; have HB5 := Lib.hid (HB4.out.andThen hb5); clear hs5 hb5))
      go_ret
      rw [HZz.out]
      exact ⟨C5, k5, rfl, HS5.out, HB0.out.andThen (HB.out.andThen HB5.out)⟩
section
attribute [local go_sem ↓] Go.wp_at_zero Go.wp_at_succ
set_option maxHeartbeats 8000000 in
/-- load.Pack of no graph. -/
theorem GPack_nil (w : World) : Calls Tryz.prog 19 #[.pointer none] w fun e w' => ∃ C k, e = .returned (.slice C 21 k) ∧ Below w.heap.size w w' := by
  have HLe := Lib.hid (GLen_nil w)
  have HEd := Lib.hid (LEdges_nil w)
  obtain ⟨w2, hw2⟩ : ∃ W, W = w.alloc (.cells #[.slice none 0 0, .nilIface] 90) := ⟨_, rfl⟩
  have HB2 := Lib.hid (show Below w.heap.size w w2 from by rw [hw2]; exact bel_al (Below.refl _ _) _)
  have HWr := Lib.hid (show Wr w2 w.heap.size w.heap.size [] .nil from by rw [hw2]; exact ⟨Nat.le_refl _, trivial, _, _, Blk.new _ _ _, World.ownsRow_nil _ _ _ _, rfl⟩)
  go_enter Tryz.func19, Tryz.ntmps19
  go_upto_region 3 with (go_at_call 12; refine HLe.out.mono ?_; clear HLe; rintro e w1 ⟨rfl, rfl⟩)
  go_loopw [3, 11] (fun lv iv wr => lv = .slice none 0 0 ∧ iv = .int .i64 0 ∧ w = wr) (fun _ iv _ => 0)
  case atStart => exact ⟨rfl, rfl, rfl⟩
  case round =>
    obtain ⟨rfl, rfl, rfl⟩ := hrel
    go_upto_region 8 with (go_at_call 43; refine HEd.out.mono ?_; clear HEd; rintro e W1 ⟨rfl, rfl⟩)
    go_loopw [4, 24] (fun ev iv wr => ev = .slice none 0 0 ∧ iv = .int .i64 0 ∧ w = wr) (fun _ iv _ => 0)
    case atStart => exact ⟨rfl, rfl, rfl⟩
    case round =>
      obtain ⟨rfl, rfl, rfl⟩ := hrel
      go_upto_region 13 with (fail)
      rw [← hw2]
      clear hw2
      have HLi := Lib.hid (List_K [] (fun x hx => absurd hx (List.not_mem_nil)) none 0 0 (by omega) rfl w.heap.size w.heap.size [] .nil w2 (fun V hV _ => Sl.nil _ _ _) HWr.out (by simp))
      go_upto_region 14 with (go_at_call 44; refine HLi.out.mono ?_; clear HLi; rintro e w3 ⟨rfl, hw3, hb3, hk3⟩; have HW3 := Lib.hid hw3; have HB3 := Lib.hid hb3; clear hw3 hb3 hk3)
      have HLi2 := Lib.hid (List_K [] (fun x hx => absurd hx (List.not_mem_nil)) none 0 0 (by omega) rfl w.heap.size w.heap.size ([] ++ encW []) .nil w3 (fun V hV _ => Sl.nil _ _ _) HW3.out (by rw [List.nil_append, encW_len]; simp))
      go_upto_region 15 with (go_at_call 44; refine HLi2.out.mono ?_; clear HLi2; rintro e w4 ⟨rfl, hw4, hb4, _⟩; have HW4 := Lib.hid (show Wr w4 w.heap.size w.heap.size (bytesP [] []) .nil from by have h := hw4; rw [List.nil_append] at h; exact h); have HB4 := Lib.hid (HB3.out.trans hb4); clear hw4 hb4)
      have hz : (bytesP [] []).length = 8 := by rw [bytesP_len5]; rfl
      have HBs := Lib.hid (Bytes_any w.heap.size w.heap.size (bytesP [] [], .nil) w4 HW4.out (by simp only; omega))
      simp only at HBs
      rw [hz] at HBs
      have HZ8 := Lib.hid hz
      clear hz
      go_wp2_with (first
        | (go_at_call 45; refine HPk.out.mono ?_; clear HPk; rintro e w6 ⟨C6, k6, rfl, _, _, hb6⟩; have HB6 := Lib.hid (HB5.out.andThen hb6); clear hb6)
        | (go_at_call 46; refine HBs.out.mono ?_; clear HBs; rintro e w5 ⟨C5, k5, rfl, hs5, hc5, hb5⟩; have HPk := Lib.hid (Pack_any 1 (bytesP [] []) C5 8 k5 w5 (by omega) HZ8.out (by omega) bytesP_bys5 hs5); have HB5 := Lib.hid hb5; clear hs5 hc5 hb5))
      go_ret
      exact ⟨C6, k6, rfl, (HB2.out.trans HB4.out).andThen HB6.out⟩
end
end Go.Proofs.YtbbmgcdocolakaaGreatDoor
/-
  load.Text of texts that are known, each in one shape.
-/
namespace Go.Proofs.YtbbmgcdocolakaaGreatDoor
open Go.RowKit Go.Proofs.YtbbmgcdocolakaaGreatDoor.Pg Go.Proofs.YtbbmgcdocolakaaGreatDoor.Tx Go.Proofs.YtbbmgcdocolakaaGreatDoor.Cf
set_option maxRecDepth 100000
set_option linter.unusedVariables false

theorem GrOK.natG {L : List Int} {F : List (Int × Int)} (h : GrOK L F) : Ld.NatG L F := Ld.natG_of h.l9 h.f9 h.lab h.has
theorem NatG.six {L : List Int} {F : List (Int × Int)} (h : Ld.NatG L F) (h1 : ∀ x ∈ L, x < 1000000) (h2 : ∀ e ∈ F, e.1 < 1000000 ∧ e.2 < 1000000) : (∀ x ∈ L, Ld.lab6 x) ∧ (∀ e ∈ F, Ld.lab6 e.1 ∧ Ld.lab6 e.2) :=
  ⟨fun x hx => ⟨(h.lab x hx).1, h1 x hx⟩, fun e he => ⟨⟨(h.edg e he).1.1, (h2 e he).1⟩, (h.edg e he).2.1, (h2 e he).2⟩⟩
theorem GrOK.six {L : List Int} {F : List (Int × Int)} (h : GrOK L F) : (∀ x ∈ L, Ld.lab6 x) ∧ (∀ e ∈ F, Ld.lab6 e.1 ∧ Ld.lab6 e.2) :=
  NatG.six h.natG (fun x hx => by have := h.lab x hx; omega) (fun e he => by
    have h1 := h.has.ok e he
    have h2 := h.l9
    unfold Pt.EdgeOK at h1
    omega)
theorem print_len {L : List Int} {F : List (Int × Int)} (h : Ld.NatG L F) : (Ld.printL L F).length ≤ 46 * L.length + 46 * F.length := by
  have h1 := Ld.vTell_len L.length (L := L) (Nat.le_refl _) h.l9 (fun x hx => (h.lab x hx).2)
  have h2 := Ld.eTell_len F.length (F := F) (Nat.le_refl _) (fun e he => ⟨(h.edg e he).1.2, (h.edg e he).2.2⟩)
  rw [List.take_length] at h1 h2
  unfold Ld.printL
  rw [List.length_append]
  omega
theorem LText_ok {s : List UInt8} {L : List Int} {E F : List (Int × Int)} {w : World} (ht : Ld.textL s = .ok L E) (hn : Gh.newR L E = .ok F) (hz : s.length ≤ 200000) (hg : ErrT w) (hL : LibW w) :
    Calls Tryz.prog 10 #[.string (bz s)] w (OkRes L (Gh.sortG F) w) :=
  (LText_any s _ w rfl hz hg hL).mono fun e w' ⟨h1, h2⟩ => by
    rw [ht] at h2
    rcases h2 with ⟨F', g, h3, h4, h5⟩ | ⟨h3, _⟩
    · rw [hn] at h3
      injection h3 with h3
      subst h3
      exact ⟨g, h4, h5, h1⟩
    · exact absurd hn (h3 _)
theorem LText_print {L : List Int} {F : List (Int × Int)} {w : World} (h : GrOK L F) (h1 : L.length ≤ 100) (h2 : F.length ≤ 100) (hg : ErrT w) (hL : LibW w) :
    Calls Tryz.prog 10 #[.string (bz (Ld.printL L F))] w (OkRes L F w) := by
  have h3 := LText_ok (Ld.text_print h.six.1 h.six.2 (by omega)) (Gh.new_same h.l9 h.f9 h.lab h.has) (by have := print_len h.natG; omega) hg hL
  rwa [h.sort] at h3
theorem LText_bad {s : List UInt8} {k : Nat} {w : World} (ht : Ld.textL s = .bad k) (hz : s.length ≤ 200000) (hg : ErrT w) (hL : LibW w) :
    Calls Tryz.prog 10 #[.string (bz s)] w fun e w' => ∃ (T : TypeId) (x : Value), e = .returned (.tuple #[.pointer none, .iface T x]) ∧ (Err.flt 11 (k : Nat) tLine).At w' (.iface T x) ∧ Below w.heap.size w w' :=
  (LText_any s _ w rfl hz hg hL).mono fun e w' ⟨h1, h2⟩ => by
    rw [ht] at h2
    obtain ⟨v, h3, h4⟩ := h2
    obtain ⟨T, x, rfl⟩ := Err.At.iface_ h4 (fun e => by cases e)
    exact ⟨T, x, h3, h4, h1⟩
end Go.Proofs.YtbbmgcdocolakaaGreatDoor
/-
  Spoilt texts and parcels, plainly.
-/
namespace Go.Proofs.YtbbmgcdocolakaaGreatDoor
open Go.RowKit Go.Proofs.YtbbmgcdocolakaaGreatDoor.Pg Go.Proofs.YtbbmgcdocolakaaGreatDoor.Tx Go.Proofs.YtbbmgcdocolakaaGreatDoor.Cf
set_option maxRecDepth 100000
set_option linter.unusedVariables false

def badB : Nat → List UInt8
  | 0 => [120, 32, 48, 32, 48]
  | 1 => [101, 32, 48]
  | 2 => [101, 32, 48, 32, 32, 49]
  | 3 => [101, 32, 48, 49, 32, 49]
  | 4 => []
  | 5 => [101, 32, 48, 32, 49, 32]
  | 6 => [101, 32, 48, 32, 57, 57, 57, 57, 57, 57, 57]
  | _ => [118, 32, 57, 57, 32, 48]
theorem badB_no : ∀ i, (10 : UInt8) ∉ badB i
  | 0 => by decide
  | 1 => by decide
  | 2 => by decide
  | 3 => by decide
  | 4 => by decide
  | 5 => by decide
  | 6 => by decide
  | _ + 7 => by show (10 : UInt8) ∉ [118, 32, 57, 57, 32, 48]; decide
theorem badB_len : ∀ i, (badB i).length ≤ 11
  | 0 => by decide
  | 1 => by decide
  | 2 => by decide
  | 3 => by decide
  | 4 => by decide
  | 5 => by decide
  | 6 => by decide
  | _ + 7 => by show [118, 32, 57, 57, 32, 48].length ≤ 11; decide
theorem bad_line {L : List Int} {F : List (Int × Int)} (h : L.length ≤ 10) : ∀ i, Ld.lineL L F (badB i) = none
  | 0 => rfl
  | 1 => rfl
  | 2 => rfl
  | 3 => rfl
  | 4 => rfl
  | 5 => rfl
  | 6 => rfl
  | _ + 7 => by
    have h1 : Ld.lineL L F [118, 32, 57, 57, 32, 48] = if 99 = L.length ∧ F = [] then some (L ++ [((0 : Nat) : Int)], F) else none := rfl
    show Ld.lineL L F [118, 32, 57, 57, 32, 48] = none
    rw [h1, if_neg (by omega)]
theorem text_spoilt {L : List Int} {F : List (Int × Int)} (h : GrOK L F) (h10 : L.length ≤ 10) (i : Nat) (t : List UInt8) : Ld.textL ((Ld.printL L F ++ (badB i ++ [10])) ++ t) = .bad (L.length + F.length) := by
  rw [List.append_assoc, Ld.text_more _ h.six.1 h.six.2 (by omega), List.append_assoc, List.cons_append, List.nil_append, split1_app _ (badB_no i)]
  exact Ld.goL_none (split1_ne _ _) (bad_line h10 i)
theorem kind_no {kd : Int} {body : List Int} (hk : kd ≠ 1) (hb : body.length < 4294967296) (L : List Int) (F : List (Int × Int)) : ¬ BytG (packL kd body) L F := fun ⟨E, h, _⟩ => by
  have h1 := (byt_parts h).2.1
  rw [unK_pack kd body hb] at h1
  exact hk h1
theorem odd_no {L M : List Int} (hL : L.length ≤ 4096) (hM : M.length ≤ 4096) (ho : M.length % 2 = 1) (L' : List Int) (F : List (Int × Int)) : ¬ BytG (packL 1 (encW L ++ encW M)) L' F := fun ⟨E, h, _⟩ => by
  obtain ⟨h1, h2, h3, _⟩ := h
  have hl1 : (encW L ++ encW M).length < 4294967296 := by rw [List.length_append, encW_len, encW_len]; omega
  have hl2 : (bytesP L' E).length < 4294967296 := by rw [bytesP_len5]; omega
  have h4 := congrArg unB h1
  rw [packG, unB_pack _ _ hl2, unB_pack _ _ hl1] at h4
  have h5 := congrArg wordN h4
  have h6 := congrArg List.length h4
  rw [bytesP_len5, List.length_append, encW_len, encW_len] at h6
  unfold bytesP encW at h5
  rw [List.append_assoc, List.append_assoc, wordN_of (by omega), wordN_of (by omega)] at h5
  omega
theorem GrOK.bare {L : List Int} {F : List (Int × Int)} (h : GrOK L F) : GrOK L [] := ⟨h.l9, by simp, h.lab, Gh.Has.nil _, List.Pairwise.nil⟩
end Go.Proofs.YtbbmgcdocolakaaGreatDoor
/-
  LoadSpoilt.
-/
namespace Go.Proofs.YtbbmgcdocolakaaGreatDoor
open Go.RowKit Go.Proofs.YtbbmgcdocolakaaGreatDoor.Pg
attribute [local go_sem ↓] Go.wp_at_zero Go.wp_at_succ
set_option maxRecDepth 100000
set_option linter.unusedVariables false

set_option maxHeartbeats 32000000 in
theorem LoadSpoilt_walk (L : List Int) (E : List (Int × Int)) (v : Int) (A B : Option Addr) (n c m d : Nat) (w : World) (hg : ErrT w) (hT : TabW w) (hL : LibW w) (hl : L.length = n) (hs : Sl w 1 A n (L.map (Value.int .i64))) (hc : n ≤ c ∧ c ≤ 9223372036854775807) (ht : Sl w 2 B m (Rk.cells E)) (hi : ∀ e ∈ E, i64e e.1 ∧ i64e e.2) (hv : 0 ≤ v ∧ v ≤ 255) :
    Calls Tryz.prog 5 #[.slice A n c, .slice B m d, .int .u8 v] w fun e w' => e = .returned (.bool true) ∧ Below w.heap.size w w' := by
  have HG := Lib.hid hg
  have HT := Lib.hid hT
  have HLw := Lib.hid hL
  have HL := Lib.hid hl
  have HS := Lib.hid hs
  have HC := Lib.hid hc
  have HAl := Lib.hid (alive05 w hg hL)
  have HMd := Lib.hid (fun W (hW : Below w.heap.size w W) => Made_any L E A B n c m d W hl (hs.keep hW) (ht.keep hW) hi)
  clear hg hT hL hl hs hc ht hi
  go_enter Tryz.func5, Tryz.ntmps5
  go_upto_region 3 with (go_at_call 7; refine HAl.out.mono ?_; clear HAl; rintro e w1 ⟨rfl, hb1⟩; have HB1 := Lib.hid hb1; clear hb1)
  have hMd := HMd.out w1 HB1.out
  clear HMd
  rcases hMd with hMd | ⟨hn10, hm30, F, hOK, hFm, hMd⟩
  · have HMn := Lib.hid hMd
    clear hMd
    go_wp2_with (go_at_call 8; refine HMn.out.mono ?_; clear HMn; rintro e w2 ⟨rfl, hb2⟩; have HB2 := Lib.hid (HB1.out.andThen hb2); clear hb2)
    go_ret
    exact ⟨rfl, bel_al HB2.out _⟩
  have HMo := Lib.hid hMd
  have HOK := Lib.hid hOK
  have HFm := Lib.hid hFm
  obtain ⟨i, hi8, hrem⟩ : ∃ i : Nat, i < 8 ∧ Int.tmod v 8 = (i : Int) := ⟨(v % 8).toNat, by omega, by rw [Int.tmod_eq_emod_of_nonneg (by omega)]; omega⟩
  have hi0 : (0 : Int) ≤ (i : Int) := by omega
  have hi8' : (i : Int) < 8 := by omega
  obtain ⟨S, hS⟩ : ∃ S, S = bz (Ld.printL L F) := ⟨_, rfl⟩
  obtain ⟨Bi, hBi⟩ : ∃ S, S = bz (badB i ++ [10]) := ⟨_, rfl⟩
  obtain ⟨X1, hX1⟩ : ∃ S, S = bz (Ld.printL L F ++ (badB i ++ [10])) := ⟨_, rfl⟩
  obtain ⟨X2, hX2⟩ : ∃ S, S = bz ((Ld.printL L F ++ (badB i ++ [10])) ++ [101, 32, 48, 32, 49, 10]) := ⟨_, rfl⟩
  have HPl := Lib.hid (show (Ld.printL L F).length ≤ 46 * 40 from by have := print_len hOK.natG; rw [HL.out, hFm] at this; omega)
  have hpl := HPl.out
  have hbl := badB_len i
  have a1 : ∀ W, (Op.stringOp .add S Bi).run Tryz.prog W = .ok (.string X1) W := Ld.addT hS hBi rfl (by simp; omega) hX1
  have a2 : ∀ W, (Op.stringOp .add X1 ⟨#[101, 32, 48, 32, 49, 10]⟩).run Tryz.prog W = .ok (.string X2) W := Ld.addT (m := [101, 32, 48, 32, 49, 10]) hX1 rfl rfl (by simp; omega) hX2
  have HSs := Lib.hid hS
  have HBi := Lib.hid hBi
  have HX2 := Lib.hid hX2
  clear hMd hOK hFm hS hBi hX1 hX2 hpl hbl
  go_upto_region 6 with (go_at_call 8; refine HMo.out.mono ?_; clear HMo; rintro e w2 ⟨g, D, dk, rfl, hg2, hd2, hb2⟩; have HG2 := Lib.hid hg2; have HD2 := Lib.hid hd2; have HB2 := Lib.hid (HB1.out.andThen hb2); clear hg2 hd2 hb2)
  obtain ⟨w3, hw3⟩ : ∃ W, W = w2.alloc (.cells #[.slice A n c, .slice D m dk] 27) := ⟨_, rfl⟩
  obtain ⟨q, hq⟩ : ∃ q, q = w2.heap.size := ⟨_, rfl⟩
  have hal := bel_al (Below.refl w2.heap.size w2) (.cells #[.slice A n c, .slice D m dk] 27)
  have HB3 := Lib.hid (show Below w.heap.size w w3 from by rw [hw3]; exact HB2.out.andThen hal)
  have HK3 := Lib.hid (show Blk w3 q 27 #[.slice A n c, .slice D m dk] from by rw [hw3, hq]; exact Blk.new _ _ _)
  have HG3 := Lib.hid (show GraphAt w3 g L F from by rw [hw3]; exact HG2.out.keep hal)
  rw [← hw3, ← hq]
  clear hw3 hq hal
  have HPr := Lib.hid (show Calls Tryz.prog 20 #[.pointer (some ⟨g, 0, none⟩)] w3 fun e w' => e = .returned (.string S) ∧ Below w3.heap.size w3 w' from by rw [HSs.out]; exact GPrint_any HG3.out HOK.out.natG (HT.out.keep HB3.out))
  have HTx := Lib.hid (show ∀ W, Below w3.heap.size w3 W → Calls Tryz.prog 10 #[.string X2] W fun e w' => ∃ (T : TypeId) (x : Value), e = .returned (.tuple #[.pointer none, .iface T x]) ∧ (Err.flt 11 ((n : Int) + (m : Int)) tLine).At w' (.iface T x) ∧ Below W.heap.size W w' from fun W hW => by
    rw [HX2.out]
    have h1 := LText_bad (w := W) (text_spoilt HOK.out (by rw [HL.out]; exact hn10) i [101, 32, 48, 32, 49, 10]) (by have := badB_len i; have := HPl.out; simp; omega) (HG.out.keep (HB3.out.andThen hW)) (HLw.out.keep (HB3.out.andThen hW))
    have h2 : ((L.length + F.length : Nat) : Int) = (n : Int) + (m : Int) := by rw [HL.out, HFm.out]; omega
    rwa [h2] at h1)
  have HKc := Lib.hid (show ∀ W, Below w3.heap.size w3 W → W.cell? ⟨q, 0, none⟩ = some (.slice A n c) ∧ W.cell? ⟨q, 1, none⟩ = some (.slice D m dk) from fun W hW => by
    have h0 := (HK3.out.keep hW).cell 0
    have h1 := (HK3.out.keep hW).cell 1
    simp at h0 h1
    exact ⟨h0, h1⟩)
  go_upto_region 7 with (go_at_call 20; refine HPr.out.mono ?_; clear HPr; rintro e w4 ⟨rfl, hb4⟩; have HQ4 := Lib.hid hb4; clear hb4)
  have xc : (w4.alloc (.cells #[.string ⟨#[120, 32, 48, 32, 48, 10]⟩, .string ⟨#[101, 32, 48, 10]⟩, .string ⟨#[101, 32, 48, 32, 32, 49, 10]⟩, .string ⟨#[101, 32, 48, 49, 32, 49, 10]⟩, .string ⟨#[10]⟩, .string ⟨#[101, 32, 48, 32, 49, 32, 10]⟩, .string ⟨#[101, 32, 48, 32, 57, 57, 57, 57, 57, 57, 57, 10]⟩, .string ⟨#[118, 32, 57, 57, 32, 48, 10]⟩] 9)).cell? ⟨w4.heap.size, i, none⟩ = some (.string Bi) := by
    rw [(Blk.new w4 9 _).cell i, HBi.out]
    rcases (show i = 0 ∨ i = 1 ∨ i = 2 ∨ i = 3 ∨ i = 4 ∨ i = 5 ∨ i = 6 ∨ i = 7 by omega) with rfl | rfl | rfl | rfl | rfl | rfl | rfl | rfl <;> rfl
  go_upto_region 8 with (fail)
  clear xc
  generalize hal : (w4.alloc (.cells #[.string ⟨#[120, 32, 48, 32, 48, 10]⟩, .string ⟨#[101, 32, 48, 10]⟩, .string ⟨#[101, 32, 48, 32, 32, 49, 10]⟩, .string ⟨#[101, 32, 48, 49, 32, 49, 10]⟩, .string ⟨#[10]⟩, .string ⟨#[101, 32, 48, 32, 49, 32, 10]⟩, .string ⟨#[101, 32, 48, 32, 57, 57, 57, 57, 57, 57, 57, 10]⟩, .string ⟨#[118, 32, 57, 57, 32, 48, 10]⟩] 9)) = w5
  have HQ5 := Lib.hid (show Below w3.heap.size w3 w5 from by rw [← hal]; exact bel_al HQ4.out _)
  clear hal
  go_upto_region 9 with (go_at_call 10; refine (HTx.out _ HQ5.out).mono ?_; clear HTx; rintro e w6 ⟨T6, x6, rfl, hv6, hb6⟩; have HQ6 := Lib.hid (HQ5.out.andThen hb6); have HV6 := Lib.hid hv6; clear hv6 hb6)
  obtain ⟨k0, k1⟩ := HKc.out w6 HQ6.out
  clear a1 a2
  go_upto_region 10 with (fail)
  clear k0 k1
  obtain ⟨z, hz⟩ : ∃ z, z = 8 + 4 * n + 4 := ⟨_, rfl⟩
  obtain ⟨y, hy⟩ : ∃ y, y = 8 + 4 * n := ⟨_, rfl⟩
  have hz9 : z ≤ 60 := by omega
  have hy9 : y ≤ 60 := by omega
  have HZl := Lib.hid (show (encW L ++ encW [0]).length = z from by rw [List.length_append, encW_len, encW_len, HL.out, hz]; simp; omega)
  have HYl := Lib.hid (show (encW L ++ encW []).length = y from by rw [List.length_append, encW_len, encW_len, HL.out, hy]; simp; omega)
  have HBa := Lib.hid (show ∀ M : List Int, Bys (encW L ++ encW M) from fun M => by
    intro x hx
    unfold encW at hx
    simp only [List.mem_append, List.mem_flatMap] at hx
    rcases hx with (hx | ⟨y, _, hx⟩) | (hx | ⟨y, _, hx⟩) <;> exact wordL_bys _ x hx)
  have hal6 := bel_al (Below.refl w6.heap.size w6) (.cells #[.int .i64 0] 3)
  have HPt := Lib.hid (by
    have h := PutTwo_any (w := w6.alloc (.cells #[.int .i64 0] 3)) (L := L) (M := [0]) (A := A) (X := some ⟨w6.heap.size, 0, none⟩) (n := n) (c := c) (m := 1) (xc := 1) (z := z) HL.out rfl (by omega) (by omega) HOK.out.fitL (fun x hx => by rw [List.mem_singleton.1 hx]; exact ⟨by decide, by decide⟩) (HS.out.keep ((HB3.out.andThen HQ6.out).andThen hal6)) (Sl.newAt w6 [.int .i64 0] _ 1 rfl) HC.out ⟨by decide, by decide⟩ (by omega)
    rw [World.size_alloc] at h
    exact h)
  have HQa := Lib.hid (show Below w3.heap.size w3 (w6.alloc (.cells #[.int .i64 0] 3)) from HQ6.out.andThen hal6)
  have HSa := Lib.hid (show (w6.alloc (.cells #[.int .i64 0] 3)).heap.size = w6.heap.size + 1 from by simp)
  have HZz := Lib.hid hz
  have HYy := Lib.hid hy
  clear hal6 hz hy
  go_upto_region 11 with (go_at_call 21; refine HPt.out.mono ?_; clear HPt; rintro e w7 ⟨C7, k7, d7, rfl, hs7, hb7⟩; have HQ7 := Lib.hid (HQa.out.andThen (by rw [HSa.out]; exact hb7)); have HV7 := Lib.hid (HV6.out.keep ((bel_al (Below.refl w6.heap.size w6) (.cells #[.int .i64 0] 3)).trans (hb7.mono (by omega)))); have HPc := Lib.hid (Parcel_cap 1 (encW L ++ encW [0]) C7 z k7 w7 (by decide) HZl.out (by omega) (HBa.out _) hs7); clear hs7 hb7)
  go_upto_region 12 with (first
    | (go_at_call 22; refine HPc.out.mono ?_; clear HPc; rintro e w8 ⟨C8, k8, rfl, hs8, hc8, hb8⟩; have HQ8 := Lib.hid (HQ7.out.andThen hb8); have HV8 := Lib.hid (HV7.out.keep hb8); have HBy := Lib.hid (Bytes_no (packL 1 (encW L ++ encW [0])) C8 (z + 13) k8 w8 (by omega) hc8 (by rw [packL_len, HZl.out]) (packL_bys (by decide) (HBa.out _)) hs8 (odd_no HOK.out.l9 (by decide) (by decide))); clear hs8 hc8 hb8)
    | (go_at_call 17; refine HBy.out.mono ?_; clear HBy; rintro e w9 ⟨s9, T9, x9, rfl, hv9, hb9⟩; have HQ9 := Lib.hid (HQ8.out.andThen hb9); have HV9 := Lib.hid (HV8.out.keep hb9); have HF9 := Lib.hid hv9; clear hv9 hb9))
  have HPt := Lib.hid (PutTwo_any (w := w9) (L := L) (M := []) (A := A) (X := none) (n := n) (c := c) (m := 0) (xc := 0) (z := y) HL.out rfl (by omega) (by omega) HOK.out.fitL (fun x hx => absurd hx (List.not_mem_nil)) (HS.out.keep (HB3.out.andThen HQ9.out)) (Sl.nil _ _ _) HC.out ⟨by decide, by decide⟩ (by have := HYy.out; omega))
  clear HV7 HV8 HQ7 HQ8
  go_upto_region 13 with (go_at_call 21; refine HPt.out.mono ?_; clear HPt; rintro e w10 ⟨C10, k10, d10, rfl, hs10, hb10⟩; have HQ10 := Lib.hid (HQ9.out.andThen hb10); have HV10 := Lib.hid (HV9.out.keep hb10); have HF10 := Lib.hid (HF9.out.keep hb10); have HS10 := Lib.hid hs10; have HPc := Lib.hid (Parcel_cap 2 (encW L ++ encW []) C10 y k10 w10 (by decide) HYl.out (by omega) (HBa.out _) hs10); clear hs10 hb10)
  go_upto_region 14 with (first
    | (go_at_call 22; refine HPc.out.mono ?_; clear HPc; rintro e w11 ⟨C11, k11, rfl, hs11, hc11, hb11⟩; have HQ11 := Lib.hid (HQ10.out.andThen hb11); have HV11 := Lib.hid (HV10.out.keep hb11); have HF11 := Lib.hid (HF10.out.keep hb11); have HS11 := Lib.hid (HS10.out.keep hb11); have HBy := Lib.hid (Bytes_no (packL 2 (encW L ++ encW [])) C11 (y + 13) k11 w11 (by omega) hc11 (by rw [packL_len, HYl.out]) (packL_bys (by decide) (HBa.out _)) hs11 (kind_no (by decide) (by rw [HYl.out]; omega))); clear hs11 hc11 hb11)
    | (go_at_call 17; refine HBy.out.mono ?_; clear HBy; rintro e w12 ⟨s12, T12, x12, rfl, hv12, hb12⟩; have HQ12 := Lib.hid (HQ11.out.andThen hb12); have HV12 := Lib.hid (HV11.out.keep hb12); have HF12 := Lib.hid (HF11.out.keep hb12); have HH12 := Lib.hid hv12; have HPd := Lib.hid (Parcel_cap 1 (encW L ++ encW []) C10 y k10 w12 (by decide) HYl.out (by omega) (HBa.out _) (HS11.out.keep hb12)); clear hv12 hb12))
  clear HV9 HV10 HV11 HF9 HF10 HF11 HQ9 HQ10 HQ11
  have HBt := Lib.hid (HOK.out.bare.byt)
  have HSr := Lib.hid (HOK.out.bare.sort)
  have HPk := Lib.hid (show packL 1 (encW L ++ encW []) = packG L [] from rfl)
  go_upto_region 15 with (first
    | (go_at_call 22; refine HPd.out.mono ?_; clear HPd; rintro e w13 ⟨C13, k13, rfl, hs13, hc13, hb13⟩; have HQ13 := Lib.hid (HQ12.out.andThen hb13); have HV13 := Lib.hid (HV12.out.keep hb13); have HF13 := Lib.hid (HF12.out.keep hb13); have HH13 := Lib.hid (HH12.out.keep hb13); rw [HPk.out] at hs13; have HBy := Lib.hid (Bytes_ok (packG L []) C13 (y + 13) k13 w13 (by omega) hc13 (by rw [← HPk.out, packL_len, HYl.out]) (packG_bys _ _) hs13 HBt.out); clear hs13 hc13 hb13)
    | (go_at_call 17; refine HBy.out.mono ?_; clear HBy; rintro e w14 ⟨gi, rfl, hg14, hb14⟩; have HQ14 := Lib.hid (HQ13.out.andThen hb14); have HV14 := Lib.hid (HV13.out.keep hb14); have HF14 := Lib.hid (HF13.out.keep hb14); have HH14 := Lib.hid (HH13.out.keep hb14); have HG14 := Lib.hid (show GraphAt w14 gi L [] from by have h := hg14; rwa [HSr.out] at h); clear hg14 hb14))
  have HErr := Lib.hid (show ∀ W, Below w14.heap.size w14 W → ErrT W from fun W hW => HG.out.keep (HB3.out.andThen (HQ14.out.andThen hW)))
  have HC1 := Lib.hid (Code_any _ _ w14 HV14.out (HErr.out _ (Below.refl _ _)))
  clear HV12 HV13 HF12 HF13 HH12 HH13 HQ12 HQ13
  go_wp2_with (first
    | (go_at_call 15; refine HC1.out.mono ?_; clear HC1; rintro e w15 ⟨rfl, hb15⟩; have HR15 := Lib.hid hb15; have HA1 := Lib.hid (At_any _ _ w15 (HV14.out.keep hb15) (HErr.out _ hb15)); simp only [Err.code]; clear hb15)
    | (go_at_call 16; refine HA1.out.mono ?_; clear HA1; rintro e w16 ⟨rfl, hb16⟩; have HR16 := Lib.hid (HR15.out.andThen hb16); have HC2 := Lib.hid (Code_any _ _ w16 (HF14.out.keep (HR15.out.andThen hb16)) (HErr.out _ (HR15.out.andThen hb16))); simp only [Err.at_]; clear hb16)
    | (go_at_call 15; refine HC2.out.mono ?_; clear HC2; rintro e w17 ⟨rfl, hb17⟩; have HR17 := Lib.hid (HR16.out.andThen hb17); have HC3 := Lib.hid (Code_any _ _ w17 (HH14.out.keep (HR16.out.andThen hb17)) (HErr.out _ (HR16.out.andThen hb17))); simp only [Err.code]; clear hb17)
    | (go_at_call 15; refine HC3.out.mono ?_; clear HC3; rintro e w18 ⟨rfl, hb18⟩; have HR18 := Lib.hid (HR17.out.andThen hb18); have HLe := Lib.hid (GLen_any (HG14.out.keep (HR17.out.andThen hb18))); have HSz := Lib.hid (GSize_any (HG14.out.keep (HR17.out.andThen hb18))); rw [HL.out] at HLe; rw [List.length_nil] at HSz; simp only [Err.code]; clear hb18)
    | (go_at_call 12; refine HLe.out.mono ?_; clear HLe; rintro e w' ⟨rfl, rfl⟩)
    | (go_at_call 13; refine HSz.out.mono ?_; clear HSz; rintro e w' ⟨rfl, rfl⟩))
  go_ret
  exact ⟨rfl, HB3.out.andThen (HQ14.out.andThen HR18.out)⟩

/-- LoadSpoilt, as its frame asks it. -/
theorem LoadSpoilt_main (A0 : Option Addr) (n0 c0 : Nat) (L : List Int) (A1 : Option Addr) (n1 c1 : Nat) (E : List (Int × Int)) (a2 : Int) (w : World) (hg : ErrT w) (hT : TabW w) (hL : LibW w) (m0 : n0 ≤ maxLen) (e0 : L.length = n0) (s0 : Sl w 1 A0 n0 (L.map (Value.int .i64))) (w0 : ∀ z ∈ L, (Lit.int .i64 z).wf = true) (q0 : n0 ≤ c0 ∧ c0 ≤ 9223372036854775807)
    (m1 : n1 ≤ maxLen) (e1 : E.length = n1) (s1 : Sl w 2 A1 n1 (Rk.cells E)) (w1 : ∀ x ∈ E, (Lit.int .i64 x.1).wf = true ∧ (Lit.int .i64 x.2).wf = true) (q1 : n1 ≤ c1 ∧ c1 ≤ 9223372036854775807) (w2 : (Lit.int .u8 a2).wf = true) :
    Calls Tryz.prog 5 #[.slice A0 n0 c0, .slice A1 n1 c1, .int .u8 a2] w fun e w' => e = .returned (.bool true) ∧ Below w.heap.size w w' :=
  LoadSpoilt_walk L E a2 A0 A1 n0 c0 n1 c1 w hg hT hL e0 s0 q0 s1 (fun e he => ⟨wf_i64 (w1 e he).1, wf_i64 (w1 e he).2⟩) (wf_u8 w2)
end Go.Proofs.YtbbmgcdocolakaaGreatDoor
