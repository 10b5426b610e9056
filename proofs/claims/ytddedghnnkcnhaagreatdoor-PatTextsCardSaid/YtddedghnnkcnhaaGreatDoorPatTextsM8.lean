/-
  Part 8 of the proof of PatTexts: PatY, PatZ, PatH, PatJ, PatN.
-/
import Derived.BigQuiet
import Derived.Test.YtddedghnnkcnhaaGreatDoorPatTextsM4
import Derived.Test.YtddedghnnkcnhaaGreatDoorPatTextsM7
import Derived.Deep.RegionHeld3
import Derived.Deep.DeepCutAuto
import Derived.Test.YtddedghnnkcnhaaGreatDoorPatTextsM3
import Derived.Test.YtddedghnnkcnhaaGreatDoorPatTextsM5
/-
  A pattern's bytes.
-/
namespace Go.Proofs.YtddedghnnkcnhaaGreatDoor
open Go.RowKit
set_option maxRecDepth 100000
set_option linter.unusedVariables false

def endsL (E : List (Int × Int)) : List Int := E.flatMap fun e => [e.1, e.2]
theorem endsL_len (E : List (Int × Int)) : (endsL E).length = 2 * E.length := by
  unfold endsL
  induction E with
  | nil => rfl
  | cons e E ih => rw [List.flatMap_cons, List.length_append, ih, List.length_cons]; simp; omega
theorem endsL_snoc (E : List (Int × Int)) (e : Int × Int) : endsL (E ++ [e]) = endsL E ++ [e.1, e.2] := by unfold endsL; rw [List.flatMap_append]; rfl
/-- A pattern in bytes. -/
def bytesP (L : List Int) (E : List (Int × Int)) : List Int := encW L ++ encW (endsL E)

set_option maxHeartbeats 8000000 in
theorem PatBytes_any (L : List Int) (E : List (Int × Int)) (A B : Option Addr) (n c m d : Nat) (w : World) (hl : L.length = n) (hn : n ≤ 100000) (hm : m ≤ 100000) (hs : Sl w 1 A n (L.map (Value.int .i64))) (ht : Sl w 2 B m (Rk.cells E))
    (hL : ∀ x ∈ L, fits x) (hE : ∀ e ∈ E, fits e.1 ∧ fits e.2) :
    Calls Tryz.prog 24 #[pv A n c B m d] w fun e w' => ∃ C k, e = .returned (.slice C (bytesP L E).length k) ∧ Sl w' 1 C (bytesP L E).length ((bytesP L E).map (Value.int .u8)) ∧ ((bytesP L E).length ≤ k ∧ k ≤ 9223372036854775807) ∧ Below w.heap.size w w' := by
  have HS := Lib.hid hs
  have HTt := Lib.hid ht
  have HM := Lib.hid ht.len2
  have HL := Lib.hid hl
  have HiL := Lib.hid hL
  have HiE := Lib.hid hE
  clear hs ht hl hL hE
  go_enter Tryz.func24, Tryz.ntmps24
  go_wp2_with fail
  obtain ⟨W1, hW1⟩ : ∃ W1, (w.alloc (.cells #[.slice A n c, .slice B m d] 31)).alloc (.cells #[.slice none 0 0, .nilIface] 136) = W1 := ⟨_, rfl⟩
  have hb1 : Below w.heap.size w W1 := by rw [← hW1]; exact bel_al (bel_al (Below.refl _ _) _) _
  have hk1 : Blk W1 w.heap.size 31 #[.slice A n c, .slice B m d] := by rw [← hW1]; exact (Blk.new w _ _).alloc _
  have hw1 : Wr W1 (w.heap.size + 1) (w.heap.size + 1) [] .nil := by
    have h := Blk.new (w.alloc (.cells #[.slice A n c, .slice B m d] 31)) 136 #[.slice none 0 0, .nilIface]
    rw [World.size_alloc, hW1] at h
    exact ⟨Nat.le_refl _, trivial, _, _, h, World.ownsRow_nil _ _ _ _, rfl⟩
  have hs1 : W1.heap.size = w.heap.size + 2 := by rw [← hW1]; simp
  rw [hW1]
  clear hW1
  have HB1 := Lib.hid hb1
  have HK1 := Lib.hid hk1
  have HWr1 := Lib.hid hw1
  have HS1 := Lib.hid hs1
  have HCe := Lib.hid (show ∀ V, Below (w.heap.size + 1) W1 V → V.cell? ⟨w.heap.size, 0, none⟩ = some (.slice A n c) ∧ V.cell? ⟨w.heap.size, 1, none⟩ = some (.slice B m d) from fun V hV => by
    have c0 := hk1.cell 0
    have c1 := hk1.cell 1
    simp at c0 c1
    exact ⟨(hV.cell (p := ⟨w.heap.size, 0, none⟩) (by simp)).trans c0, (hV.cell (p := ⟨w.heap.size, 1, none⟩) (by simp)).trans c1⟩)
  obtain ⟨k0, k1⟩ := HCe.out W1 (Below.refl _ _)
  clear hb1 hk1 hw1 hs1
  go_wp2_with fail
  go_loopw [4, 12] (fun ev iv wr => ∃ k : Nat, k ≤ m ∧ iv = .int .i64 (k : Int) ∧ Hid (wr.ownsRow W1.heap.size 3 1 ev (2 * k) ((endsL (E.take k)).map (Value.int .i64))) ∧ Hid (Below W1.heap.size W1 wr)) (fun _ iv _ => m - (intOf iv).toNat)
  case atStart => exact ⟨0, Nat.zero_le _, rfl, Lib.hid (by simpa [endsL] using World.ownsRow_nil _ _ _ _), Lib.hid (Below.refl _ _)⟩
  case round =>
    obtain ⟨k, hk, rfl, HO, HB⟩ := hrel
    by_cases hlt : k < m
    · have hlt' : (k : Int) < (m : Int) := by omega
      have hk0 : (0 : Int) ≤ (k : Int) := by omega
      obtain ⟨⟨x, y⟩, he⟩ : ∃ e, E[k]? = some e := ⟨_, List.getElem?_eq_getElem (by rw [HM.out]; exact hlt)⟩
      obtain ⟨b2, off2, rfl, c0, c1⟩ := (HTt.out.keep (HB1.out.andThen HB.out)).edge hlt he
      simp only at c0 c1
      have HE := Lib.hid (show endsL (E.take (k + 1)) = endsL (E.take k) ++ [x, y] from by
        obtain ⟨h1, h2⟩ := List.getElem?_eq_some_iff.1 he
        rw [List.take_succ_eq_append_getElem h1, h2, endsL_snoc])
      have HOa := Lib.hid ((HO.out.alloc (.cells #[.int .i64 x, .int .i64 y] 121)).alloc (.cells #[.int .i64 x, .int .i64 y] 3))
      have HBs := Lib.hid HB.out.size
      clear he
      go_wp2_with (at_builtin; refine wpList_cat_at elemInt _ _ rfl rfl HOa.out (by have := HBs.out; simp; omega) (Sl.newAt (wr.alloc (.cells #[.int .i64 x, .int .i64 y] 121)) _ _ 2 rfl) rfl (congrArg (fun z => Value.slice (some ⟨z, 0, none⟩) 2 2) (World.size_alloc wr (.cells #[.int .i64 x, .int .i64 y] 121)).symm) (by simp [Value.oneCell']) (by unfold lim; omega) (by unfold lim; omega) ?_; intro v6 w6 hown6 hgr6; have HO6 := Lib.hid hown6; have HB6 := Lib.hid (((HB.out.alloc HBs.out (.cells #[.int .i64 x, .int .i64 y] 121)).alloc (by have := HBs.out; simp; omega) (.cells #[.int .i64 x, .int .i64 y] 3)).trans (hgr6.belowOwn (by have := HBs.out; simp; omega) HOa.out)); clear hown6 hgr6)
      go_roundw
      case rel => exact ⟨k + 1, by omega, by go_num, Lib.hid (by have h := HO6.out; rw [HE.out, List.map_append, show 2 * (k + 1) = 2 * k + 2 by omega]; simpa using h), HB6⟩
      case measure => simp [intOf]; omega
    · obtain rfl : k = m := by omega
      have hlt' : ¬ (k : Int) < (k : Int) := by omega
      rw [List.take_of_length_le (by rw [HM.out]; exact Nat.le_refl _)] at HO
      have HW0 := Lib.hid (HWr1.out.keep HB.out)
      have HLi := Lib.hid (List_K L HiL.out A n c (by omega) HL.out (w.heap.size + 1) (w.heap.size + 1) [] .nil wr (fun V hV _ => HS.out.keep ((HB1.out.andThen HB.out).trans (hV.mono (by omega)))) HW0.out (by simp))
      obtain ⟨X, xc, rfl, _⟩ := Sl.own HO.out
      have hel : (endsL E).length = 2 * k := by rw [endsL_len, HM.out]
      have hef : ∀ z ∈ endsL E, fits z := fun z hz => by
        obtain ⟨e, he, h⟩ := List.mem_flatMap.1 hz
        rcases List.mem_cons.1 h with rfl | h
        · exact (HiE.out e he).1
        · rw [List.mem_singleton.1 h]
          exact (HiE.out e he).2
      have HEl := Lib.hid (And.intro hel hef)
      obtain ⟨k0, k1⟩ := HCe.out wr (HB.out.mono (by have := HS1.out; omega))
      clear hel hef
      go_wp2_with (first
        | (go_at_call 92; refine HLi.out.mono ?_; clear HLi; rintro e w2 ⟨rfl, hw2, hb2, hk2⟩; have HW2 := Lib.hid hw2; have HB2 := Lib.hid hb2; have HLi2 := Lib.hid (List_K (endsL E) HEl.out.2 X (2 * k) xc (by omega) HEl.out.1 (w.heap.size + 1) (w.heap.size + 1) ([] ++ encW L) .nil w2 (fun V hV hk => Sl.of_own (WkT.own HO.out (hk2.trans hk) (by decide) (by decide))) hw2 (by rw [List.nil_append, encW_len, HL.out]; omega)); clear hw2 hb2 hk2)
        | (go_at_call 92; refine HLi2.out.mono ?_; clear HLi2; rintro e w3 ⟨rfl, hw3, hb3, _⟩; have HB3 := Lib.hid (HB2.out.trans hb3); have HBy := Lib.hid (Bytes_any (w.heap.size + 1) (w.heap.size + 1) (bytesP L E, .nil) w3 (by have h := hw3; rw [List.nil_append] at h; exact h) (by simp only [bytesP]; rw [List.length_append, encW_len, encW_len, HL.out, HEl.out.1]; omega)); clear hw3 hb3)
        | (go_at_call 93; refine HBy.out.mono ?_; clear HBy; rintro e w4 ⟨C, kk, rfl, hs4, hc4, hb4⟩; have HS4 := Lib.hid hs4; have HC4 := Lib.hid hc4; have HB4 := Lib.hid hb4; clear hs4 hc4 hb4)
        | fail)
      go_ret
      exact ⟨C, kk, rfl, HS4.out, HC4.out, ((HB1.out.andThen HB.out).trans (HB3.out.mono (by omega))).andThen HB4.out⟩
end Go.Proofs.YtddedghnnkcnhaaGreatDoor
/-
  The document's flat: what two patterns are held against each other by.
-/
namespace Go.Proofs.YtddedghnnkcnhaaGreatDoor
open Go.RowKit
set_option maxRecDepth 100000
set_option linter.unusedVariables false

def flatP (L : List Int) (E : List (Int × Int)) : List Int := (((L.length : Nat) : Int) :: L) ++ ((E.length : Nat) : Int) :: endsL E

set_option maxHeartbeats 8000000 in
theorem RefFlat_any (L : List Int) (E : List (Int × Int)) (A B : Option Addr) (n c m d : Nat) (w : World) (hl : L.length = n) (hn : n ≤ 100000) (hm : m ≤ 100000) (hs : Sl w 1 A n (L.map (Value.int .i64))) (ht : Sl w 2 B m (Rk.cells E)) :
    Calls Tryz.prog 91 #[pv A n c B m d] w fun e w' => ∃ v, e = .returned v ∧ w'.ownsRow w.heap.size 3 1 v (flatP L E).length ((flatP L E).map (Value.int .i64)) ∧ Below w.heap.size w w' := by
  have hb0 := bel_al (Below.refl w.heap.size w) (.cells #[.slice A n c, .slice B m d] 25)
  have HB0 := Lib.hid hb0
  have HK := Lib.hid (Blk.new w 25 #[.slice A n c, .slice B m d])
  have HS := Lib.hid (hs.keep hb0)
  have HTt := Lib.hid (ht.keep hb0)
  have HM := Lib.hid ht.len2
  have HL := Lib.hid hl
  clear hb0 hs ht hl
  go_enter Tryz.func91, Tryz.ntmps91
  go_upto_region 1 with (fail)
  obtain ⟨w0, hw0⟩ : ∃ w0, w0 = w.alloc (.cells #[.slice A n c, .slice B m d] 25) := ⟨_, rfl⟩
  have hsz : w0.heap.size = w.heap.size + 1 := by rw [hw0]; simp
  rw [← hw0] at HB0 HK HS HTt ⊢
  clear hw0
  have HCe := Lib.hid (show ∀ V, Below w0.heap.size w0 V → V.cell? ⟨w.heap.size, 0, none⟩ = some (.slice A n c) ∧ V.cell? ⟨w.heap.size, 1, none⟩ = some (.slice B m d) from fun V hV => by
    have k0 := (HK.out.keep hV).cell 0
    have k1 := (HK.out.keep hV).cell 1
    simp at k0 k1
    exact ⟨k0, k1⟩)
  have HSz := Lib.hid hsz
  clear hsz
  obtain ⟨k0, k1⟩ := HCe.out w0 (Below.refl _ _)
  have HE1 := Lib.hid (show ∀ (V : World) (x : Int), (V.alloc (.cells #[.int .i64 x] 3)).ownsRow V.heap.size 3 1 (.slice (some ⟨V.heap.size, 0, none⟩) 1 1) 1 [.int .i64 x] from fun V x => by
    have h := World.ownsRow_lit (base := V.heap.size) (size := 1) (e := 3) V #[.int .i64 x] 1 (Nat.le_refl _) (by unfold maxLen; omega) (by simp)
    simpa using h)
  have k0a := (HCe.out (w0.alloc (.cells #[.int .i64 (n : Int)] 3)) (bel_al (Below.refl _ _) _)).1
  go_upto_region 2 with (at_builtin; refine wpList_cat_at elemInt _ _ rfl rfl (HE1.out w0 (n : Int)) (by simp) (HS.out.keep (bel_al (Below.refl _ _) _)) rfl rfl (fun u hu => by obtain ⟨t, _, rfl⟩ := List.mem_map.1 hu; rfl) (by unfold lim; omega) (by unfold lim; omega) ?_; intro v2 w2 hown2 hgr2; have HO2 := Lib.hid hown2; have HB2 := Lib.hid ((bel_al (Below.refl w0.heap.size w0) (.cells #[.int .i64 (n : Int)] 3)).trans (hgr2.belowOwn (by simp) (HE1.out w0 (n : Int)))); clear hown2 hgr2)
  obtain ⟨k0, k1⟩ := HCe.out w2 HB2.out
  have hb2s := HB2.out.size
  go_upto_region 3 with (at_builtin; refine wpList_cat_at elemInt _ _ rfl rfl (HO2.out.alloc _) (by simp; omega) (Sl.newAt w2 _ _ 1 rfl) rfl rfl (by simp [Value.oneCell']) (by unfold lim; omega) (by unfold lim; omega) ?_; intro v3 w3 hown3 hgr3; have HO3 := Lib.hid hown3; have HB3 := Lib.hid ((HB2.out.alloc hb2s (.cells #[.int .i64 (m : Int)] 3)).trans (hgr3.belowOwn (by simp; omega) (HO2.out.alloc _))); clear hown3 hgr3)
  clear k0a k0 k1 hb2s
  have HO4 := Lib.hid (show w3.ownsRow w0.heap.size 3 1 v3 (n + 2 + 2 * 0) ((((n : Int) :: L) ++ (m : Int) :: endsL (E.take 0)).map (Value.int .i64)) from by
    have h := HO3.out
    rw [show 1 + n + 1 = n + 2 + 2 * 0 by omega] at h
    simpa [endsL] using h)
  clear HO3 HO2 HE1 HB2
  go_wp2_with fail
  go_loopw [3, 4] (fun v iv wr => ∃ k : Nat, k ≤ m ∧ iv = .int .i64 (k : Int) ∧ Hid (wr.ownsRow w0.heap.size 3 1 v (n + 2 + 2 * k) ((((n : Int) :: L) ++ (m : Int) :: endsL (E.take k)).map (Value.int .i64))) ∧ Hid (Below w0.heap.size w0 wr)) (fun _ iv _ => m - (intOf iv).toNat)
  case atStart => exact ⟨0, Nat.zero_le _, rfl, HO4, HB3⟩
  case round =>
    clear HO4 HB3
    obtain ⟨k, hk, rfl, HO, HB⟩ := hrel
    obtain ⟨k0, k1⟩ := HCe.out wr HB.out
    by_cases hlt : k < m
    · have hlt' : (k : Int) < (m : Int) := by omega
      have hk0 : (0 : Int) ≤ (k : Int) := by omega
      obtain ⟨⟨x, y⟩, he⟩ : ∃ e, E[k]? = some e := ⟨_, List.getElem?_eq_getElem (by rw [HM.out]; exact hlt)⟩
      obtain ⟨b2, off2, rfl, c0, c1⟩ := (HTt.out.keep HB.out).edge hlt he
      simp only at c0 c1
      have HE := Lib.hid (show endsL (E.take (k + 1)) = endsL (E.take k) ++ [x, y] from by
        obtain ⟨h1, h2⟩ := List.getElem?_eq_some_iff.1 he
        rw [List.take_succ_eq_append_getElem h1, h2, endsL_snoc])
      have hbd := bel_drewN (Below.refl wr.heap.size wr) 1
      have HOd := Lib.hid (own_block HO.out (w' := wr.drewN 1) fun g hg => hbd.block g (HO.out.lt g hg).2)
      have HBd := Lib.hid (HB.out.andThen hbd)
      have HBs := Lib.hid (show w0.heap.size ≤ (wr.drewN 1).heap.size from (HB.out.andThen hbd).size)
      have HAll := Lib.hid (show ∀ V, Below w0.heap.size w0 V → V.cell? ⟨w.heap.size, 1, none⟩ = some (.slice (some ⟨b2, off2, none⟩) m d) ∧ V.cell? ⟨b2, off2 + k * 2, none⟩ = some (.int .i64 x) ∧ V.cell? ⟨b2, off2 + k * 2 + 1, none⟩ = some (.int .i64 y) from fun V hV => by
        obtain ⟨b3, off3, hA, e0, e1⟩ := (HTt.out.keep hV).edge hlt he
        cases hA
        exact ⟨(HCe.out V hV).2, e0, e1⟩)
      clear he hbd
      go_wp2_with fail
      go_region_held3 (fun w' => w'.cell? ⟨w.heap.size, 1, none⟩ = some (.slice (some ⟨b2, off2, none⟩) m d) ∧ w'.cell? ⟨b2, off2 + k * 2, none⟩ = some (.int .i64 x) ∧ w'.cell? ⟨b2, off2 + k * 2 + 1, none⟩ = some (.int .i64 y)) (go_keep)
        ((refine step_cat_at elemInt (.tmp 25) (.tmp 38) (by rfl) (by rfl) (HOd.out.alloc _) (by have := HBs.out; simp at this ⊢; omega) (Sl.newAt _ [_, _] _ 2 rfl) (by rfl) (by rfl) (by simp [Value.oneCell']) (by unfold lim; omega) (by unfold lim; omega) ?_; intro v6 w6 hown6 hgr; have HO6 := Lib.hid hown6; have HB6 := Lib.hid ((HBd.out.alloc HBs.out _).trans (hgr.belowOwn (by have := HBs.out; simp at this ⊢; omega) (HOd.out.alloc _))); obtain ⟨q1, q2, q3⟩ := HAll.out _ HB6.out; clear hown6 hgr))
      all_goals (
        go_wp2_with fail
        go_roundw
        case rel => exact ⟨k + 1, by omega, by go_num, Lib.hid (by have h := HO6.out; rw [HE.out, show n + 2 + 2 * (k + 1) = n + 2 + 2 * k + 2 by omega]; simpa using h), HB6⟩
        case measure => simp [intOf]; omega)
    · obtain rfl : k = m := by omega
      have hlt' : ¬ (k : Int) < (k : Int) := by omega
      rw [List.take_of_length_le (by rw [HM.out]; exact Nat.le_refl _)] at HO
      go_wp2_with fail
      go_ret
      refine ⟨_, rfl, ?_, HB0.out.andThen HB.out⟩
      have h := HO.out
      have e : flatP L E = ((n : Int) :: L) ++ (k : Int) :: endsL E := by unfold flatP; rw [HL.out, HM.out]
      have e2 : (flatP L E).length = n + 2 + 2 * k := by rw [e]; simp only [List.length_append, List.length_cons, endsL_len, HL.out, HM.out]; omega
      rw [e2, e]
      exact own_mono h (by have := HSz.out; omega)
end Go.Proofs.YtddedghnnkcnhaaGreatDoor
/-
  Patterns plainly: held against each other by their flat lists.
-/
namespace Go.Proofs.YtddedghnnkcnhaaGreatDoor
open Go.RowKit
set_option linter.unusedVariables false

/-- The first of two lists' numbers that are not alike, as far as both go. -/
def cmpZ : List Int → List Int → Int
  | x :: a, y :: b => if x < y then -1 else if y < x then 1 else cmpZ a b
  | _, _ => 0
theorem cmpI_eq {x y : Int} : Pt.cmpI x y = 0 ↔ x = y := by unfold Pt.cmpI; split <;> (try split) <;> omega
theorem cmpZ_cons (x y : Int) (a b : List Int) : cmpZ (x :: a) (y :: b) = Pt.or2 (Pt.cmpI x y) (cmpZ a b) := by
  rw [cmpZ]
  unfold Pt.or2 Pt.cmpI
  by_cases h1 : x < y
  · simp [h1]
  · by_cases h2 : y < x
    · simp [h1, h2]
    · simp [h1, h2]
theorem or2_assoc (x y z : Int) : Pt.or2 (Pt.or2 x y) z = Pt.or2 x (Pt.or2 y z) := by
  unfold Pt.or2
  by_cases h : x = 0
  · simp [h]
  · simp [h]
theorem or2_zero_left (x : Int) : Pt.or2 0 x = x := by unfold Pt.or2; simp
theorem cmpBy_cons (x y : Int) (a b : List Int) : Pt.cmpBy Pt.cmpI (x :: a) (y :: b) = Pt.or2 (Pt.cmpI x y) (Pt.cmpBy Pt.cmpI a b) := by
  rw [Pt.cmpBy]
  unfold Pt.or2
  rfl
theorem cmpZ_app : ∀ {a a' : List Int} (b b' : List Int), a.length = a'.length → cmpZ (a ++ b) (a' ++ b') = Pt.or2 (Pt.cmpBy Pt.cmpI a a') (cmpZ b b')
  | [], [], b, b', _ => by rw [Pt.cmpBy, or2_zero_left]; rfl
  | x :: a, y :: a', b, b', h => by
    rw [List.cons_append, List.cons_append, cmpZ_cons, cmpZ_app b b' (by simpa using h), cmpBy_cons, or2_assoc]
theorem cmpZ_ends : ∀ {E E' : List (Int × Int)}, E.length = E'.length → cmpZ (endsL E) (endsL E') = Pt.cmpBy Pt.ordE E E'
  | [], [], _ => rfl
  | e :: E, f :: E', h => by
    have e1 : endsL (e :: E) = e.1 :: e.2 :: endsL E := rfl
    have e2 : endsL (f :: E') = f.1 :: f.2 :: endsL E' := rfl
    rw [e1, e2, cmpZ_cons, cmpZ_cons, cmpZ_ends (by simpa using h), ← or2_assoc, Pt.cmpBy]
    unfold Pt.ordE
    rfl
theorem cmpZ_flat (L L' : List Int) (E E' : List (Int × Int)) : cmpZ (flatP L E) (flatP L' E') = Pt.cmpP L E L' E' := by
  unfold flatP Pt.cmpP
  rw [List.cons_append, List.cons_append, cmpZ_cons]
  by_cases h : L.length = L'.length
  · rw [cmpZ_app _ _ h, cmpZ_cons]
    by_cases h2 : E.length = E'.length
    · rw [cmpZ_ends h2]
    · have h3 : Pt.cmpI (E.length : Int) (E'.length : Int) ≠ 0 := fun e => h2 (by have := cmpI_eq.1 e; omega)
      have : ∀ x y : Int, Pt.or2 (Pt.cmpI (E.length : Int) (E'.length : Int)) x = Pt.or2 (Pt.cmpI (E.length : Int) (E'.length : Int)) y := fun x y => by unfold Pt.or2; rw [if_neg h3, if_neg h3]
      rw [this _ (Pt.cmpBy Pt.ordE E E')]
  · have h3 : Pt.cmpI (L.length : Int) (L'.length : Int) ≠ 0 := fun e => h (by have := cmpI_eq.1 e; omega)
    unfold Pt.or2
    rw [if_neg h3, if_neg h3]
end Go.Proofs.YtddedghnnkcnhaaGreatDoor
/-
  The document's Compare of patterns.
-/
namespace Go.Proofs.YtddedghnnkcnhaaGreatDoor
open Go.RowKit
set_option maxRecDepth 100000
set_option linter.unusedVariables false

theorem cmpZ_nil {a b : List Int} (h : a = [] ∨ b = []) : cmpZ a b = 0 := by
  rcases h with rfl | rfl
  · rfl
  · cases a <;> rfl
theorem flatP_len (L : List Int) (E : List (Int × Int)) : (flatP L E).length = L.length + 2 + 2 * E.length := by unfold flatP; simp only [List.length_append, List.length_cons, endsL_len]; omega

set_option maxHeartbeats 8000000 in
theorem RefPatCompare_any (L L' : List Int) (E E' : List (Int × Int)) (A A' B B' : Option Addr) (n n' m m' c c' d d' : Nat) (w : World) (hl : L.length = n) (hn : n ≤ 100000) (hm : m ≤ 100000) (hs : Sl w 1 A n (L.map (Value.int .i64))) (ht : Sl w 2 B m (Rk.cells E))
    (hl' : L'.length = n') (hn' : n' ≤ 100000) (hm' : m' ≤ 100000) (hs' : Sl w 1 A' n' (L'.map (Value.int .i64))) (ht' : Sl w 2 B' m' (Rk.cells E')) :
    Calls Tryz.prog 23 #[pv A n c B m d, pv A' n' c' B' m' d'] w fun e w' => e = .returned (.int .i64 (Pt.cmpP L E L' E')) ∧ Below w.heap.size w w' := by
  have hb0 := bel_al (bel_al (Below.refl w.heap.size w) (.cells #[.slice A n c, .slice B m d] 25)) (.cells #[.slice A' n' c', .slice B' m' d'] 25)
  have HB0 := Lib.hid hb0
  have HK1 := Lib.hid ((Blk.new w 25 #[.slice A n c, .slice B m d]).alloc (.cells #[.slice A' n' c', .slice B' m' d'] 25))
  have HK2 := Lib.hid (show Blk ((w.alloc (.cells #[.slice A n c, .slice B m d] 25)).alloc (.cells #[.slice A' n' c', .slice B' m' d'] 25)) (w.heap.size + 1) 25 #[.slice A' n' c', .slice B' m' d'] from by
    have h := Blk.new (w.alloc (.cells #[.slice A n c, .slice B m d] 25)) 25 #[.slice A' n' c', .slice B' m' d']
    rw [World.size_alloc] at h
    exact h)
  have HF1 := Lib.hid (show ∀ V, Below w.heap.size w V → Calls Tryz.prog 91 #[pv A n c B m d] V _ from fun V hV => RefFlat_any L E A B n c m d V hl hn hm (hs.keep hV) (ht.keep hV))
  have HF2 := Lib.hid (show ∀ V, Below w.heap.size w V → Calls Tryz.prog 91 #[pv A' n' c' B' m' d'] V _ from fun V hV => RefFlat_any L' E' A' B' n' c' m' d' V hl' hn' hm' (hs'.keep hV) (ht'.keep hV))
  have HLa := Lib.hid (show (flatP L E).length = n + 2 + 2 * m from by rw [flatP_len, hl, ht.len2])
  have HLb := Lib.hid (show (flatP L' E').length = n' + 2 + 2 * m' from by rw [flatP_len, hl', ht'.len2])
  have HZ := Lib.hid (cmpZ_flat L L' E E')
  obtain ⟨a, ha⟩ : ∃ a, a = flatP L E := ⟨_, rfl⟩
  obtain ⟨b, hb⟩ : ∃ b, b = flatP L' E' := ⟨_, rfl⟩
  obtain ⟨z, hz⟩ : ∃ z, z = Pt.cmpP L E L' E' := ⟨_, rfl⟩
  rw [← ha] at HF1 HLa
  rw [← hb] at HF2 HLb
  rw [← ha, ← hb, ← hz] at HZ
  rw [← hz]
  clear hb0 hs ht hs' ht' hl hl' ha hb hz
  go_enter Tryz.func23, Tryz.ntmps23
  go_upto_region 1 with (fail)
  obtain ⟨w0, hw0⟩ : ∃ w0, w0 = (w.alloc (.cells #[.slice A n c, .slice B m d] 25)).alloc (.cells #[.slice A' n' c', .slice B' m' d'] 25) := ⟨_, rfl⟩
  rw [← hw0] at HB0 HK1 HK2 ⊢
  clear hw0
  have HAll := Lib.hid (show ∀ V, Below w0.heap.size w0 V → V.cell? ⟨w.heap.size, 0, none⟩ = some (.slice A n c) ∧ V.cell? ⟨w.heap.size, 1, none⟩ = some (.slice B m d) ∧ V.cell? ⟨w.heap.size + 1, 0, none⟩ = some (.slice A' n' c') ∧ V.cell? ⟨w.heap.size + 1, 1, none⟩ = some (.slice B' m' d') from fun V hV => by
    have k0 := (HK1.out.keep hV).cell 0
    have k1 := (HK1.out.keep hV).cell 1
    have k2 := (HK2.out.keep hV).cell 0
    have k3 := (HK2.out.keep hV).cell 1
    simp at k0 k1 k2 k3
    exact ⟨k0, k1, k2, k3⟩)
  obtain ⟨q0, q1, q2, q3⟩ := HAll.out w0 (Below.refl _ _)
  have HBc := Lib.hid (bel_drewN (Below.refl w0.heap.size w0) 1)
  go_region_held3 (fun w' => w'.cell? ⟨w.heap.size, 0, none⟩ = some (.slice A n c) ∧ w'.cell? ⟨w.heap.size, 1, none⟩ = some (.slice B m d) ∧ w'.cell? ⟨w.heap.size + 1, 0, none⟩ = some (.slice A' n' c') ∧ w'.cell? ⟨w.heap.size + 1, 1, none⟩ = some (.slice B' m' d')) (go_keep)
    (first
      | (go_at_call_of 91 (Value.agg #[Value.slice A n c, Value.slice B m d]); refine (HF1.out _ (HB0.out.andThen HBc.out)).mono ?_; rintro e w2 ⟨v1, rfl, hown1, hb2⟩; have HO1 := Lib.hid hown1; (try replace HO2 := Lib.hid (own_block HO2.out fun g hg => hb2.block g (HO2.out.lt g hg).2)); replace HBc := Lib.hid (HBc.out.andThen hb2); obtain ⟨q0, q1, q2, q3⟩ := HAll.out _ HBc.out; clear hown1 hb2)
      | (go_at_call_of 91 (Value.agg #[Value.slice A' n' c', Value.slice B' m' d']); refine (HF2.out _ (HB0.out.andThen HBc.out)).mono ?_; rintro e w3 ⟨v2, rfl, hown2, hb3⟩; have HO2 := Lib.hid hown2; (try replace HO1 := Lib.hid (own_block HO1.out fun g hg => hb3.block g (HO1.out.lt g hg).2)); replace HBc := Lib.hid (HBc.out.andThen hb3); obtain ⟨q0, q1, q2, q3⟩ := HAll.out _ HBc.out; clear hown2 hb3))
  all_goals (
    have ho1 := HO1.out
    have ho2 := HO2.out
    rw [HLa.out] at ho1
    rw [HLb.out] at ho2
    obtain ⟨ga, ca, rfl, _⟩ := own_form ho1 (by omega)
    obtain ⟨gb, cb, rfl, _⟩ := own_form ho2 (by omega)
    have HA := Lib.hid (Sl.of_own ho1)
    have HBq := Lib.hid (Sl.of_own ho2)
    obtain ⟨la, hla⟩ : ∃ la, la = n + 2 + 2 * m := ⟨_, rfl⟩
    obtain ⟨lb, hlb⟩ : ∃ lb, lb = n' + 2 + 2 * m' := ⟨_, rfl⟩
    have hla9 : la ≤ 1000000 := by omega
    rw [← hla] at HA HLa ⊢
    rw [← hlb] at HBq HLb ⊢
    clear ho1 ho2 hla hlb HO1 HO2 q0 q1 q2 q3 HAll HF1 HF2 HK1 HK2
    go_wp2_with fail
    go_loopw [7] (fun iv wr => ∃ i : Nat, i ≤ la ∧ iv = .int .i64 (i : Int) ∧ Hid (cmpZ (a.drop i) (b.drop i) = z) ∧ Hid (Below w0.heap.size w0 wr) ∧ Hid (Sl wr 1 (some ⟨ga, 0, none⟩) la (a.map (Value.int .i64))) ∧ Hid (Sl wr 1 (some ⟨gb, 0, none⟩) lb (b.map (Value.int .i64)))) (fun iv _ => la - (intOf iv).toNat)
    case atStart => exact ⟨0, Nat.zero_le _, rfl, Lib.hid (by rw [List.drop_zero, List.drop_zero]; exact HZ.out), HBc, HA, HBq⟩
    case round =>
      obtain ⟨i, hi, rfl, HC, HB, HAr, HBr⟩ := hrel
      by_cases hia : i < la
      · have hia' : (i : Int) < (la : Int) := by omega
        have hi0 : (0 : Int) ≤ (i : Int) := by omega
        by_cases hib : i < lb
        · have hib' : (i : Int) < (lb : Int) := by omega
          obtain ⟨x, hx⟩ : ∃ x, a[i]? = some x := ⟨_, List.getElem?_eq_getElem (by rw [HLa.out]; exact hia)⟩
          obtain ⟨y, hy⟩ : ∃ y, b[i]? = some y := ⟨_, List.getElem?_eq_getElem (by rw [HLb.out]; exact hib)⟩
          have e1 := HAr.out.again hia (show (a.map (Value.int .i64))[i]? = some (.int .i64 x) by rw [List.getElem?_map, hx]; rfl)
          have e2 := HBr.out.again hib (show (b.map (Value.int .i64))[i]? = some (.int .i64 y) by rw [List.getElem?_map, hy]; rfl)
          rw [Nat.zero_add] at e1 e2
          have hst : cmpZ (a.drop i) (b.drop i) = if x < y then -1 else if y < x then 1 else cmpZ (a.drop (i + 1)) (b.drop (i + 1)) := by
            obtain ⟨h1, h2⟩ := List.getElem?_eq_some_iff.1 hx
            obtain ⟨h3, h4⟩ := List.getElem?_eq_some_iff.1 hy
            rw [List.drop_eq_getElem_cons h1, List.drop_eq_getElem_cons h3, h2, h4, cmpZ]
          have HC2 := Lib.hid (hst.symm.trans HC.out)
          have HCl := Lib.hid (show ∀ V, Below wr.heap.size wr V → V.cell? ⟨ga, i, none⟩ = some (.int .i64 x) ∧ V.cell? ⟨gb, i, none⟩ = some (.int .i64 y) from fun V hV => by
            have f1 := (HAr.out.keep hV).again hia (show (a.map (Value.int .i64))[i]? = some (.int .i64 x) by rw [List.getElem?_map, hx]; rfl)
            have f2 := (HBr.out.keep hV).again hib (show (b.map (Value.int .i64))[i]? = some (.int .i64 y) by rw [List.getElem?_map, hy]; rfl)
            rw [Nat.zero_add] at f1 f2
            exact ⟨f1, f2⟩)
          clear hx hy hst
          by_cases h1 : x < y
          · have HR := Lib.hid (show z = -1 from by have h := HC2.out; rw [if_pos h1] at h; exact h.symm)
            clear HC2
            go_wp2_with fail
            go_quiet (fail)
            go_wp2_with fail
            go_ret
            exact ⟨ret_int HR.out.symm, HB0.out.andThen (HB.out.trans (bel_drewN (Below.refl _ _) _ |>.mono HB.out.size))⟩
          · by_cases h2 : y < x
            · have HR := Lib.hid (show z = 1 from by have h := HC2.out; rw [if_neg h1, if_pos h2] at h; exact h.symm)
              clear HC2
              go_wp2_with fail
              go_quiet (fail)
              go_wp2_with fail
              go_quiet (fail)
              go_wp2_with fail
              go_ret
              exact ⟨ret_int HR.out.symm, HB0.out.andThen (HB.out.trans ((bel_drewN (Below.refl _ _) _).andThen (bel_drewN (Below.refl _ _) _) |>.mono HB.out.size))⟩
            · have HR := Lib.hid (show cmpZ (a.drop (i + 1)) (b.drop (i + 1)) = z from by have h := HC2.out; rw [if_neg h1, if_neg h2] at h; exact h)
              clear HC2
              go_wp2_with fail
              go_quiet (fail)
              obtain ⟨wq, hwq⟩ : ∃ wq, wq = wr.drewN nq := ⟨_, rfl⟩
              rw [← hwq]
              have HQ := Lib.hid (drew_bel ⟨nq, hwq⟩)
              clear hwq e1 e2
              obtain ⟨e1, e2⟩ := HCl.out wq HQ.out
              go_wp2_with fail
              go_quiet (fail)
              go_wp2_with fail
              have hbb := HQ.out.andThen (drew_bel (w' := wq.drewN nq) ⟨nq, rfl⟩)
              go_roundw
              case rel => exact ⟨i + 1, by omega, by go_num, HR, Lib.hid (HB.out.andThen hbb), Lib.hid (HAr.out.keep hbb), Lib.hid (HBr.out.keep hbb)⟩
              case measure => simp [intOf]; omega
        · have hib' : ¬ (i : Int) < (lb : Int) := by omega
          have HR := Lib.hid (show z = 0 from by rw [← HC.out]; exact cmpZ_nil (.inr (List.drop_of_length_le (by rw [HLb.out]; omega))))
          go_wp2_with fail
          go_ret
          exact ⟨ret_int HR.out.symm, HB0.out.andThen HB.out⟩
      · have hia' : ¬ (i : Int) < (la : Int) := by omega
        have HR := Lib.hid (show z = 0 from by rw [← HC.out]; exact cmpZ_nil (.inl (List.drop_of_length_le (by rw [HLa.out]; omega))))
        go_wp2_with fail
        go_ret
        exact ⟨ret_int HR.out.symm, HB0.out.andThen HB.out⟩)
end Go.Proofs.YtddedghnnkcnhaaGreatDoor
/-
  The document's numbers as texts: Num, num.
-/
namespace Go.Proofs.YtddedghnnkcnhaaGreatDoor
open Go.RowKit
set_option maxRecDepth 100000
set_option linter.unusedVariables false

def decB (u : Nat) : ByteArray := ⟨(Lib.decDigits u).toArray⟩
theorem decB_step {u : Nat} (h : 10 ≤ u) : decB (u / 10) ++ decB (u % 10) = decB u := by
  have e : Lib.decDigits u = Lib.decDigits (u / 10) ++ Lib.decDigits (u % 10) := by
    conv => lhs; rw [Lib.decDigits, dif_neg (by omega)]
    congr 1
    rw [Lib.decDigits, dif_pos (Nat.mod_lt _ (by omega))]
  unfold decB
  rw [e]
  apply ByteArray.ext
  simp
theorem decB_one {u : Nat} (h : u < 10) : decB u = ⟨#[UInt8.ofNat (48 + u)]⟩ := by
  unfold decB
  rw [Lib.decDigits, dif_pos h]
theorem strOf_one {u : Nat} (h : u < 10) : strOfNums [((48 + u : Nat) : Int)] = decB u := by
  rw [decB_one h]
  unfold strOfNums
  simp only [List.map_cons, List.map_nil, Int.toNat_natCast]
set_option linter.unnecessarySimpa false in
theorem conv_one (w : World) (u : Nat) (h : u < 10) : (convert 26 9 (.slice (some ⟨w.heap.size, 0, none⟩) 1 1)).run Tryz.prog (w.alloc (.cells #[.int .u8 ((48 + u : Nat) : Int)] 5)) = .ok (.string (decB u)) (w.alloc (.cells #[.int .u8 ((48 + u : Nat) : Int)] 5)) := by
  rw [← strOf_one h]
  refine run_convert_bytes_arg (P := Tryz.prog) _ 26 5 Tryz.underlying26 Tryz.underlying5 _ 0 1 1 [((48 + u : Nat) : Int)] rfl (fun i hi => ?_) 9 Tryz.underlying9
  obtain rfl : i = 0 := by omega
  have c := (Blk.new w 5 #[.int .u8 ((48 + u : Nat) : Int)]).cell 0
  simpa using c

theorem decB_itoa (u : Nat) : itoaB (u : Int) = decB u := by
  unfold itoaB decB
  rw [Lib.itoa, if_neg (by omega), Int.toNat_natCast]
theorem decB_size {u : Nat} (h : u ≤ 9223372036854775807) : (decB u).size ≤ 21 := by
  rw [← decB_itoa]
  exact itoaB_size _ (by unfold i64P; omega)

set_option maxHeartbeats 4000000 in
theorem RefNum_any : ∀ (u : Nat) (w : World), u ≤ 9223372036854775807 → Calls Tryz.prog 40 #[.int .i64 (u : Int)] w fun e w' => e = .returned (.string (decB u)) ∧ Below w.heap.size w w' := by
  intro u
  induction u using Nat.strongRecOn with
  | ind u ih =>
    intro w hu
    have hu0 : (0 : Int) ≤ (u : Int) := by omega
    by_cases h9 : u < 10
    · have h9' : ¬ (9 : Int) < (u : Int) := by omega
      have hcv := conv_one w u h9
      have hw1 : IntKind.i64.wrap (48 + (u : Int)) = 48 + (u : Int) := by rw [IntKind.wrap_i64]; omega
      have hw2 : IntKind.u8.wrap (48 + (u : Int)) = 48 + (u : Int) := by unfold IntKind.wrap; simp [IntKind.bits, IntKind.signed]; omega
      rw [show ((48 + u : Nat) : Int) = 48 + (u : Int) from by omega] at hcv
      clear ih
      go_enter Tryz.func40, Tryz.ntmps40
      go_wp2_with fail
      go_ret
      exact ⟨rfl, bel_al (Below.refl _ _) _⟩
    · have h9' : (9 : Int) < (u : Int) := by omega
      have h1 := fun W => ih (u / 10) (by omega) W (by omega)
      have h2 := fun W => ih (u % 10) (by omega) W (by omega)
      rw [show ((u / 10 : Nat) : Int) = (u : Int) / 10 from by omega] at h1
      rw [show ((u % 10 : Nat) : Int) = (u : Int) % 10 from by omega] at h2
      have H1 := Lib.hid (h1 w)
      have H2 := Lib.hid h2
      have hst := decB_step (u := u) (by omega)
      have HSt := Lib.hid hst
      have z1 := decB_size (u := u / 10) (by omega)
      have z2 := decB_size (u := u % 10) (by omega)
      have hadd : ∀ W, (Op.stringOp .add (decB (u / 10)) (decB (u % 10))).run Tryz.prog W = .ok (.string (decB (u / 10) ++ decB (u % 10))) W := fun W => run_string_add_sum W _ _ (by omega)
      clear ih h1 h2 hst z1 z2
      go_enter Tryz.func40, Tryz.ntmps40
      go_wp2_with (first
        | (go_at_call 40; refine H1.out.mono ?_; clear H1; rintro e w1 ⟨rfl, hb⟩; have HB1 := Lib.hid hb; have H3 := Lib.hid (H2.out w1); clear H2 hb)
        | (go_at_call 40; refine H3.out.mono ?_; clear H3; rintro e w2 ⟨rfl, hb⟩; have HB2 := Lib.hid (HB1.out.andThen hb); clear hb)
        | fail)
      go_ret
      exact ⟨ret_eq (congrArg Value.string HSt.out), HB2.out⟩
theorem itoa_neg {u : Nat} (h : 1 ≤ u) : itoaB (-(u : Int)) = ⟨#[45]⟩ ++ decB u := by
  unfold itoaB decB
  rw [Lib.itoa, if_pos (by omega), Int.natAbs_neg, Int.natAbs_natCast]
  apply ByteArray.ext
  simp
theorem itoa_neg_step {u : Nat} (h : 10 ≤ u) : itoaB (-((u / 10 : Nat) : Int)) ++ decB (u % 10) = itoaB (-(u : Int)) := by
  rw [itoa_neg (by omega), itoa_neg (by omega), ByteArray.append_assoc, decB_step h]

set_option maxHeartbeats 4000000 in
theorem RefNumNeg_any : ∀ (u : Nat) (w : World), 1 ≤ u → u ≤ 9223372036854775808 → Calls Tryz.prog 85 #[.int .i64 (-(u : Int))] w fun e w' => e = .returned (.string (itoaB (-(u : Int)))) ∧ Below w.heap.size w w' := by
  intro u
  induction u using Nat.strongRecOn with
  | ind u ih =>
    intro w hu1 hu
    have hneg : -(u : Int) < 0 := by omega
    have hzs := itoaB_size (-(u : Int)) (by unfold i64P; omega)
    by_cases h9 : u < 10
    · have h9' : ¬ -(u : Int) < -9 := by omega
      have H1 := Lib.hid (RefNum_any u w (by omega))
      have hng : IntKind.i64.wrap (- -(u : Int)) = (u : Int) := by rw [IntKind.wrap_i64]; omega
      have HSt := Lib.hid (itoa_neg hu1)
      have z1 := decB_size (u := u) (by omega)
      have z2 : (⟨#[45]⟩ : ByteArray).size = 1 := rfl
      have hadd : ∀ W, (Op.stringOp .add ⟨#[45]⟩ (decB u)).run Tryz.prog W = .ok (.string (⟨#[45]⟩ ++ decB u)) W := fun W => run_string_add_sum W _ _ (by omega)
      clear ih z1 z2 hzs
      obtain ⟨z, hz⟩ : ∃ z, z = -(u : Int) := ⟨_, rfl⟩
      have HZ := Lib.hid hz
      rw [← hz] at hneg h9' hng HSt ⊢
      clear hz
      go_enter Tryz.func85, Tryz.ntmps85
      go_wp2_with (go_at_call 40; refine H1.out.mono ?_; clear H1; rintro e w1 ⟨rfl, hb⟩; have HB1 := Lib.hid hb; clear hb)
      go_ret
      exact ⟨ret_eq (congrArg Value.string HSt.out.symm), HB1.out⟩
    · have h9' : -(u : Int) < -9 := by omega
      have h1 := ih (u / 10) (by omega) w (by omega) (by omega)
      have h2 := fun W => RefNum_any (u % 10) W (by omega)
      have z1 := itoaB_size (-((u / 10 : Nat) : Int)) (by unfold i64P; omega)
      have z2 := decB_size (u := u % 10) (by omega)
      have hadd : ∀ W, (Op.stringOp .add (itoaB (-((u / 10 : Nat) : Int))) (decB (u % 10))).run Tryz.prog W = .ok (.string (itoaB (-((u / 10 : Nat) : Int)) ++ decB (u % 10))) W := fun W => run_string_add_sum W _ _ (by omega)
      have HSt := Lib.hid (itoa_neg_step (u := u) (by omega))
      have hq : Int.tdiv (-(u : Int)) 10 = -((u / 10 : Nat) : Int) := by rw [Int.neg_tdiv]; rfl
      have hr : Int.tmod (-(u : Int)) 10 = -((u % 10 : Nat) : Int) := by rw [Int.neg_tmod]; rfl
      have hng : IntKind.i64.wrap (- -((u % 10 : Nat) : Int)) = ((u % 10 : Nat) : Int) := by rw [IntKind.wrap_i64]; omega
      obtain ⟨zn, hzn⟩ : ∃ zn, zn = -((u % 10 : Nat) : Int) := ⟨_, rfl⟩
      rw [← hzn] at hr hng
      have hqw : IntKind.i64.wrap (-((u / 10 : Nat) : Int)) = -((u / 10 : Nat) : Int) := by rw [IntKind.wrap_i64]; omega
      obtain ⟨z, hz⟩ : ∃ z, z = -(u : Int) := ⟨_, rfl⟩
      obtain ⟨zq, hzq⟩ : ∃ zq, zq = -((u / 10 : Nat) : Int) := ⟨_, rfl⟩
      obtain ⟨zr, hzr⟩ : ∃ zr, zr = ((u % 10 : Nat) : Int) := ⟨_, rfl⟩
      rw [← hz] at hneg h9' hq hr HSt ⊢
      rw [← hzq] at h1 hadd HSt hq hqw
      rw [← hzr] at h2 hng
      have H1 := Lib.hid h1
      have H2 := Lib.hid h2
      clear ih z1 z2 hzs h1 h2 hz hzq hzr hzn
      go_enter Tryz.func85, Tryz.ntmps85
      go_wp2_with (first
        | (go_at_call 85; refine H1.out.mono ?_; clear H1; rintro e w1 ⟨rfl, hb⟩; have HB1 := Lib.hid hb; have H3 := Lib.hid (H2.out w1); clear H2 hb)
        | (go_at_call 40; refine H3.out.mono ?_; clear H3; rintro e w2 ⟨rfl, hb⟩; have HB2 := Lib.hid (HB1.out.andThen hb); clear hb)
        | fail)
      go_ret
      exact ⟨ret_eq (congrArg Value.string HSt.out), HB2.out⟩
/-- The document's num is Itoa. -/
theorem RefNumZ_any (z : Int) (w : World) (h : i64P z) : Calls Tryz.prog 85 #[.int .i64 z] w fun e w' => e = .returned (.string (itoaB z)) ∧ Below w.heap.size w w' := by
  unfold i64P at h
  by_cases hn : z < 0
  · obtain ⟨u, rfl⟩ : ∃ u : Nat, z = -(u : Int) := ⟨z.natAbs, by omega⟩
    exact RefNumNeg_any u w (by omega) (by omega)
  · obtain ⟨u, rfl⟩ : ∃ u : Nat, z = (u : Int) := ⟨z.toNat, by omega⟩
    have H1 := Lib.hid (RefNum_any u w (by omega))
    have hu0 : (0 : Int) ≤ (u : Int) := by omega
    clear h
    go_enter Tryz.func85, Tryz.ntmps85
    go_wp2_with (go_at_call 40; refine H1.out.mono ?_; clear H1; rintro e w1 ⟨rfl, hb⟩; have HB1 := Lib.hid hb; clear hb)
    go_ret
    exact ⟨ret_eq (congrArg Value.string (decB_itoa u).symm), HB1.out⟩
end Go.Proofs.YtddedghnnkcnhaaGreatDoor
