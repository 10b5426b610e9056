/-
  Part 21 of the proof of LoadMore: LdG, LdHP, LdU, Builder, Text.
-/
import Derived.BigQuiet
import Derived.Test.YtbbmgcdocolakaaGreatDoorLoadMoreM20
import Derived.Test.YtbbmgcdocolakaaGreatDoorLoadMoreM12
import Derived.Test.YtbbmgcdocolakaaGreatDoorLoadMoreM7
import Derived.Test.YtbbmgcdocolakaaGreatDoorLoadMoreM13
import Derived.Test.YtbbmgcdocolakaaGreatDoorLoadMoreM17
import Derived.Test.YtbbmgcdocolakaaGreatDoorLoadMoreM1
import Derived.Test.YtbbmgcdocolakaaGreatDoorProg
import Derived.Shelf.Strings.Builder1
import Derived.Shelf.Strings.BuilderK
import Derived.ShutString
set_option linter.unusedVariables false
/-
  load.Pack: a graph's parcel.
-/
namespace Go.Proofs.YtbbmgcdocolakaaGreatDoor
open Go.RowKit
attribute [local go_sem ↓] Go.wp_at_zero Go.wp_at_succ
set_option maxRecDepth 100000
set_option linter.unusedVariables false

def packG (L : List Int) (F : List (Int × Int)) : List Int := packL 1 (bytesP L F)
set_option maxHeartbeats 8000000 in
theorem GPack_any {w : World} {g : Nat} {L : List Int} {F : List (Int × Int)} (hG : GraphAt w g L F) (hl : L.length ≤ 4096) (hf : F.length ≤ 16384) (hiL : ∀ x ∈ L, fits x) (hiE : ∀ e ∈ F, fits e.1 ∧ fits e.2) (hby : Bys (bytesP L F)) :
    Calls Tryz.prog 19 #[.pointer (some ⟨g, 0, none⟩)] w fun e w' => ∃ C k, e = .returned (.slice C ((bytesP L F).length + 13) k) ∧ Sl w' 1 C ((bytesP L F).length + 13) ((packG L F).map (Value.int .u8)) ∧ ((bytesP L F).length + 13 ≤ k ∧ k ≤ 9223372036854775807) ∧ Below w.heap.size w w' := by
  have HGr := Lib.hid hG
  have HLe := Lib.hid (GLen_any hG)
  obtain ⟨n, hn⟩ : ∃ n, n = L.length := ⟨_, rfl⟩
  obtain ⟨m, hm⟩ : ∃ m, m = F.length := ⟨_, rfl⟩
  have HN := Lib.hid hn
  have HM := Lib.hid hm
  have HiL := Lib.hid hiL
  have HiE := Lib.hid hiE
  have HBy := Lib.hid hby
  rw [← hn] at HLe hl
  rw [← hm] at hf
  clear hG hn hm hiL hiE hby
  go_enter Tryz.func19, Tryz.ntmps19
  go_upto_region 3 with (go_at_call 12; refine HLe.out.mono ?_; clear HLe; rintro e w1 ⟨rfl, rfl⟩)
  go_loopw [3, 11] (fun lv iv wr => ∃ k : Nat, k ≤ n ∧ iv = .int .i64 (k : Int) ∧ Hid (wr.ownsRow w.heap.size 3 1 lv k ((L.take k).map (Value.int .i64))) ∧ Hid (Below w.heap.size w wr)) (fun _ iv _ => n - (intOf iv).toNat)
  case atStart => exact ⟨0, Nat.zero_le _, rfl, Lib.hid (World.ownsRow_nil _ _ _ _), Lib.hid (Below.refl _ _)⟩
  case round =>
    obtain ⟨k, hk, rfl, HO, HB⟩ := hrel
    by_cases hlt : k < n
    · have hlt' : (k : Int) < (n : Int) := by omega
      obtain ⟨x, hx⟩ : ∃ x, L[k]? = some x := ⟨_, List.getElem?_eq_getElem (by rw [← HN.out]; exact hlt)⟩
      have HLa := Lib.hid (GLabel_any (HGr.out.keep HB.out) hx)
      have HE := Lib.hid (show L.take (k + 1) = L.take k ++ [x] from by
        obtain ⟨h3, h4⟩ := List.getElem?_eq_some_iff.1 hx
        rw [List.take_succ_eq_append_getElem h3, h4])
      clear hx
      go_wp2_with (first
        | (at_builtin; refine wpList_push elemInt (w0 := w) _ _ rfl rfl HO.out HB.out (Nat.le_refl _) rfl rfl rfl (by simp [Value.oneCell']) (by unfold lim; omega) (by unfold lim; omega) ?_; intro v4 w4 hown4 hb4; have HO4 := Lib.hid hown4; have HB4 := Lib.hid hb4; clear hown4 hb4)
        | (go_at_call 42; refine HLa.out.mono ?_; clear HLa; rintro e w2 ⟨rfl, rfl⟩))
      go_roundw
      case rel => exact ⟨k + 1, by omega, by go_num, Lib.hid (by rw [HE.out, List.map_append]; exact HO4.out), HB4⟩
      case measure => simp [intOf]; omega
    obtain rfl : k = n := by omega
    have hlt' : ¬ (k : Int) < (k : Int) := by omega
    rw [List.take_of_length_le (Nat.le_of_eq HN.out.symm)] at HO
    obtain ⟨Z, zc, rfl, _⟩ := Sl.own HO.out
    have HEd := Lib.hid (LEdges_any (HGr.out.keep HB.out) (by rw [← HM.out]; exact hf))
    go_upto_region 8 with (go_at_call 43; refine HEd.out.mono ?_; clear HEd; rintro e W1 ⟨D, dk, rfl, hsD, hb1⟩; have HD := Lib.hid hsD; have HB1 := Lib.hid hb1; clear hsD hb1)
    rw [← HM.out] at HD ⊢
    have HSl := Lib.hid ((Sl.of_own HO.out).keep HB1.out)
    have HBw := Lib.hid (HB.out.andThen HB1.out)
    clear HO HB HB1 hlt'
    go_loopw [4, 24] (fun ev iv wr => ∃ j : Nat, j ≤ m ∧ iv = .int .i64 (j : Int) ∧ Hid (wr.ownsRow W1.heap.size 3 1 ev (2 * j) ((endsL (F.take j)).map (Value.int .i64))) ∧ Hid (Below W1.heap.size W1 wr)) (fun _ iv _ => m - (intOf iv).toNat)
    case atStart => exact ⟨0, Nat.zero_le _, rfl, Lib.hid (by simpa [endsL] using World.ownsRow_nil _ _ _ _), Lib.hid (Below.refl _ _)⟩
    case round =>
      obtain ⟨j, hj, rfl, HO, HB⟩ := hrel
      by_cases hlt : j < m
      · have hlt' : (j : Int) < (m : Int) := by omega
        obtain ⟨⟨x, y⟩, he⟩ : ∃ e, F[j]? = some e := ⟨_, List.getElem?_eq_getElem (by rw [← HM.out]; exact hlt)⟩
        obtain ⟨b2, off2, hDD, c0, c1⟩ := (HD.out.keep HB.out).edge hlt he
        subst hDD
        simp only at c0 c1
        have HE := Lib.hid (show endsL (F.take (j + 1)) = endsL (F.take j) ++ [x, y] from by
          obtain ⟨h1, h2⟩ := List.getElem?_eq_some_iff.1 he
          rw [List.take_succ_eq_append_getElem h1, h2, endsL_snoc])
        clear he
        go_upto_region 10 with (fail)
        obtain ⟨we, hwe⟩ : ∃ W, W = wr.alloc (.cells #[.int .i64 x, .int .i64 y] 76) := ⟨_, rfl⟩
        obtain ⟨q, hq⟩ : ∃ q, q = wr.heap.size := ⟨_, rfl⟩
        have HBe := Lib.hid (show Below W1.heap.size W1 we from by rw [hwe]; exact bel_al HB.out _)
        have HKe := Lib.hid (show Blk we q 76 #[.int .i64 x, .int .i64 y] from by rw [hwe, hq]; exact Blk.new _ _ _)
        have HOe := Lib.hid (show we.ownsRow W1.heap.size 3 1 _ (2 * j) _ from own_block HO.out fun b hb => by rw [hwe]; exact (bel_al (Below.refl wr.heap.size wr) _).block b (HO.out.lt b hb).2)
        rw [← hwe, ← hq]
        clear hwe hq c0 c1 HO
        have q0 := HKe.out.cell 0
        have q1 := HKe.out.cell 1
        simp at q0 q1
        have HOa := Lib.hid (HOe.out.alloc (.cells #[.int .i64 x, .int .i64 y] 3))
        have HAl := Lib.hid (bel_al HBe.out (.cells #[.int .i64 x, .int .i64 y] 3))
        go_wp2_with (at_builtin; refine wpList_cat_at elemInt _ _ rfl rfl HOa.out HAl.out.size (Sl.newAt we [.int .i64 x, .int .i64 y] _ 2 rfl) rfl rfl (by simp [Value.oneCell']) (by unfold lim; omega) (by unfold lim; omega) ?_; intro v6 w6 hown6 hgr; have HO6 := Lib.hid hown6; have HB6 := Lib.hid (HAl.out.trans (hgr.belowOwn HAl.out.size HOa.out)); clear hown6 hgr)
        go_roundw
        case rel => exact ⟨j + 1, by omega, by go_num, Lib.hid (by have h := HO6.out; rw [HE.out, List.map_append, show 2 * (j + 1) = 2 * j + 2 by omega]; simpa using h), HB6⟩
        case measure => simp [intOf]; omega
      obtain rfl : j = m := by omega
      have hlt' : ¬ (j : Int) < (j : Int) := by omega
      rw [List.take_of_length_le (Nat.le_of_eq HM.out.symm)] at HO
      obtain ⟨X, xc, rfl, _⟩ := Sl.own HO.out
      go_upto_region 13 with (fail)
      obtain ⟨w2, hw2⟩ : ∃ W, W = wr.alloc (.cells #[.slice none 0 0, .nilIface] 90) := ⟨_, rfl⟩
      obtain ⟨g2, hg2⟩ : ∃ q, q = wr.heap.size := ⟨_, rfl⟩
      have HB2 := Lib.hid (show Below W1.heap.size W1 w2 from by rw [hw2]; exact bel_al HB.out _)
      have HWr := Lib.hid (show Wr w2 g2 g2 [] .nil from by rw [hw2, hg2]; exact ⟨Nat.le_refl _, trivial, _, _, Blk.new _ _ _, World.ownsRow_nil _ _ _ _, rfl⟩)
      have HO2 := Lib.hid (show w2.ownsRow W1.heap.size 3 1 (.slice X (2 * j) xc) (2 * j) ((endsL F).map (Value.int .i64)) from own_block HO.out fun b hb => by rw [hw2]; exact (bel_al (Below.refl wr.heap.size wr) _).block b (HO.out.lt b hb).2)
      have hg21 : W1.heap.size ≤ g2 := by rw [hg2]; exact HB.out.size
      have hg22 : g2 ≤ w2.heap.size := by rw [hg2, hw2]; simp
      rw [← hw2, ← hg2]
      clear hw2 hg2 HO
      have HEl := Lib.hid (show (endsL F).length = 2 * j ∧ ∀ z ∈ endsL F, fits z from ⟨by rw [endsL_len, ← HM.out], fun z hz => by
        obtain ⟨e, he, h⟩ := List.mem_flatMap.1 hz
        rcases List.mem_cons.1 h with rfl | h
        · exact (HiE.out e he).1
        · rw [List.mem_singleton.1 h]
          exact (HiE.out e he).2⟩)
      have HLi := Lib.hid (List_K L HiL.out Z k zc (by omega) HN.out.symm g2 g2 [] .nil w2 (fun V hV _ => HSl.out.keep (HB2.out.trans (hV.mono hg21))) HWr.out (by simp))
      go_upto_region 14 with (go_at_call 44; refine HLi.out.mono ?_; clear HLi; rintro e w3 ⟨rfl, hw3, hb3, hk3⟩; have HW3 := Lib.hid hw3; have HB3 := Lib.hid hb3; have HK3 := Lib.hid hk3; clear hw3 hb3 hk3)
      have HLi2 := Lib.hid (List_K (endsL F) HEl.out.2 X (2 * j) xc (by omega) HEl.out.1 g2 g2 ([] ++ encW L) .nil w3 (fun V hV hk => Sl.of_own (WkT.own HO2.out (HK3.out.trans hk) (by decide) (by decide))) HW3.out (by rw [List.nil_append, encW_len, ← HN.out]; omega))
      go_upto_region 15 with (go_at_call 44; refine HLi2.out.mono ?_; clear HLi2; rintro e w4 ⟨rfl, hw4, hb4, _⟩; have HW4 := Lib.hid (show Wr w4 g2 g2 (bytesP L F) .nil from by have h := hw4; rw [List.nil_append] at h; exact h); have HB4 := Lib.hid (HB3.out.trans hb4); clear hw4 hb4)
      have hz : (bytesP L F).length ≤ 200000 := by
        unfold bytesP
        rw [List.length_append, encW_len, encW_len, ← HN.out, HEl.out.1]
        omega
      have HBs := Lib.hid (Bytes_any g2 g2 (bytesP L F, .nil) w4 HW4.out (by simp only; omega))
      obtain ⟨z, hzz⟩ : ∃ z, z = (bytesP L F).length := ⟨_, rfl⟩
      have HZz := Lib.hid hzz
      simp only at HBs
      rw [← hzz] at HBs hz
      clear hzz
      go_wp2_with (first
        | (go_at_call 45; refine HPk.out.mono ?_; clear HPk; rintro e w6 ⟨C6, k6, rfl, hs6, hc6, hb6⟩; have HS6 := Lib.hid hs6; have HC6 := Lib.hid hc6; have HB6 := Lib.hid (HB5.out.andThen hb6); clear hs6 hc6 hb6)
        | (go_at_call 46; refine HBs.out.mono ?_; clear HBs; rintro e w5 ⟨C5, k5, rfl, hs5, hc5, hb5⟩; have HPk := Lib.hid (Pack_any 1 (bytesP L F) C5 z k5 w5 (by omega) HZz.out.symm (by omega) HBy.out hs5); have HB5 := Lib.hid hb5; clear hs5 hc5 hb5))
      go_ret
      rw [← HZz.out]
      exact ⟨C6, k6, rfl, HS6.out, HC6.out, ((HBw.out.andThen HB2.out).trans (HB4.out.mono (by have := HBw.out.size; omega))).andThen HB6.out⟩
end Go.Proofs.YtbbmgcdocolakaaGreatDoor
/-
  A graph's parcel plainly: which bytes are one, and of what.
-/
namespace Go.Proofs.YtbbmgcdocolakaaGreatDoor
open Go.RowKit
set_option maxRecDepth 100000
set_option linter.unusedVariables false

/-- The bytes are those of labels and edges. -/
def BytOK (l L : List Int) (E : List (Int × Int)) : Prop := packG L E = l ∧ L.length ≤ 4096 ∧ E.length ≤ 16384 ∧ (∀ x ∈ L, fits x) ∧ (∀ e ∈ E, fits e.1 ∧ fits e.2)
theorem bytesP_bys5 {L : List Int} {E : List (Int × Int)} : Bys (bytesP L E) := by
  intro x hx
  unfold bytesP encW at hx
  simp only [List.mem_append, List.mem_flatMap] at hx
  rcases hx with (hx | ⟨y, _, hx⟩) | (hx | ⟨y, _, hx⟩) <;> exact wordL_bys _ x hx
theorem bytesP_len5 (L : List Int) (E : List (Int × Int)) : (bytesP L E).length = 8 + 4 * L.length + 8 * E.length := by
  unfold bytesP
  rw [List.length_append, encW_len, encW_len, endsL_len]
  omega
theorem packG_len (L : List Int) (E : List (Int × Int)) : (packG L E).length = 21 + 4 * L.length + 8 * E.length := by
  unfold packG
  rw [packL_len, bytesP_len5]
  omega
theorem packG_bys (L : List Int) (E : List (Int × Int)) : Bys (packG L E) := packL_bys (by omega) bytesP_bys5
theorem packG_mark (L : List Int) (E : List (Int × Int)) : (packG L E).take 4 = fwrk := (packL_parts _ _).1
theorem pack_of5 {l : List Int} (hb : Bys l) (h : unW l = 0) : packL (unK l) (unB l) = l ∧ 0 ≤ unK l ∧ unK l ≤ 255 ∧ Bys (unB l) := by
  obtain ⟨kd, b, e, h1, h2, h3, h4, h5, h6⟩ := unW_ok hb h
  have hK : unK l = kd := by rw [unK, if_pos h, List.getD_eq_getElem?_getD, h2]; rfl
  have hB : unB l = b := by rw [unB, if_pos h, ← h1, h3]
  rw [hK, hB]
  exact ⟨e.symm, h4, h5, h6⟩
theorem unB_le5 (l : List Int) : (unB l).length ≤ l.length := by
  unfold unB
  split
  · rw [List.length_take, List.length_drop]; omega
  · exact Nat.zero_le _
/-- What is told of the bytes of labels and edges, read back. -/
theorem byt_parts {l L : List Int} {E : List (Int × Int)} (h : BytOK l L E) :
    unW l = 0 ∧ unK l = 1 ∧ okAt (unB l) 0 4096 ∧ lst (unB l) 0 = L ∧ okAt (unB l) (nxtA (unB l) 0) 32768 ∧ lst (unB l) (nxtA (unB l) 0) = endsL E ∧ nxtA (unB l) (nxtA (unB l) 0) = (unB l).length := by
  obtain ⟨h1, h2, h3, h4, h5⟩ := h
  have hlt : (bytesP L E).length < 4294967296 := by rw [bytesP_len5]; omega
  have hB : unB l = bytesP L E := by rw [← h1, packG, unB_pack _ _ hlt]
  obtain ⟨a1, a2, a3, a4, a5⟩ := bytesP_back (l := bytesP L E) rfl h4 h5 (by omega) (by omega)
  have l1 := congrArg List.length a2
  have l2 := congrArg List.length a4
  unfold lst at l1 l2
  rw [wordsL_len] at l1 l2
  rw [endsL_len] at l2
  rw [hB]
  exact ⟨by rw [← h1, packG, unW_pack _ _ hlt], by rw [← h1, packG, unK_pack _ _ hlt], ⟨a1.1, by omega, a1.2.2⟩, a2, ⟨a3.1, by omega, a3.2.2⟩, a4, a5⟩
theorem byt_uniq {l L L' : List Int} {E E' : List (Int × Int)} (h : BytOK l L E) (h' : BytOK l L' E') : L = L' ∧ E = E' := by
  obtain ⟨_, _, _, a, _, b, _⟩ := byt_parts h
  obtain ⟨_, _, _, a', _, b', _⟩ := byt_parts h'
  refine ⟨a.symm.trans a', ?_⟩
  have h4 := b.symm.trans b'
  rw [← pairs_ends E, h4, pairs_ends]
/-- Bytes that are read right are those of what is read. -/
theorem byt_of {l : List Int} (hb : Bys l) (hw : unW l = 0) (hk : unK l = 1) (h1 : okAt (unB l) 0 4096) (h2 : okAt (unB l) (nxtA (unB l) 0) 32768) (he : nxtA (unB l) (nxtA (unB l) 0) = (unB l).length) (hev : (lst (unB l) (nxtA (unB l) 0)).length % 2 = 0) :
    BytOK l (lst (unB l) 0) (pairsL (lst (unB l) (nxtA (unB l) 0))) := by
  obtain ⟨p1, _, _, p4⟩ := pack_of5 hb hw
  have h1' : okAt (unB l) 0 32768 := ⟨h1.1, by have := h1.2.1; omega, h1.2.2⟩
  have hr := bytesP_read p4 h1' h2 he hev
  have l1 : (lst (unB l) 0).length ≤ 4096 := by unfold lst; rw [wordsL_len]; exact h1.2.1
  have l2 : (lst (unB l) (nxtA (unB l) 0)).length ≤ 32768 := by unfold lst; rw [wordsL_len]; exact h2.2.1
  refine ⟨by rw [packG, hr, ← hk, p1], l1, by rw [pairs_len]; omega, lst_fits p4 0, fun e he => ?_⟩
  have hm := lst_fits p4 (nxtA (unB l) 0)
  have : e.1 ∈ endsL (pairsL (lst (unB l) (nxtA (unB l) 0))) ∧ e.2 ∈ endsL (pairsL (lst (unB l) (nxtA (unB l) 0))) := ⟨List.mem_flatMap.2 ⟨e, he, by simp⟩, List.mem_flatMap.2 ⟨e, he, by simp⟩⟩
  rw [ends_pairs _ hev] at this
  exact ⟨hm _ this.1, hm _ this.2⟩
end Go.Proofs.YtbbmgcdocolakaaGreatDoor
/-
  load.unpack of any bytes.
-/
namespace Go.Proofs.YtbbmgcdocolakaaGreatDoor
open Go.RowKit
attribute [local go_sem ↓] Go.wp_at_zero Go.wp_at_succ
set_option maxRecDepth 100000
set_option linter.unusedVariables false

/-- What unpack answers. -/
def UnpRes (l : List Int) (w : World) (e : Ending) (w' : World) : Prop :=
  Below w.heap.size w w' ∧ ((∃ (A : Option Addr) (n c : Nat) (B : Option Addr) (m d : Nat) (L : List Int) (E : List (Int × Int)), e = .returned (.tuple #[.slice A n c, .slice B m d, .nilIface]) ∧ BytOK l L E ∧ L.length = n ∧ Sl w' 1 A n (L.map (Value.int .i64)) ∧ Sl w' 2 B m (Rk.cells E)) ∨
    ((∀ L E, ¬ BytOK l L E) ∧ ∃ (c a : Int) (s : ByteArray) (T : TypeId) (x : Value), e = .returned (.tuple #[.slice none 0 0, .slice none 0 0, .iface T x]) ∧ (Err.flt c a s).At w' (.iface T x) ∧ s.size ≤ 100))
theorem unE_flt {l : List Int} (h : unW l ≠ 0) : ∃ (c a : Int) (s : ByteArray), unE l = .flt c a s ∧ s.size ≤ 100 := by
  unfold unE
  split
  · contradiction
  all_goals exact ⟨_, _, _, rfl, by decide⟩
set_option maxHeartbeats 16000000 in
theorem Unp_any (l : List Int) (A : Option Addr) (n c : Nat) (w : World) (hn : n ≤ 1000000) (hnc : n ≤ c) (hc9 : c ≤ 9223372036854775807) (hl : l.length = n) (hb : Bys l) (hs : Sl w 1 A n (l.map (Value.int .u8))) :
    Calls Tryz.prog 38 #[.slice A n c] w (UnpRes l w) := by
  have HUn := Lib.hid (Unpack_any l A n c w hnc hc9 (by omega) hl hb hs)
  have HBt := Lib.hid hb
  have hbl := unB_le5 l
  obtain ⟨nb, hnb⟩ : ∃ k, k = (unB l).length := ⟨_, rfl⟩
  have hbl2 : nb ≤ 1000000 := by omega
  have HNb := Lib.hid hnb.symm
  clear hs hb hl hbl hnb
  go_enter Tryz.func38, Tryz.ntmps38
  go_upto_region 2 with (go_at_call 69; refine HUn.out.mono ?_; clear HUn; rintro e w1 ⟨C, k, ev, rfl, hev, hs1, hk, hb1⟩; rw [HNb.out] at hs1 hk ⊢; have HEv := Lib.hid hev; have HS1 := Lib.hid hs1; have HB1 := Lib.hid hb1; clear hev hs1 hb1)
  by_cases hw : unW l = 0
  · have hev := HEv.out
    have hE0 : unE l = .nil := by unfold unE; rw [hw]; rfl
    rw [hE0] at hev
    obtain rfl : ev = .nilIface := hev
    have HW := Lib.hid hw
    have HPk := Lib.hid (pack_of5 HBt.out hw)
    obtain ⟨kd, hkd⟩ : ∃ z, z = unK l := ⟨_, rfl⟩
    have HKd := Lib.hid hkd
    rw [← hkd]
    clear hw hE0 HEv hkd
    go_upto_region 5 with (go_at_call 70; refine (NewReader_any C nb k w1).mono ?_; rintro e w2 ⟨g, rfl, hr, hb2⟩; have HR2 := Lib.hid hr; have HB2 := Lib.hid hb2; clear hr hb2)
    have HLi1 := Lib.hid (List_uni g w1.heap.size C nb k 0 4096 .nil (unB l) w2 HR2.out (.inl rfl) (by omega) hk.1 hk.2 HNb.out HPk.out.2.2.2 (fun W hW => HS1.out.keep (HB2.out.trans hW)))
    have HG2 := Lib.hid (show g < w2.heap.size from by obtain ⟨_, _, _, _, h, _⟩ := HR2.out; exact h.lt)
    go_upto_region 6 with (first
      | (go_at_call 71; refine HLi1.out.mono ?_; clear HLi1; rintro e w3 ⟨v1, xs1, a1, E1, rfl, hown, hb3, ha3, hr, hE1, hk1, hk2⟩; obtain ⟨A1, c1, rfl, _⟩ := Sl.own hown; have HO1 := Lib.hid hown; have HB3 := Lib.hid (HB2.out.trans hb3); have HA3 := Lib.hid ha3; have HR3 := Lib.hid hr; have HF1 := Lib.hid (And.intro hk1 hk2); have HE1 := Lib.hid hE1; have HLi2 := Lib.hid (List_uni g w1.heap.size C nb k a1 32768 E1 (unB l) w3 hr hE1 (by omega) hk.1 hk.2 HNb.out HPk.out.2.2.2 (fun W hW => HS1.out.keep (HB3.out.trans hW))); clear hown hb3 ha3 hr hE1 hk1 hk2)
      | (go_at_call 71; refine HLi2.out.mono ?_; clear HLi2; rintro e w4 ⟨v2, xs2, a2, E2, rfl, hown, hb4, ha4, hr, hE2, hk1, hk2⟩; obtain ⟨A2, c2, rfl, _⟩ := Sl.own hown; have HO2 := Lib.hid hown; have HB4 := Lib.hid (HB3.out.trans hb4); have HA4 := Lib.hid ha4; have HR4 := Lib.hid hr; have HF2 := Lib.hid (And.intro hk1 hk2); have HE2 := Lib.hid hE2; clear hown hb4 ha4 hr hE2 hk1 hk2))
    obtain ⟨z1, hz1⟩ : ∃ z1, z1 = xs1.length := ⟨_, rfl⟩
    have HZ1 := Lib.hid hz1.symm
    rw [← hz1] at HO1 ⊢
    clear hz1
    obtain ⟨z2, hz2⟩ : ∃ z2, z2 = xs2.length := ⟨_, rfl⟩
    have HZ2 := Lib.hid hz2.symm
    rw [← hz2] at HO2 ⊢
    clear hz2
    have HEn := Lib.hid (End_flt g w1.heap.size C nb k a2 E2 w4 HR4.out HE2.out (by omega))
    have HO14 := Lib.hid (show w4.ownsRow w2.heap.size 3 1 (.slice A1 z1 c1) z1 (xs1.map (Value.int .i64)) from own_block HO1.out fun g' hg' => by
      have h1 := HO1.out.lt g' hg'
      have h2 := HG2.out
      exact HA4.out.2 g' (by omega) (by omega))
    go_upto_region 7 with (go_at_call 72; refine HEn.out.mono ?_; clear HEn; rintro e w5 ⟨ev5, rfl, hb5, hd5⟩; have HB5 := Lib.hid hb5; have HD5 := Lib.hid hd5; clear hb5 hd5)
    rcases HD5.out with ⟨rfl, ha2n, rfl⟩ | ⟨E', T, x, he5, rfl, hne5, hc5, hlt5⟩
    · have HOk := Lib.hid (show okAt (unB l) 0 4096 ∧ xs1 = lst (unB l) 0 ∧ okAt (unB l) (nxtA (unB l) 0) 32768 ∧ xs2 = lst (unB l) (nxtA (unB l) 0) ∧ nxtA (unB l) (nxtA (unB l) 0) = (unB l).length from by
        obtain ⟨h1, h2, h3, h4⟩ := HF2.out.1 rfl
        subst h1
        obtain ⟨_, k2, k3, k4⟩ := HF1.out.1 rfl
        subst k4
        exact ⟨k2, k3, h2, h3, by rw [← h4, ha2n, HNb.out]⟩)
      clear HD5 ha2n
      have HB5a := Lib.hid (show Below w.heap.size w w5 from HB1.out.trans ((HB4.out.trans (HB5.out.mono HB4.out.size)).mono HB1.out.size))
      by_cases hko : kd = 1 ∧ z2 % 2 = 0
      · obtain ⟨rfl, hod⟩ := hko
        have hod1 : (z2 : Int) % 2 = 0 := by omega
        have hod2 : Int.tmod (z2 : Int) 2 = 0 := by rw [Int.tmod_eq_emod_of_nonneg (by omega)]; omega
        obtain ⟨K, hK⟩ : ∃ K, z2 = 2 * K := ⟨z2 / 2, by omega⟩
        have HKz := Lib.hid hK
        have HPl := Lib.hid (show (pairsL xs2).length = K from by rw [pairs_len, HZ2.out, hK]; omega)
        have HBy := Lib.hid (show BytOK l xs1 (pairsL xs2) from by
          obtain ⟨o1, o2, o3, o4, o5⟩ := HOk.out
          have h := byt_of HBt.out HW.out HKd.out.symm o1 o3 o5 (by rw [← o4, HZ2.out]; exact hod)
          rwa [← o2, ← o4] at h)
        have hKb : K ≤ 16384 := by have := HBy.out.2.2.1; rw [HPl.out] at this; exact this
        have HCap := Lib.hid (own_cap HO2.out)
        have HSl2 := Lib.hid (Sl.of_own HO2.out)
        have HSl1 := Lib.hid ((Sl.of_own HO14.out).keep HB5.out)
        clear hod hK HF1 HF2 HOk HW HPk HE1 HE2 HA3 HA4 HR3 HR4 HO1
        go_wp2_with fail
        go_loopw [10, 12] (fun ev fv wr => ∃ (j k' : Nat) (Aj : Option Addr), j ≤ K ∧ ev = .slice Aj (z2 - 2 * j) k' ∧ Hid (j < K → ∃ b off, A2 = some ⟨b, off, none⟩ ∧ Aj = some ⟨b, off + 2 * j, none⟩) ∧ (z2 - 2 * j ≤ k' ∧ k' ≤ 9223372036854775807) ∧ Hid (wr.ownsRow w5.heap.size 76 2 fv j (Rk.cells ((pairsL xs2).take j))) ∧ Hid (Below w5.heap.size w5 wr)) (fun ev _ _ => lenV ev)
        case atStart =>
          refine ⟨0, c2, A2, Nat.zero_le _, by rw [Nat.mul_zero, Nat.sub_zero], Lib.hid fun h => ?_, by rw [Nat.mul_zero, Nat.sub_zero]; exact HCap.out, Lib.hid (World.ownsRow_nil _ _ _ _), Lib.hid (Below.refl _ _)⟩
          obtain ⟨b, off, hA, _⟩ := HSl2.out.at_ (show 0 < z2 by have := HKz.out; omega)
          exact ⟨b, off, hA, by rw [hA, Nat.mul_zero, Nat.add_zero]⟩
        case round =>
          obtain ⟨j, k', Aj, hj, rfl, HAj, hk', HO, HBr⟩ := hrel
          obtain ⟨D, dq, rfl, _⟩ := Sl.own HO.out
          by_cases hlt : j < K
          · obtain ⟨b, off, hA2, rfl⟩ := HAj.out hlt
            have hx2 : 2 * j < xs2.length := by have := HKz.out; rw [HZ2.out]; omega
            have hy2 : 2 * j + 1 < xs2.length := by have := HKz.out; rw [HZ2.out]; omega
            obtain ⟨x, hx⟩ : ∃ x, xs2[2 * j]? = some x := ⟨_, List.getElem?_eq_getElem hx2⟩
            obtain ⟨y, hy⟩ : ∃ y, xs2[2 * j + 1]? = some y := ⟨_, List.getElem?_eq_getElem hy2⟩
            have HPr := Lib.hid (show (pairsL xs2).take (j + 1) = (pairsL xs2).take j ++ [(x, y)] from by
              have h := pairs_take hx hy
              obtain ⟨h1, h2⟩ := List.getElem?_eq_some_iff.1 h
              rw [List.take_succ_eq_append_getElem h1, h2])
            have HAll := Lib.hid (show ∀ V, Below w5.heap.size wr V → V.cell? ⟨b, off + 2 * j, none⟩ = some (.int .i64 x) ∧ V.cell? ⟨b, off + 2 * j + 1, none⟩ = some (.int .i64 y) from fun V hV => by
              obtain ⟨b', off', hA', hcc⟩ := (HSl2.out.keep (HB5.out.andThen (HBr.out.trans hV))).2 (show 0 < z2 by have := HKz.out; omega)
              rw [hA2] at hA'
              cases hA'
              exact ⟨hcc (2 * j) _ (by rw [List.getElem?_map, hx]; rfl), hcc (2 * j + 1) _ (by rw [List.getElem?_map, hy]; rfl)⟩)
            have HSzA := Lib.hid (show w5.heap.size ≤ wr.heap.size from HBr.out.size)
            have HBd := Lib.hid (bel_drewN HBr.out 1)
            have HOd := Lib.hid (own_block HO.out (w' := wr.drewN 1) fun g hg => (bel_drewN (Below.refl wr.heap.size wr) 1).block g (HO.out.lt g hg).2)
            have HBs := Lib.hid (show w5.heap.size ≤ (wr.drewN 1).heap.size from HSzA.out)
            obtain ⟨q1, q2⟩ := HAll.out wr (Below.refl _ _)
            obtain ⟨p1, p2⟩ := HAll.out (wr.alloc (.cells #[.int .i64 x, .int .i64 y] 76)) ((Below.refl _ _).alloc HSzA.out _)
            have h00 : (0 : Int) < ((z2 - 2 * j : Nat) : Int) := by have := HKz.out; omega
            have h01 : (1 : Int) < ((z2 - 2 * j : Nat) : Int) := by have := HKz.out; omega
            have hge2 : (2 : Int) ≤ ((z2 - 2 * j : Nat) : Int) := by have := HKz.out; omega
            have hsub : z2 - 2 * j - 2 = z2 - 2 * (j + 1) := by omega
            generalize hmm : z2 - 2 * j = mm at *
            have HMm := Lib.hid hmm
            have HAj2 := Lib.hid hA2
            clear hx hy hmm hA2
            go_wp2_with fail
            go_region_law
              ((refine step_cat_at elemEdge (.tmp 47) (.tmp 55) (by rfl) (by rfl) (HOd.out.alloc _) (by have := HBs.out; simp at this ⊢; omega) (Sl.newE _ _ _ _) (by rfl) (by rfl) (by simp [Value.oneCell']) (by unfold lim; omega) (by unfold lim; omega) ?_; intro v6 w6 hown6 hgr; obtain ⟨D6, d6, rfl, _⟩ := Sl.own hown6; have HO6 := Lib.hid hown6; have HB6 := Lib.hid ((HBd.out.alloc HBs.out _).trans (hgr.belowOwn (by have := HBs.out; simp at this ⊢; omega) (HOd.out.alloc _))); clear hown6 hgr))
            all_goals (
              have HOn := Lib.hid (show w6.ownsRow w5.heap.size 76 2 (.slice D6 (j + 1) d6) (j + 1) (Rk.cells ((pairsL xs2).take (j + 1))) from by
                rw [HPr.out, Rk.cells_snoc]
                exact HO6.out)
              clear q1 q2 p1 p2
              by_cases hk2 : k' = 2
              · subst hk2
                go_wp2_with fail
                go_roundw
                case rel => exact ⟨j + 1, _, _, by omega, rfl, Lib.hid fun h => by have := HMm.out; have := HKz.out; omega, by omega, HOn, HB6⟩
                case measure => simp [lenV]; omega
              · go_wp2_with fail
                go_roundw
                case rel => exact ⟨j + 1, _, _, by omega, rfl, Lib.hid fun h => ⟨b, off, HAj2.out, by rw [show off + 2 * (j + 1) = off + 2 * j + 2 by omega]⟩, by omega, HOn, HB6⟩
                case measure => simp [lenV]; omega)
          · obtain rfl : j = K := by omega
            have hz0 : z2 - 2 * j = 0 := by have := HKz.out; omega
            rw [hz0]
            rw [List.take_of_length_le (by rw [HPl.out]; exact Nat.le_refl _)] at HO
            clear hz0
            go_wp2_with fail
            refine bodyPost_ret (v := .tuple #[.slice A1 z1 c1, .slice D j dq, .nilIface]) (by simp [results, Tryz.results38, go_sem]) rfl ?_
            exact ⟨HB5a.out.andThen HBr.out, .inl ⟨A1, z1, c1, D, j, dq, xs1, pairsL xs2, rfl, HBy.out, HZ1.out, HSl1.out.keep HBr.out, Sl.of_own HO.out⟩⟩
      · have HNo := Lib.hid (show ∀ L E, ¬ BytOK l L E from fun L E h => by
          obtain ⟨_, c1, _, _, _, c4, _⟩ := byt_parts h
          have h4 := HOk.out.2.2.2.1
          rw [c4] at h4
          have h5 := congrArg List.length h4
          rw [HZ2.out, endsL_len] at h5
          exact hko ⟨by rw [HKd.out, c1], by omega⟩)
        have hko2 : kd ≠ 1 ∨ (kd = 1 ∧ (z2 : Int) % 2 = 1) := by omega
        clear hko
        rcases hko2 with hk1 | ⟨rfl, hod1⟩
        · go_wp2_with (go_at_call 32; refine (wrong5_any _ _ _).mono ?_; rintro e w6 ⟨v6, rfl, ⟨g6, rfl, hk6⟩, hb6⟩; have HK6 := Lib.hid hk6; have HB6 := Lib.hid hb6; clear hk6 hb6)
          refine bodyPost_ret (v := .tuple #[.slice none 0 0, .slice none 0 0, .iface 78 (.pointer (some ⟨g6, 0, none⟩))]) (by simp [results, Tryz.results38, go_sem]) rfl ?_
          exact ⟨HB5a.out.andThen HB6.out, .inr ⟨HNo.out, _, _, _, _, _, rfl, ⟨g6, rfl, HK6.out⟩, by decide⟩⟩
        · have hod2 : Int.tmod (z2 : Int) 2 = 1 := by rw [Int.tmod_eq_emod_of_nonneg (by omega)]; omega
          go_wp2_with (go_at_call 32; refine (wrong5_any _ _ _).mono ?_; rintro e w6 ⟨v6, rfl, ⟨g6, rfl, hk6⟩, hb6⟩; have HK6 := Lib.hid hk6; have HB6 := Lib.hid hb6; clear hk6 hb6)
          refine bodyPost_ret (v := .tuple #[.slice none 0 0, .slice none 0 0, .iface 78 (.pointer (some ⟨g6, 0, none⟩))]) (by simp [results, Tryz.results38, go_sem]) rfl ?_
          exact ⟨HB5a.out.andThen HB6.out, .inr ⟨HNo.out, _, _, _, _, _, rfl, ⟨g6, rfl, HK6.out⟩, by decide⟩⟩
    · have HNo := Lib.hid (show ∀ L E, ¬ BytOK l L E from fun L E h => by
        obtain ⟨_, _, b1, b2, b3, b4, b5⟩ := byt_parts h
        have e1 := HF1.out.2 (by first | rfl | trivial) b1
        obtain ⟨_, _, _, k4⟩ := HF1.out.1 e1
        have e2 := HF2.out.2 e1 (by rw [k4]; exact b3)
        obtain ⟨_, _, _, m4⟩ := HF2.out.1 e2
        have h := hlt5 e2
        rw [m4, k4, b5, HNb.out] at h
        omega)
      obtain ⟨c', a', s', rfl, hs', _⟩ := hc5
      obtain ⟨g5, he, hk5⟩ := he5
      cases he
      have HK5 := Lib.hid hk5
      clear HD5 hk5 hlt5 hne5
      go_wp2_with fail
      refine bodyPost_ret (v := .tuple #[.slice none 0 0, .slice none 0 0, .iface 78 (.pointer (some ⟨g5, 0, none⟩))]) (by simp [results, Tryz.results38, go_sem]) rfl ?_
      exact ⟨HB1.out.trans ((HB4.out.trans (HB5.out.mono HB4.out.size)).mono HB1.out.size), .inr ⟨HNo.out, _, _, _, _, _, rfl, ⟨g5, rfl, HK5.out⟩, hs'⟩⟩
  · have HNo := Lib.hid (show ∀ L E, ¬ BytOK l L E from fun L E h => hw (byt_parts h).1)
    obtain ⟨c', a', s', hE, hs'⟩ := unE_flt hw
    have hev := HEv.out
    rw [hE] at hev
    obtain ⟨g, rfl, hk1⟩ := hev
    have HK1 := Lib.hid hk1
    clear hw hk1 HEv
    go_wp2_with fail
    refine bodyPost_ret (v := .tuple #[.slice none 0 0, .slice none 0 0, .iface 78 (.pointer (some ⟨g, 0, none⟩))]) (by simp [results, Tryz.results38, go_sem]) rfl ?_
    exact ⟨HB1.out, .inr ⟨HNo.out, _, _, _, _, _, rfl, ⟨g, rfl, HK1.out⟩, hs'⟩⟩
end Go.Proofs.YtbbmgcdocolakaaGreatDoor
/-
  strings.Builder's writing methods, out of the library's shelf, laid over this seat's translation.
-/
namespace Go.Proofs.YtbbmgcdocolakaaGreatDoor
open Go.Shelf Go.RowKit
def bl240_ren : Go.Shelf.Ren := ⟨fun | 240 => 80 | 276 => 98 | n => n, fun | 0 => 0 | 4 => 4 | 9 => 9 | 20 => 20 | 37 => 42 | 70 => 93 | 72 => 95 | 164 => 145 | n => n, fun | n => n⟩
theorem bl240 : Lays.n240 Tryz.prog bl240_ren := {
  mixed := by kernel_rfl
  f240 := Tryz.func80.trans (congrArg some (by kernel_rfl))
  f276 := Tryz.func98.trans (congrArg some (by kernel_rfl))
  t0 := Tryz.underlying0
  a0 := Tryz.isAgg0
  z0 := Tryz.sizeOf0
  v0 := Tryz.zeroValue0
  t4 := Tryz.underlying4
  a4 := Tryz.isAgg4
  z4 := Tryz.sizeOf4
  v4 := Tryz.zeroValue4
  t9 := Tryz.underlying9
  a9 := Tryz.isAgg9
  z9 := Tryz.sizeOf9
  v9 := Tryz.zeroValue9
  t20 := Tryz.underlying20
  a20 := Tryz.isAgg20
  z20 := Tryz.sizeOf20
  v20 := Tryz.zeroValue20
  t70 := Tryz.underlying93
  a70 := Tryz.isAgg93
  z70 := Tryz.sizeOf93
  v70 := Tryz.zeroValue93
  t72 := Tryz.underlying95
  a72 := Tryz.isAgg95
  z72 := Tryz.sizeOf95
  v72 := Tryz.zeroValue95
  t164 := Tryz.underlying145
  a164 := Tryz.isAgg145
  z164 := Tryz.sizeOf145
  v164 := Tryz.zeroValue145 }
def bl166_ren : Go.Shelf.Ren := ⟨fun | 166 => 48 | 240 => 80 | 276 => 98 | n => n, fun | 0 => 0 | 3 => 3 | 4 => 4 | 5 => 5 | 9 => 9 | 20 => 20 | 37 => 42 | 70 => 93 | 72 => 95 | 75 => 34 | 80 => 99 | 164 => 145 | n => n, fun | n => n⟩
theorem bl166 : Lays.n166 Tryz.prog bl166_ren := {
  mixed := by kernel_rfl
  f166 := Tryz.func48.trans (congrArg some (by kernel_rfl))
  f240 := Tryz.func80.trans (congrArg some (by kernel_rfl))
  f276 := Tryz.func98.trans (congrArg some (by kernel_rfl))
  t0 := Tryz.underlying0
  a0 := Tryz.isAgg0
  z0 := Tryz.sizeOf0
  v0 := Tryz.zeroValue0
  t3 := Tryz.underlying3
  a3 := Tryz.isAgg3
  z3 := Tryz.sizeOf3
  v3 := Tryz.zeroValue3
  t4 := Tryz.underlying4
  a4 := Tryz.isAgg4
  z4 := Tryz.sizeOf4
  v4 := Tryz.zeroValue4
  t9 := Tryz.underlying9
  a9 := Tryz.isAgg9
  z9 := Tryz.sizeOf9
  v9 := Tryz.zeroValue9
  t20 := Tryz.underlying20
  a20 := Tryz.isAgg20
  z20 := Tryz.sizeOf20
  v20 := Tryz.zeroValue20
  t37 := Tryz.underlying42
  a37 := Tryz.isAgg42
  z37 := Tryz.sizeOf42
  v37 := Tryz.zeroValue42
  t70 := Tryz.underlying93
  a70 := Tryz.isAgg93
  z70 := Tryz.sizeOf93
  v70 := Tryz.zeroValue93
  t72 := Tryz.underlying95
  a72 := Tryz.isAgg95
  z72 := Tryz.sizeOf95
  v72 := Tryz.zeroValue95
  t75 := Tryz.underlying34
  a75 := Tryz.isAgg34
  z75 := Tryz.sizeOf34
  v75 := Tryz.zeroValue34
  t164 := Tryz.underlying145
  a164 := Tryz.isAgg145
  z164 := Tryz.sizeOf145
  v164 := Tryz.zeroValue145 }
def bl169_ren : Go.Shelf.Ren := ⟨fun | 169 => 50 | n => n, fun | 0 => 0 | 3 => 3 | 5 => 5 | 9 => 9 | 37 => 42 | 70 => 93 | 72 => 95 | 127 => 135 | n => n, fun | n => n⟩
theorem bl169 : Lays.n169 Tryz.prog bl169_ren := {
  mixed := by kernel_rfl
  f169 := Tryz.func50.trans (congrArg some (by kernel_rfl))
  t0 := Tryz.underlying0
  a0 := Tryz.isAgg0
  z0 := Tryz.sizeOf0
  v0 := Tryz.zeroValue0
  t3 := Tryz.underlying3
  a3 := Tryz.isAgg3
  z3 := Tryz.sizeOf3
  v3 := Tryz.zeroValue3
  t9 := Tryz.underlying9
  a9 := Tryz.isAgg9
  z9 := Tryz.sizeOf9
  v9 := Tryz.zeroValue9
  t37 := Tryz.underlying42
  a37 := Tryz.isAgg42
  z37 := Tryz.sizeOf42
  v37 := Tryz.zeroValue42
  t70 := Tryz.underlying93
  a70 := Tryz.isAgg93
  z70 := Tryz.sizeOf93
  v70 := Tryz.zeroValue93
  t72 := Tryz.underlying95
  a72 := Tryz.isAgg95
  z72 := Tryz.sizeOf95
  v72 := Tryz.zeroValue95
  t127 := Tryz.underlying135
  a127 := Tryz.isAgg135
  z127 := Tryz.sizeOf135
  v127 := Tryz.zeroValue135 }
theorem bx166 : Builder.Extra Tryz.prog bl166_ren := {
  sizeBuilder := by kernel_rfl
  liesBuilder := by kernel_rfl
  t5 := Tryz.underlying5
  a5 := Tryz.isAgg5
  z5 := Tryz.sizeOf5
  v5 := Tryz.zeroValue5
  infoByte := by kernel_rfl
  cellsByte := by kernel_rfl
  sizeByte := by kernel_rfl
  neB5 := by decide }
theorem bx169 : Builder.Extra Tryz.prog bl169_ren := {
  sizeBuilder := by kernel_rfl
  liesBuilder := by kernel_rfl
  t5 := Tryz.underlying5
  a5 := Tryz.isAgg5
  z5 := Tryz.sizeOf5
  v5 := Tryz.zeroValue5
  infoByte := by kernel_rfl
  cellsByte := by kernel_rfl
  sizeByte := by kernel_rfl
  neB5 := by decide }

/-- The block b holds a builder whose bytes are l (B: the first block of the call's own). -/
def Bld (B b : Nat) (l : List UInt8) (w : World) : Prop := Lib.IsBuilderF 95 5 B b (Lib.byteCells l) w

/-- A row of the call's own, of other elements than bytes, while a builder is written. -/
theorem own_others {w w' : World} {B b base size n : Nat} {e : TypeId} {v : Value} {l : List UInt8} {xs : List Value} (h : w.ownsRow base e size v n xs) (hk : Lib.OthersKept 5 (some b) w w') (hB : Bld B b l w)
    (he : e ≠ 5) (he' : e ≠ 95) : w'.ownsRow base e size v n xs := by
  refine ⟨h.1, ?_⟩
  rcases h.2 with h0 | ⟨g, cap, cur, hv, hb, hg, hr⟩
  · exact .inl h0
  · refine .inr ⟨g, cap, cur, hv, hb, hk g _ hg ?_ ?_, hr⟩
    · intro hgb
      obtain rfl : g = b := Option.some.inj hgb
      rcases hB with hB | hB
      all_goals
        obtain ⟨_, u, hbk, _⟩ := hB
        rw [hg] at hbk
        injection hbk with hbk
        injection hbk with _ ht
        exact he' ht
    · intro c fz hc
      injection hc with _ ht
      exact he ht

theorem WriteString_any (B b : Nat) (l : List UInt8) (s : ByteArray) (w : World) (h : Bld B b l w) (hlen : l.length + s.size ≤ lim) (hB : B ≤ w.heap.size) :
    Calls Tryz.prog 48 #[.pointer (some ⟨b, 0, none⟩), .string s] w fun e w' => e = .returned (.tuple #[.int .i64 s.size, .nilIface]) ∧ Bld B b (l ++ s.data.toList) w' ∧ Below B w w' ∧ Lib.OthersKept 5 (some b) w w' := by
  refine (Any.Builder_WriteString_k bl166 bx166 B b (Lib.byteCells l) s w h (by unfold lim at hlen; simpa [Lib.byteCells] using hlen) hB).mono ?_
  rintro e w' ⟨rfl, h1, h2, h3⟩
  refine ⟨rfl, .inr ?_, h2, h3⟩
  have e1 : Lib.byteCells l ++ Lib.strCells s = Lib.byteCells (l ++ s.data.toList) := by simp [Lib.byteCells, Lib.strCells]
  rw [← e1]; exact h1
theorem String_any (B b : Nat) (l : List UInt8) (w : World) (h : Bld B b l w) (hB : B ≤ w.heap.size) :
    Calls Tryz.prog 50 #[.pointer (some ⟨b, 0, none⟩)] w fun e w' => e = .returned (.string ⟨l.toArray⟩) ∧ Below B w w' :=
  (Any.Builder_String_any_k bl169 bx169 B b l w h hB).mono fun _ _ ⟨h1, _, h3, _⟩ => ⟨h1, h3⟩
theorem Bld.new (w : World) : Bld w.heap.size w.heap.size [] (w.alloc (.cells #[.pointer none, .slice none 0 0] 95)) :=
  .inl ⟨Nat.le_refl _, .slice none 0 0, heap_alloc_new w _, World.ownsRowF_nil _ _ _ _, by simp [Value.ownBlock]⟩
/-- A fresh builder stays while nothing below the next block is written. -/
theorem Bld.fresh {w w' : World} (h : Below (w.heap.size + 1) (w.alloc (.cells #[.pointer none, .slice none 0 0] 95)) w') : Bld w.heap.size w.heap.size [] w' :=
  .inl ⟨Nat.le_refl _, .slice none 0 0, (h.block _ (by omega)).trans (heap_alloc_new w _), World.ownsRowF_nil _ _ _ _, by simp [Value.ownBlock]⟩
end Go.Proofs.YtbbmgcdocolakaaGreatDoor
/-
  fault.Text over chains.
-/
namespace Go.Proofs.YtbbmgcdocolakaaGreatDoor
open Go.RowKit Go.Extern.Stop Go.Stop Go.Extern
set_option maxRecDepth 100000

def Err.inner : Err → ByteArray
  | .nil => ⟨#[]⟩
  | .flt _ _ s => s
  | .txt s => s
  | .step _ e => e.inner
/-- The words, each with a colon and a blank behind. -/
def withColons (l : List ByteArray) : List UInt8 := l.flatMap fun w => w.data.toList ++ [58, 32]
def Err.text (E : Err) : List UInt8 := withColons E.words ++ E.inner.data.toList
/-- The innermost error. -/
def Err.core : Err → Err
  | .step _ e => e.core
  | e => e
theorem withColons_snoc (l : List ByteArray) (w : ByteArray) : withColons (l ++ [w]) = withColons l ++ (w.data.toList ++ [58, 32]) := by simp [withColons]
theorem withColons_take_le (l : List ByteArray) (k : Nat) : (withColons (l.take k)).length ≤ (withColons l).length := by
  have h : withColons l = withColons (l.take k) ++ withColons (l.drop k) := by
    unfold withColons; rw [← List.flatMap_append, List.take_append_drop]
  rw [h, List.length_append]; omega
theorem Err.core_inner : ∀ E : Err, E.core.inner = E.inner
  | .nil => rfl
  | .flt _ _ _ => rfl
  | .txt _ => rfl
  | .step _ e => Err.core_inner e

theorem fr_methodErrorF (v : Value) (w : World) : (Go.method 343 78 v "Error").run Tryz.prog w = .ok (160, v) w := by kernel_rfl
theorem fr_nilErrorF (a : Addr) (w : World) : (nilAhead 343 78 (.pointer (some a)) "Error").run Tryz.prog w = .ok (some false) w := by kernel_rfl

theorem FaultError (g : Nat) (s : ByteArray) (w : World) (h : w.cell? ⟨g, 2, none⟩ = some (.string s)) :
    Calls Tryz.prog 160 #[.pointer (some ⟨g, 0, none⟩)] w fun e w' => e = .returned (.string s) ∧ w = w' := by
  go_enter Tryz.func160, Tryz.ntmps160
  go_wp2
  go_ret
  exact ⟨rfl, rfl⟩

theorem bytes_append (l : List UInt8) (s : ByteArray) : (⟨l.toArray⟩ : ByteArray) ++ s = ⟨(l ++ s.data.toList).toArray⟩ := by
  apply ByteArray.ext
  rw [ByteArray.data_append]
  simp

set_option maxHeartbeats 2000000 in
theorem Text_any (E : Err) (v : Value) (w : World) (hE : E.At w v) (hne : E ≠ .nil) (hd : E.size ≤ 4294967296) (hlen : (withColons E.words).length ≤ lim) (hin : E.inner.size ≤ lim) :
    Calls Tryz.prog 40 #[v] w fun e w' => e = .returned (.string ⟨E.text.toArray⟩) ∧ Below w.heap.size w w' := by
  have HE := Lib.hid hE
  have HN := Lib.hid hne
  have hwl : E.words.length ≤ 4294967296 := Nat.le_trans (Err.words_le E) hd
  have HW := Lib.hid (Words_any E v (w.alloc (.cells #[.pointer none, .slice none 0 0] 95)) (hE.keep (bel_al (Below.refl _ _) _)) hd)
  obtain ⟨T, x, rfl⟩ := Err.At.iface_ hE hne
  clear hE hne
  go_enter Tryz.func40, Tryz.ntmps40
  go_wp2_with (go_at_call 67; refine HW.out.mono ?_; rintro ev w1 ⟨A, c, rfl, hown, hb1⟩)
  have hB1 : Bld w.heap.size w.heap.size [] w1 := Bld.fresh (by simpa using hb1)
  have hb2 : Below w.heap.size w w1 := (bel_al (Below.refl w.heap.size w) _).andThen hb1
  clear hb1
  have HI := Lib.hid hin
  clear hin
  have HL := Lib.hid hlen
  have HS := Lib.hid hown
  clear hlen hown hd
  go_loopw [12] (fun i wr => ∃ k : Nat, k ≤ E.words.length ∧ i = .int .i64 k ∧ Bld w.heap.size w.heap.size (withColons (E.words.take k)) wr ∧ Below w.heap.size w wr ∧ Hid (∃ base, wr.ownsRow base 9 1 (.slice A E.words.length c) E.words.length (E.words.map Value.string))) (fun i _ => E.words.length - (intOf i).toNat)
  case atStart => exact ⟨0, Nat.zero_le _, rfl, by simpa [withColons] using hB1, hb2, _, HS.out⟩
  case round =>
    obtain ⟨k, hk, rfl, hB, hb, HSl⟩ := hrel
    by_cases hlt : k < E.words.length
    · obtain ⟨base, hown⟩ := HSl.out
      obtain ⟨b, off, u, rfl, e1, c1⟩ := (Sl.of_own hown).one hlt
      rw [List.getElem?_map, List.getElem?_eq_getElem hlt] at e1
      obtain rfl := Option.some.inj e1
      have HT := Lib.hid (List.take_succ_eq_append_getElem hlt)
      have hle : (withColons (E.words.take (k + 1))).length ≤ lim := Nat.le_trans (withColons_take_le _ _) HL.out
      rw [HT.out, withColons_snoc] at hle
      generalize E.words[k] = wd at *
      simp only [List.length_append, List.length_cons, List.length_nil, Array.length_toList] at hle
      have hws : wd.size ≤ 140737488355328 := by have h1 : wd.data.size = wd.size := rfl; have h2 := lim_eq; omega
      have HO := Lib.hid hown
      have HB := Lib.hid hB
      clear hown e1 hB
      go_wp2_with (go_at_call 48; refine (WriteString_any _ _ _ _ _ HB.out (by rw [ByteArray.size_append]; show _ + (wd.size + 2) ≤ _; have : wd.data.size = wd.size := rfl; omega) hb.size).mono ?_; rintro ev w2 ⟨rfl, hB2, hb3, hk2⟩)
      go_roundw
      case rel =>
        refine ⟨k + 1, by omega, by go_num, ?_, hb.trans hb3, _, own_others HO.out hk2 HB.out (by decide) (by decide)⟩
        rw [HT.out, withColons_snoc]
        simpa using hB2
      case measure => simp [intOf]; omega
    · have hkk : k = E.words.length := by omega
      subst hkk
      rw [List.take_length] at hB
      have HB := Lib.hid hB
      have HU := Lib.hid (Unwrap_any E _ w wr HE.out hb)
      clear hB HW
      go_wp2_with (go_at_call 73; refine HU.out.mono ?_; rintro ev w2 ⟨v2, rfl, hv2, rfl⟩)
      have HV2 := Lib.hid hv2
      clear hv2
      go_loopg [0, 6] E.size (fun k e i wx => ∃ E' : Err, E'.At w e ∧ E'.out.At w i ∧ Hid (E' ≠ .nil) ∧ Hid (E'.core = E.core) ∧ E'.size = k ∧ wx = wr)
      case atStart => exact ⟨E, HE.out, HV2.out, HN.out, rfl, rfl, rfl⟩
      case round =>
        obtain ⟨E', hE', ho', HN', HC, hk', rfl⟩ := hrel
        have HK := Lib.hid hk'
        have HE' := Lib.hid hE'
        have HO' := Lib.hid ho'
        clear hk'
        cases E' with
        | nil => exact absurd rfl HN'.out
        | step wd e =>
          have hne' : e ≠ .nil := by obtain ⟨_, _, _, _, _, h⟩ := hE'; exact h
          obtain ⟨T2, x2, rfl⟩ := Err.At.iface_ ho' hne'
          have HNe := Lib.hid hne'
          have HU2 := Lib.hid (Unwrap_any e _ w _ HO'.out hb)
          clear hE' ho' hne'
          go_wp2_with (go_at_call 73; refine HU2.out.mono ?_; rintro ev w2 ⟨v3, rfl, hv3, rfl⟩)
          go_roundg e.size
          case measure => have := HK.out; simp only [Err.size] at this; omega
          case rel => exact ⟨e, HO'.out, hv3, HNe.out, HC.out, rfl, rfl⟩
        | flt c a s =>
          obtain ⟨g, rfl, hblk⟩ := hE'
          have c2 := (hblk.keep hb).cell 2
          have hblt := hblk.lt
          simp at c2
          obtain rfl : _ = Value.nilIface := ho'
          have hss : s.size ≤ 140737488355328 := by have h1 := HI.out; rw [← Err.core_inner, ← HC.out] at h1; exact h1
          have hbs : (⟨(withColons E.words).toArray⟩ : ByteArray).size ≤ 140737488355328 := by rw [size_of_list]; exact HL.out
          have HR := Lib.hid (show E.text = withColons E.words ++ s.data.toList by unfold Err.text; rw [← Err.core_inner, ← HC.out]; rfl)
          have m1 := fr_methodErrorF
          have m2 := fr_nilErrorF
          have HX := Lib.hid (String_any _ _ _ _ HB.out hb.size)
          clear hblk
          go_wp2_with fail
          refine HX.out.mono ?_
          rintro ev w2 ⟨rfl, hb3⟩
          have HF := Lib.hid (FaultError g s w2 ((hb3.cell (p := ⟨g, 2, none⟩) hblt).trans c2))
          go_wp2_with (go_at_call 160; refine HF.out.mono ?_; rintro ev w4 ⟨rfl, rfl⟩)
          go_ret
          refine ⟨?_, hb.trans hb3⟩
          rw [HR.out]
          exact ret_eq (congrArg Value.string (bytes_append _ _))
        | txt s => exact hE'.elim
end Go.Proofs.YtbbmgcdocolakaaGreatDoor
