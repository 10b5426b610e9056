/-
  Part 22 of the proof of LoadMore: LdV, LdW, LdX, LdM.
-/
import Derived.BigQuiet
import Derived.Test.YtbbmgcdocolakaaGreatDoorLoadMoreM21
import Derived.Test.YtbbmgcdocolakaaGreatDoorLoadMoreM18
import Derived.Test.YtbbmgcdocolakaaGreatDoorLoadMoreM16
import Derived.BigRegion
import Derived.Test.YtbbmgcdocolakaaGreatDoorLoadMoreM20
import Derived.Test.YtbbmgcdocolakaaGreatDoorLoadMoreM3
set_option linter.unusedVariables false
/-
  load.Bytes of any bytes.
-/
namespace Go.Proofs.YtbbmgcdocolakaaGreatDoor
open Go.RowKit
attribute [local go_sem ↓] Go.wp_at_zero Go.wp_at_succ
set_option maxRecDepth 100000
set_option linter.unusedVariables false

def tBytes5 : ByteArray := ⟨#[98, 121, 116, 101, 115]⟩
/-- The bytes are those of a graph. -/
def BytG (l L : List Int) (F : List (Int × Int)) : Prop := ∃ E, BytOK l L E ∧ Gh.newR L E = .ok F
/-- What Bytes answers. -/
def BytRes (l : List Int) (w : World) (e : Ending) (w' : World) : Prop :=
  Below w.heap.size w w' ∧ ((∃ (L : List Int) (F : List (Int × Int)) (g : Nat), BytG l L F ∧ e = .returned (.tuple #[.pointer (some ⟨g, 0, none⟩), .nilIface]) ∧ GraphAt w' g L (Gh.sortG F)) ∨
    ((∀ L F, ¬ BytG l L F) ∧ ∃ (s : ByteArray) (v : Value), e = .returned (.tuple #[.pointer none, v]) ∧ (Err.step tBytes5 (.flt 11 0 s)).At w' v))
/-- An error whose text is short. -/
def Tame (E : Err) : Prop := E ≠ .nil ∧ E.size ≤ 4294967296 ∧ (withColons E.words).length ≤ lim ∧ E.inner.size ≤ lim
theorem tame_flt {c a : Int} {s : ByteArray} (h : s.size ≤ 100) : Tame (.flt c a s) := ⟨fun e => by (cases e), (show (1 : Nat) ≤ 4294967296 by decide), (show (withColons []).length ≤ lim by decide), by have := lim_eq; show s.size ≤ lim; omega⟩
theorem tame_edge {c a : Int} : Tame (.step tEdge (.flt c a tEdge)) := ⟨fun e => by (cases e), (show (2 : Nat) ≤ 4294967296 by decide), (show (withColons [tEdge]).length ≤ lim by decide), (show tEdge.size ≤ lim by decide)⟩
theorem new_tame {L : List Int} {E : List (Int × Int)} (hno : ∀ F, Gh.newR L E ≠ .ok F) {w w' : World} {e : Ending} (h : NewRes L E w e w') :
    Below w.heap.size w w' ∧ ∃ (Er : Err) (T : TypeId) (x : Value), e = .returned (.tuple #[.pointer none, .iface T x]) ∧ Er.At w' (.iface T x) ∧ Tame Er := by
  obtain ⟨hb, h⟩ := h
  refine ⟨hb, ?_⟩
  cases hr : Gh.newR L E with
  | ok F => exact absurd hr (hno F)
  | big =>
    rw [hr] at h
    obtain ⟨v, h1, h2⟩ := h
    obtain ⟨T, x, rfl⟩ := Err.At.iface_ h2 (fun e => by cases e)
    exact ⟨_, T, x, h1, h2, tame_flt (by decide)⟩
  | lab i =>
    rw [hr] at h
    obtain ⟨v, h1, h2⟩ := h
    obtain ⟨T, x, rfl⟩ := Err.At.iface_ h2 (fun e => by cases e)
    exact ⟨_, T, x, h1, h2, tame_flt (by decide)⟩
  | edge c i =>
    rw [hr] at h
    obtain ⟨v, h1, h2⟩ := h
    obtain ⟨T, x, rfl⟩ := Err.At.iface_ h2 (fun e => by cases e)
    exact ⟨_, T, x, h1, h2, tame_edge⟩
set_option maxHeartbeats 8000000 in
theorem Bytes_l5 (l : List Int) (A : Option Addr) (n c : Nat) (w : World) (hn : n ≤ 1000000) (hnc : n ≤ c) (hc9 : c ≤ 9223372036854775807) (hl : l.length = n) (hb : Bys l) (hs : Sl w 1 A n (l.map (Value.int .u8))) :
    Calls Tryz.prog 17 #[.slice A n c] w (BytRes l w) := by
  have hU := Unp_any l A n c w hn hnc hc9 hl hb hs
  clear hb hs
  by_cases hB : ∃ L E, BytOK l L E
  · obtain ⟨L, E, hLE⟩ := hB
    have HUn := Lib.hid (show Calls Tryz.prog 38 #[.slice A n c] w fun e w' => ∃ (A' : Option Addr) (n' c' : Nat) (B' : Option Addr) (m' d' : Nat), e = .returned (.tuple #[.slice A' n' c', .slice B' m' d', .nilIface]) ∧ L.length = n' ∧ Sl w' 1 A' n' (L.map (Value.int .i64)) ∧ Sl w' 2 B' m' (Rk.cells E) ∧ Below w.heap.size w w' from hU.mono fun e w' ⟨h1, h2⟩ => by
      rcases h2 with ⟨A', n', c', B', m', d', L', E', k1, k2, k3, k4, k5⟩ | ⟨h, _⟩
      · obtain ⟨rfl, rfl⟩ := byt_uniq k2 hLE
        exact ⟨A', n', c', B', m', d', k1, k3, k4, k5, h1⟩
      · exact absurd hLE (h _ _))
    have HLE := Lib.hid hLE
    obtain ⟨_, hL9, hE9, hLf, hEf⟩ := hLE
    have HI := Lib.hid (show ∀ e ∈ E, i64e e.1 ∧ i64e e.2 from fun e he => by
      have h := hEf e he
      unfold fits at h
      unfold i64e
      omega)
    clear hU hLf hEf
    by_cases hN : ∃ F, Gh.newR L E = .ok F
    · obtain ⟨F, hF⟩ := hN
      have HF := Lib.hid hF
      clear hF
      go_enter Tryz.func17, Tryz.ntmps17
      go_upto_region 4 with (go_at_call 38; refine HUn.out.mono ?_; clear HUn; rintro e w1 ⟨A', n', c', B', m', d', rfl, hn', hs1, ht1, hb1⟩; have HB1 := Lib.hid hb1; have HNw := Lib.hid (GNew_any L E A' B' n' c' m' d' w1 hn' (by omega) (by have := ht1.len2; omega) hs1 ht1 HI.out); clear hn' hs1 ht1 hb1)
      have HN2 := Lib.hid (show Calls Tryz.prog 27 #[.slice A' n' c', .slice B' m' d'] w1 fun e w' => ∃ g, e = .returned (.tuple #[.pointer (some ⟨g, 0, none⟩), .nilIface]) ∧ GraphAt w' g L (Gh.sortG F) ∧ Below w1.heap.size w1 w' from HNw.out.mono fun e w' h => by
        obtain ⟨h1, h2⟩ := h
        rw [HF.out] at h2
        obtain ⟨g, k1, k2⟩ := h2
        exact ⟨g, k1, k2, h1⟩)
      clear HNw
      go_wp2_with (go_at_call 27; refine HN2.out.mono ?_; clear HN2; rintro e w2 ⟨g, rfl, hg, hb2⟩; have HG2 := Lib.hid hg; have HB2 := Lib.hid hb2; clear hg hb2)
      go_ret2
      exact ⟨HB1.out.andThen HB2.out, .inl ⟨L, F, g, ⟨E, HLE.out, HF.out⟩, rfl, HG2.out⟩⟩
    · have HNo := Lib.hid (show ∀ L F, ¬ BytG l L F from fun L' F ⟨E', h1, h2⟩ => by
        obtain ⟨rfl, rfl⟩ := byt_uniq h1 HLE.out
        exact hN ⟨F, h2⟩)
      have HNf := Lib.hid (show ∀ F, Gh.newR L E ≠ .ok F from fun F h => hN ⟨F, h⟩)
      clear hN
      go_enter Tryz.func17, Tryz.ntmps17
      go_upto_region 4 with (go_at_call 38; refine HUn.out.mono ?_; clear HUn; rintro e w1 ⟨A', n', c', B', m', d', rfl, hn', hs1, ht1, hb1⟩; have HB1 := Lib.hid hb1; have HNw := Lib.hid (GNew_any L E A' B' n' c' m' d' w1 hn' (by omega) (by have := ht1.len2; omega) hs1 ht1 HI.out); clear hn' hs1 ht1 hb1)
      go_upto_region 6 with (go_at_call 27; refine (HNw.out.mono fun e w' h => new_tame HNf.out h).mono ?_; clear HNw; rintro e w2 ⟨hb2, Er, T, x, rfl, hv, hT⟩; have HV2 := Lib.hid hv; have HT2 := Lib.hid hT; have HB2 := Lib.hid (HB1.out.andThen hb2); clear hv hT hb2)
      have HTx := Lib.hid (Text_any Er _ w2 HV2.out HT2.out.1 HT2.out.2.1 HT2.out.2.2.1 HT2.out.2.2.2)
      go_wp2_with (first
        | (go_at_call 40; refine HTx.out.mono ?_; clear HTx; rintro e w3 ⟨rfl, hb3⟩; have HB3 := Lib.hid (HB2.out.andThen hb3); clear hb3)
        | (go_at_call 32; refine (wrong5_any _ _ _).mono ?_; rintro e w4 ⟨v4, rfl, hv4, hb4⟩; have HB4 := Lib.hid (HB3.out.andThen hb4); have HIn := Lib.hid (In_any tBytes5 _ _ w4 hv4); clear hv4 hb4)
        | (go_at_call 39; refine HIn.out.mono ?_; clear HIn; rintro e w5 ⟨v5, rfl, hv5, hb5⟩; have HB5 := Lib.hid (HB4.out.andThen hb5); have HV5 := Lib.hid hv5; clear hv5 hb5))
      go_ret2
      exact ⟨HB5.out, .inr ⟨HNo.out, _, _, rfl, by have h := HV5.out; rwa [Err.in_of (by exact fun h => by cases h)] at h⟩⟩
  · have HNo := Lib.hid (show ∀ L F, ¬ BytG l L F from fun L' F ⟨E', h1, h2⟩ => hB ⟨_, _, h1⟩)
    have HUn := Lib.hid (show Calls Tryz.prog 38 #[.slice A n c] w fun e w' => ∃ (c a : Int) (s : ByteArray) (T : TypeId) (x : Value), e = .returned (.tuple #[.slice none 0 0, .slice none 0 0, .iface T x]) ∧ (Err.flt c a s).At w' (.iface T x) ∧ s.size ≤ 100 ∧ Below w.heap.size w w' from hU.mono fun e w' ⟨h1, h2⟩ => by
      rcases h2 with ⟨A', n', c', B', m', d', L', E', k1, k2, _⟩ | ⟨_, c, a, s, T, x, k1, k2, k3⟩
      · exact absurd ⟨_, _, k2⟩ hB
      · exact ⟨c, a, s, T, x, k1, k2, k3, h1⟩)
    clear hU hB
    go_enter Tryz.func17, Tryz.ntmps17
    go_upto_region 3 with (go_at_call 38; refine HUn.out.mono ?_; clear HUn; rintro e w2 ⟨c2, a2, s2, T, x, rfl, hv, hs, hb2⟩; have HV2 := Lib.hid hv; have HT2 := Lib.hid (tame_flt (c := c2) (a := a2) hs); have HB2 := Lib.hid hb2; clear hv hs hb2)
    have HTx := Lib.hid (Text_any _ _ w2 HV2.out HT2.out.1 HT2.out.2.1 HT2.out.2.2.1 HT2.out.2.2.2)
    go_wp2_with (first
      | (go_at_call 40; refine HTx.out.mono ?_; clear HTx; rintro e w3 ⟨rfl, hb3⟩; have HB3 := Lib.hid (HB2.out.andThen hb3); clear hb3)
      | (go_at_call 32; refine (wrong5_any _ _ _).mono ?_; rintro e w4 ⟨v4, rfl, hv4, hb4⟩; have HB4 := Lib.hid (HB3.out.andThen hb4); have HIn := Lib.hid (In_any tBytes5 _ _ w4 hv4); clear hv4 hb4)
      | (go_at_call 39; refine HIn.out.mono ?_; clear HIn; rintro e w5 ⟨v5, rfl, hv5, hb5⟩; have HB5 := Lib.hid (HB4.out.andThen hb5); have HV5 := Lib.hid hv5; clear hv5 hb5))
    go_ret2
    exact ⟨HB5.out, .inr ⟨HNo.out, _, _, rfl, by have h := HV5.out; rwa [Err.in_of (by exact fun h => by cases h)] at h⟩⟩
end Go.Proofs.YtbbmgcdocolakaaGreatDoor
/-
  load.Any of any bytes.
-/
namespace Go.Proofs.YtbbmgcdocolakaaGreatDoor
open Go.RowKit Go.Proofs.YtbbmgcdocolakaaGreatDoor.Pg
attribute [local go_sem ↓] Go.wp_at_zero Go.wp_at_succ
set_option maxRecDepth 100000
set_option linter.unusedVariables false

theorem HasP_short (S : ByteArray) (w : World) (h : S.size < 4) : Calls Tryz.prog 74 #[.string S, .string ⟨#[70, 87, 82, 75]⟩] w fun e w' => e = .returned (.bool false) ∧ w = w' := by
  have h1 : ¬ (4 : Int) ≤ (S.size : Int) := by omega
  go_enter Tryz.func74, Tryz.ntmps74
  go_wp2_with fail
  go_ret
  exact ⟨rfl, rfl⟩
theorem HasP_long (S : ByteArray) (w : World) (h : 4 ≤ S.size) : Calls Tryz.prog 74 #[.string S, .string ⟨#[70, 87, 82, 75]⟩] w fun e w' => e = .returned (.bool (decide (S.data.toList.take 4 = [70, 87, 82, 75]))) ∧ w = w' := by
  have h1 : (4 : Int) ≤ (S.size : Int) := by omega
  go_enter Tryz.func74, Tryz.ntmps74
  go_wp2_with fail
  go_ret
  refine ⟨?_, rfl⟩
  have he : ((S.extract 0 4).toList == [70, 87, 82, 75]) = decide (S.data.toList.take 4 = [70, 87, 82, 75]) := by
    rw [Lib.toList_data, ByteArray.data_extract, Array.toList_extract]
    simp [List.extract, Bool.beq_eq_decide_eq]
  exact ret_eq (congrArg Value.bool he)
theorem HasP_any (S : ByteArray) (w : World) : Calls Tryz.prog 41 #[.string S, .string ⟨#[70, 87, 82, 75]⟩] w fun e w' => e = .returned (.bool (decide (4 ≤ S.size ∧ S.data.toList.take 4 = [70, 87, 82, 75]))) ∧ w = w' := by
  have HP := Lib.hid (show Calls Tryz.prog 74 #[.string S, .string ⟨#[70, 87, 82, 75]⟩] w fun e w' => e = .returned (.bool (decide (4 ≤ S.size ∧ S.data.toList.take 4 = [70, 87, 82, 75]))) ∧ w = w' from by
    by_cases h : 4 ≤ S.size
    · refine (HasP_long S w h).mono fun e w' ⟨h1, h2⟩ => ⟨?_, h2⟩
      rw [h1]
      simp [h]
    · refine (HasP_short S w (by omega)).mono fun e w' ⟨h1, h2⟩ => ⟨?_, h2⟩
      rw [h1]
      simp [h])
  generalize hb : decide (4 ≤ S.size ∧ S.data.toList.take 4 = [70, 87, 82, 75]) = b at HP ⊢
  clear hb
  go_enter Tryz.func41, Tryz.ntmps41
  go_wp2_with (go_at_call 74; refine HP.out.mono ?_; clear HP; rintro e w1 ⟨rfl, rfl⟩)
  go_ret
  exact ⟨rfl, rfl⟩
theorem conv_l5 (w : World) (A : Option Addr) (n c : Nat) (l : List Int) (hl : l.length = n) (hs : Sl w 1 A n (l.map (Value.int .u8))) : (convert 42 9 (.slice A n c)).run Tryz.prog w = .ok (.string (strOfNums l)) w := by
  by_cases h0 : n = 0
  · subst h0
    obtain rfl := List.length_eq_zero_iff.1 hl
    cases A with
    | none => exact run_convert_bytes_nil (P := Tryz.prog) w 42 5 Tryz.underlying42 Tryz.underlying5 0 c 9 Tryz.underlying9
    | some a =>
      rw [run_convert_bytes_string w _ _ 5 _ 0 c Tryz.underlying42 Tryz.underlying5 Tryz.underlying9]
      simp [Conv.bytesToString, loadCells, loadCellsFrom]
      rfl
  · obtain ⟨g, off, rfl, hc⟩ := hs.2 (by omega)
    exact run_convert_bytes_arg (P := Tryz.prog) w 42 5 Tryz.underlying42 Tryz.underlying5 g off n c l hl (fun i hi => hc i _ (by
      rw [List.getElem?_map, List.getD_eq_getElem?_getD, List.getElem?_eq_getElem (by omega)]; rfl)) 9 Tryz.underlying9
/-- The bytes as a text. -/
def txtL (l : List Int) : List UInt8 := l.map fun n => UInt8.ofNat n.toNat
theorem strOf_txt (l : List Int) : strOfNums l = bz (txtL l) := rfl
theorem mark_l5 {l : List Int} (hb : Bys l) : (decide (4 ≤ (strOfNums l).size ∧ (strOfNums l).data.toList.take 4 = [70, 87, 82, 75])) = decide (l.take 4 = fwrk) := by
  rw [strOfNums_size]
  by_cases h4 : 4 ≤ l.length
  · have h := mark_test hb h4
    rw [Lib.toList_data] at h
    rw [← h, strOfNums_data, strOfNums_data, ← List.map_take]
    simp [h4, Bool.beq_eq_decide_eq]
  · rw [decide_eq_false (fun h => h4 h.1)]
    symm
    refine decide_eq_false fun h => h4 ?_
    have := congrArg List.length h
    rw [List.length_take] at this
    have h2 : fwrk.length = 4 := rfl
    omega
set_option maxHeartbeats 4000000 in
theorem Any_mark (l : List Int) (A : Option Addr) (n c : Nat) (w : World) (hn : n ≤ 1000000) (hnc : n ≤ c) (hc9 : c ≤ 9223372036854775807) (hl : l.length = n) (hb : Bys l) (hs : Sl w 1 A n (l.map (Value.int .u8))) (hm : l.take 4 = fwrk) :
    Calls Tryz.prog 18 #[.slice A n c] w (BytRes l w) := by
  have HC := conv_l5 w A n c l hl hs
  have HH := Lib.hid (show Calls Tryz.prog 41 #[.string (strOfNums l), .string ⟨#[70, 87, 82, 75]⟩] w fun e w' => e = .returned (.bool true) ∧ w = w' from by
    have h := HasP_any (strOfNums l) w
    rwa [mark_l5 hb, decide_eq_true hm] at h)
  have HBy := Bytes_l5 l A n c w hn hnc hc9 hl hb hs
  by_cases hG : ∃ L F, BytG l L F
  · obtain ⟨L, F, hF⟩ := hG
    have HY := Lib.hid (show Calls Tryz.prog 17 #[.slice A n c] w fun e w' => ∃ (L : List Int) (F : List (Int × Int)) (g : Nat), e = .returned (.tuple #[.pointer (some ⟨g, 0, none⟩), .nilIface]) ∧ BytG l L F ∧ GraphAt w' g L (Gh.sortG F) ∧ Below w.heap.size w w' from HBy.mono fun e w' ⟨h1, h2⟩ => by
      rcases h2 with ⟨L, F, g, k1, k2, k3⟩ | ⟨h, _⟩
      · exact ⟨L, F, g, k2, k1, k3, h1⟩
      · exact absurd hF (h _ _))
    clear HBy hs hb hF hl hm
    generalize strOfNums l = S at HC HH
    go_enter Tryz.func18, Tryz.ntmps18
    go_wp2_with (first
      | (go_at_call 41; refine HH.out.mono ?_; clear HH; rintro e w1 ⟨rfl, rfl⟩)
      | (go_at_call 17; refine HY.out.mono ?_; clear HY; rintro e w1 ⟨L, F, g, rfl, hf, hg, hb1⟩; have HF := Lib.hid hf; have HG := Lib.hid hg; have HB1 := Lib.hid hb1; clear hf hg hb1))
    go_ret2
    exact ⟨HB1.out, .inl ⟨_, _, _, HF.out, rfl, HG.out⟩⟩
  · have HNo := Lib.hid (show ∀ L F, ¬ BytG l L F from fun L F h => hG ⟨_, _, h⟩)
    have HY := Lib.hid (show Calls Tryz.prog 17 #[.slice A n c] w fun e w' => ∃ (s : ByteArray) (v : Value), e = .returned (.tuple #[.pointer none, v]) ∧ (Err.step tBytes5 (.flt 11 0 s)).At w' v ∧ Below w.heap.size w w' from HBy.mono fun e w' ⟨h1, h2⟩ => by
      rcases h2 with ⟨L, F, g, k1, k2, k3⟩ | ⟨_, s, v, k1, k2⟩
      · exact absurd k1 (HNo.out _ _)
      · exact ⟨s, v, k1, k2, h1⟩)
    clear HBy hs hb hl hm hG
    generalize strOfNums l = S at HC HH
    go_enter Tryz.func18, Tryz.ntmps18
    go_wp2_with (first
      | (go_at_call 41; refine HH.out.mono ?_; clear HH; rintro e w1 ⟨rfl, rfl⟩)
      | (go_at_call 17; refine HY.out.mono ?_; clear HY; rintro e w1 ⟨s, v, rfl, hv, hb1⟩; have HV := Lib.hid hv; have HB1 := Lib.hid hb1; clear hv hb1))
    go_ret2
    exact ⟨HB1.out, .inr ⟨HNo.out, _, _, rfl, HV.out⟩⟩
set_option maxHeartbeats 4000000 in
theorem Any_text (l : List Int) (A : Option Addr) (n c : Nat) (w : World) (hn : n ≤ 200000) (hl : l.length = n) (hb : Bys l) (hs : Sl w 1 A n (l.map (Value.int .u8))) (hm : l.take 4 ≠ fwrk) (hg : ErrT w) (hL : LibW w) :
    Calls Tryz.prog 18 #[.slice A n c] w fun e w' => ∃ p v, e = .returned (.tuple #[p, v]) ∧ Below w.heap.size w w' := by
  have HC := conv_l5 w A n c l hl hs
  have HH := Lib.hid (show Calls Tryz.prog 41 #[.string (strOfNums l), .string ⟨#[70, 87, 82, 75]⟩] w fun e w' => e = .returned (.bool false) ∧ w = w' from by
    have h := HasP_any (strOfNums l) w
    rwa [mark_l5 hb, decide_eq_false hm] at h)
  have HT := Lib.hid (show Calls Tryz.prog 10 #[.string (strOfNums l)] w fun e w' => ∃ p v, e = .returned (.tuple #[p, v]) ∧ Below w.heap.size w w' from
    (LText_any (txtL l) (strOfNums l) w rfl (by unfold txtL; rw [List.length_map, hl]; exact hn) hg hL).mono fun e w' ⟨h1, h2⟩ => by
      split at h2
      · obtain ⟨v, h, _⟩ := h2
        exact ⟨_, _, h, h1⟩
      · rcases h2 with ⟨F, g, _, h, _⟩ | ⟨_, v, h, _⟩
        · exact ⟨_, _, h, h1⟩
        · exact ⟨_, _, h, h1⟩)
  clear hs hb hl hm hg hL
  generalize strOfNums l = S at HC HH HT
  go_enter Tryz.func18, Tryz.ntmps18
  go_wp2_with (first
    | (go_at_call 41; refine HH.out.mono ?_; clear HH; rintro e w1 ⟨rfl, rfl⟩)
    | (go_at_call 10; refine HT.out.mono ?_; clear HT; rintro e w1 ⟨p, v, rfl, hb1⟩; have HB1 := Lib.hid hb1; clear hb1))
  go_ret2
  exact ⟨_, _, rfl, HB1.out⟩
end Go.Proofs.YtbbmgcdocolakaaGreatDoor
/-
  Graphs that are right: their bytes, and what Bytes, Any and Pack say of them, each in one shape.
-/
namespace Go.Proofs.YtbbmgcdocolakaaGreatDoor
open Go.RowKit Go.Proofs.YtbbmgcdocolakaaGreatDoor.Pg
set_option maxRecDepth 100000
set_option linter.unusedVariables false

/-- A graph's labels and edges, in order. -/
structure GrOK (L : List Int) (F : List (Int × Int)) : Prop where
  l9 : L.length ≤ 4096
  f9 : F.length ≤ 16384
  lab : Gh.labsOK L
  has : Gh.Has L.length F
  rise : Pt.Rise F
theorem GrOK.of_new {L : List Int} {E F : List (Int × Int)} (h : Gh.newR L E = .ok F) : GrOK L (Gh.sortG F) ∧ (Gh.sortG F).length = E.length := by
  obtain ⟨h1, h2, h3, h4, h5⟩ := Gh.new_ok h
  have hp := Gh.sort_perm h4.nd
  have hl : (Gh.sortG F).length = E.length := by rw [hp.length_eq, h5, List.length_map]
  exact ⟨⟨h1, by rw [hl]; exact h2, h3, h4.perm hp, Gh.sort_rise h4.nd⟩, hl⟩
theorem bytG_uniq {l L L' : List Int} {F F' : List (Int × Int)} (h : BytG l L F) (h' : BytG l L' F') : L = L' ∧ F = F' := by
  obtain ⟨E, h1, h2⟩ := h
  obtain ⟨E', h1', h2'⟩ := h'
  obtain ⟨rfl, rfl⟩ := byt_uniq h1 h1'
  rw [h2] at h2'
  injection h2' with h2'
  exact ⟨rfl, h2'⟩
theorem BytG.grOK {l L : List Int} {F : List (Int × Int)} (h : BytG l L F) : GrOK L (Gh.sortG F) ∧ l.length = 21 + 4 * L.length + 8 * (Gh.sortG F).length := by
  obtain ⟨E, h1, h2⟩ := h
  obtain ⟨h3, h4⟩ := GrOK.of_new h2
  exact ⟨h3, by rw [h4, ← h1.1, packG_len]⟩
section
variable {L : List Int} {F : List (Int × Int)}
theorem GrOK.fitL (h : GrOK L F) : ∀ x ∈ L, fits x := fun x hx => by
  have := h.lab x hx
  unfold fits
  omega
theorem GrOK.fitE (h : GrOK L F) : ∀ e ∈ F, fits e.1 ∧ fits e.2 := fun e he => by
  have h1 := h.has.ok e he
  have h2 := h.l9
  unfold Pt.EdgeOK at h1
  unfold fits
  omega
theorem GrOK.bytOK (h : GrOK L F) : BytOK (packG L F) L F := ⟨rfl, h.l9, h.f9, h.fitL, h.fitE⟩
theorem GrOK.byt (h : GrOK L F) : BytG (packG L F) L F := ⟨F, h.bytOK, Gh.new_same h.l9 h.f9 h.lab h.has⟩
theorem GrOK.sort (h : GrOK L F) : Gh.sortG F = F := Gh.sort_same h.has h.rise
end
theorem GPack_ok {w : World} {g n : Nat} {L : List Int} {F : List (Int × Int)} (h : GrOK L F) (hG : GraphAt w g L F) (hn : n = 21 + 4 * L.length + 8 * F.length) :
    Calls Tryz.prog 19 #[.pointer (some ⟨g, 0, none⟩)] w fun e w' => ∃ C k, e = .returned (.slice C n k) ∧ Sl w' 1 C n ((packG L F).map (Value.int .u8)) ∧ (n ≤ k ∧ k ≤ 9223372036854775807) ∧ Below w.heap.size w w' := by
  have h1 : n = (bytesP L F).length + 13 := by rw [hn, bytesP_len5]; omega
  rw [h1]
  exact GPack_any hG h.l9 h.f9 h.fitL h.fitE bytesP_bys5
/-- What Bytes says of a graph's bytes, as Any does. -/
def OkRes (L : List Int) (F : List (Int × Int)) (w : World) (e : Ending) (w' : World) : Prop :=
  ∃ g, e = .returned (.tuple #[.pointer (some ⟨g, 0, none⟩), .nilIface]) ∧ GraphAt w' g L F ∧ Below w.heap.size w w'
def NoRes (w : World) (e : Ending) (w' : World) : Prop :=
  ∃ (s : ByteArray) (T : TypeId) (x : Value), e = .returned (.tuple #[.pointer none, .iface T x]) ∧ (Err.step tBytes5 (.flt 11 0 s)).At w' (.iface T x) ∧ Below w.heap.size w w'
theorem BytRes.ok {l L : List Int} {F : List (Int × Int)} {w w' : World} {e : Ending} (h : BytRes l w e w') (hG : BytG l L F) : OkRes L (Gh.sortG F) w e w' := by
  obtain ⟨hb, h⟩ := h
  rcases h with ⟨L', F', g, h1, h2, h3⟩ | ⟨h, _⟩
  · obtain ⟨rfl, rfl⟩ := bytG_uniq h1 hG
    exact ⟨g, h2, h3, hb⟩
  · exact absurd hG (h _ _)
theorem BytRes.no {l : List Int} {w w' : World} {e : Ending} (h : BytRes l w e w') (hG : ∀ L F, ¬ BytG l L F) : NoRes w e w' := by
  obtain ⟨hb, h⟩ := h
  rcases h with ⟨L', F', g, h1, h2, h3⟩ | ⟨_, s, v, h1, h2⟩
  · exact absurd h1 (hG _ _)
  · obtain ⟨T, x, rfl⟩ := Err.At.iface_ h2 (fun e => by cases e)
    exact ⟨s, T, x, h1, h2, hb⟩
section
variable (l : List Int) (A : Option Addr) (n c : Nat) (w : World) (hn : n ≤ 100000) (hc : n ≤ c ∧ c ≤ 9223372036854775807) (hl : l.length = n) (hb : Bys l) (hs : Sl w 1 A n (l.map (Value.int .u8)))
include hn hc hl hb hs
theorem Bytes_ok {L : List Int} {F : List (Int × Int)} (hG : BytG l L F) : Calls Tryz.prog 17 #[.slice A n c] w (OkRes L (Gh.sortG F) w) :=
  (Bytes_l5 l A n c w (by omega) hc.1 hc.2 hl hb hs).mono fun e w' h => h.ok hG
theorem Bytes_no (hG : ∀ L F, ¬ BytG l L F) : Calls Tryz.prog 17 #[.slice A n c] w (NoRes w) :=
  (Bytes_l5 l A n c w (by omega) hc.1 hc.2 hl hb hs).mono fun e w' h => h.no hG
theorem Any_ok {L : List Int} {F : List (Int × Int)} (hG : BytG l L F) : Calls Tryz.prog 18 #[.slice A n c] w (OkRes L (Gh.sortG F) w) :=
  (Any_mark l A n c w (by omega) hc.1 hc.2 hl hb hs (by obtain ⟨E, h, _⟩ := hG; rw [← h.1]; exact packG_mark _ _)).mono fun e w' h => h.ok hG
theorem Any_no (hm : l.take 4 = fwrk) (hG : ∀ L F, ¬ BytG l L F) : Calls Tryz.prog 18 #[.slice A n c] w (NoRes w) :=
  (Any_mark l A n c w (by omega) hc.1 hc.2 hl hb hs hm).mono fun e w' h => h.no hG
end
end Go.Proofs.YtbbmgcdocolakaaGreatDoor
/-
  fretworklaw04.Made: a graph as the program and as the document have it.
-/
namespace Go.Proofs.YtbbmgcdocolakaaGreatDoor
open Go.RowKit
attribute [local go_sem ↓] Go.wp_at_zero Go.wp_at_succ
set_option maxRecDepth 100000
set_option linter.unusedVariables false

def isInt (v : Value) : Prop := ∃ k z, v = .int k z
theorem ints_all (k : IntKind) (l : List Int) : ∀ x ∈ l.map (Value.int k), isInt x := fun x hx => by
  obtain ⟨z, _, rfl⟩ := List.mem_map.1 hx
  exact ⟨k, z, rfl⟩
theorem cells_all (F : List (Int × Int)) : ∀ x ∈ Rk.cells F, isInt x := fun x hx => by
  unfold Rk.cells at hx
  obtain ⟨e, _, h⟩ := List.mem_flatMap.1 hx
  rcases List.mem_cons.1 h with rfl | h
  · exact ⟨_, _, rfl⟩
  · rw [List.mem_singleton.1 h]
    exact ⟨_, _, rfl⟩
/-- A row of numbers stays where a slice's cell is written. -/
theorem Sl.other {w : World} {s n b i k c : Nat} {A B : Option Addr} {xs : List Value} (h : Sl w s A n xs) (hc : w.cell? ⟨b, i, none⟩ = some (.slice B k c)) (hx : ∀ x ∈ xs, isInt x) (u : Value) : Sl (w.setCell ⟨b, i, none⟩ u) s A n xs := by
  refine ⟨h.1, fun h0 => ?_⟩
  obtain ⟨g, off, hA, hcs⟩ := h.2 h0
  refine ⟨g, off, hA, fun j x hj => ?_⟩
  rw [World.cell?_setCell_other]
  · exact hcs j x hj
  · intro he
    have h1 := hcs j x hj
    rw [← he, hc] at h1
    obtain ⟨kk, z, rfl⟩ := hx x (List.mem_of_getElem? hj)
    cases h1
theorem GraphAt.other {w : World} {g b i k c : Nat} {t : TypeId} {B : Option Addr} {cs : Array Value} {L : List Int} {F : List (Int × Int)} (h : GraphAt w g L F) (hk : Blk w b t cs) (ht : t ≠ 74) (hc : cs[i]? = some (.slice B k c)) (u : Value) : GraphAt (w.setCell ⟨b, i, none⟩ u) g L F := by
  obtain ⟨A, c1, B1, d, C, N, I, h1, h2, h3, h4, ⟨xs, h5⟩, ⟨ys, h6⟩⟩ := h
  have hcc := (hk.cell i).trans hc
  have hgb : g ≠ b := fun e => by
    subst e
    unfold Blk at h1 hk
    rw [h1] at hk
    injection hk with hk
    injection hk with _ hk
    exact ht hk.symm
  exact ⟨A, c1, B1, d, C, N, I, h1.far hgb u, h2.other hcc (ints_all _ _) u, h3.other hcc (cells_all _) u, h4.other hcc (ints_all _ _) u, ⟨xs, h5.other hcc (ints_all _ _) u⟩, ⟨ys, h6.other hcc (ints_all _ _) u⟩⟩
/-- What there isn't. -/
def NoMade (w : World) (e : Ending) (w' : World) : Prop :=
  e = .returned (.tuple #[.pointer none, .agg #[.slice none 0 0, .slice none 0 0], .bool false]) ∧ Below w.heap.size w w'
/-- .. and what there is. -/
def IsMade (L : List Int) (F : List (Int × Int)) (A : Option Addr) (n c m : Nat) (w : World) (e : Ending) (w' : World) : Prop :=
  ∃ g D dk, e = .returned (.tuple #[.pointer (some ⟨g, 0, none⟩), .agg #[.slice A n c, .slice D m dk], .bool true]) ∧ GraphAt w' g L F ∧ Sl w' 2 D m (Rk.cells F) ∧ Below w.heap.size w w'
section
variable (L : List Int) (E : List (Int × Int)) (A B : Option Addr) (n c m d : Nat) (w : World)
theorem Made_n (h : 10 < n) : Calls Tryz.prog 8 #[.slice A n c, .slice B m d] w (NoMade w) := by
  have h1 : (10 : Int) < (n : Int) := by omega
  have HB0 := Lib.hid (show Below w.heap.size w (w.alloc (.cells #[.slice none 0 0, .slice none 0 0] 27)) from bel_al (Below.refl _ _) _)
  have HK0 := Lib.hid (show Blk (w.alloc (.cells #[.slice none 0 0, .slice none 0 0] 27)) w.heap.size 27 #[.slice none 0 0, .slice none 0 0] from Blk.new _ _ _)
  obtain ⟨w0, hw0⟩ : ∃ W, W = w.alloc (.cells #[.slice none 0 0, .slice none 0 0] 27) := ⟨_, rfl⟩
  rw [← hw0] at HB0 HK0
  go_enter Tryz.func8, Tryz.ntmps8
  go_upto_region 1 with (fail)
  rw [← hw0]
  clear hw0
  have r0 := HK0.out.cell 0
  have r1 := HK0.out.cell 1
  have f0 := HK0.out.frozen 0
  have f1 := HK0.out.frozen 1
  simp at r0 r1
  go_wp2_with fail
  have hx := (HK0.out.set_ 0 (.slice none 0 0)).set_ 1 (.slice none 0 0)
  have x00 := hx.cell 0
  have x01 := hx.cell 1
  simp at x00 x01
  refine bodyPost_ret (v := .tuple #[.pointer none, .agg #[.slice none 0 0, .slice none 0 0], .bool false]) (by simp [results, Tryz.results8, go_sem, x00, x01]) rfl ?_
  exact ⟨rfl, (HB0.out.setCell (p := ⟨w.heap.size, 0, none⟩) (Nat.le_refl _) _).setCell (p := ⟨w.heap.size, 1, none⟩) (Nat.le_refl _) _⟩
theorem Made_m (h : n ≤ 10) (h' : 30 < m) : Calls Tryz.prog 8 #[.slice A n c, .slice B m d] w (NoMade w) := by
  have h1 : ¬ (10 : Int) < (n : Int) := by omega
  have h2 : (30 : Int) < (m : Int) := by omega
  have HB0 := Lib.hid (show Below w.heap.size w (w.alloc (.cells #[.slice none 0 0, .slice none 0 0] 27)) from bel_al (Below.refl _ _) _)
  have HK0 := Lib.hid (show Blk (w.alloc (.cells #[.slice none 0 0, .slice none 0 0] 27)) w.heap.size 27 #[.slice none 0 0, .slice none 0 0] from Blk.new _ _ _)
  obtain ⟨w0, hw0⟩ : ∃ W, W = w.alloc (.cells #[.slice none 0 0, .slice none 0 0] 27) := ⟨_, rfl⟩
  rw [← hw0] at HB0 HK0
  go_enter Tryz.func8, Tryz.ntmps8
  go_upto_region 1 with (fail)
  rw [← hw0]
  clear hw0
  have r0 := HK0.out.cell 0
  have r1 := HK0.out.cell 1
  have f0 := HK0.out.frozen 0
  have f1 := HK0.out.frozen 1
  simp at r0 r1
  go_wp2_with fail
  have hx := (HK0.out.set_ 0 (.slice none 0 0)).set_ 1 (.slice none 0 0)
  have x00 := hx.cell 0
  have x01 := hx.cell 1
  simp at x00 x01
  refine bodyPost_ret (v := .tuple #[.pointer none, .agg #[.slice none 0 0, .slice none 0 0], .bool false]) (by simp [results, Tryz.results8, go_sem, x00, x01]) rfl ?_
  exact ⟨rfl, (HB0.out.setCell (p := ⟨w.heap.size, 0, none⟩) (Nat.le_refl _) _).setCell (p := ⟨w.heap.size, 1, none⟩) (Nat.le_refl _) _⟩
set_option maxHeartbeats 8000000 in
theorem Made_ok (hn : n ≤ 10) (hm : m ≤ 30) (hl : L.length = n) (hs : Sl w 1 A n (L.map (Value.int .i64))) (ht : Sl w 2 B m (Rk.cells E)) (hi : ∀ e ∈ E, i64e e.1 ∧ i64e e.2) {F : List (Int × Int)} (hF : Gh.newR L E = .ok F) :
    Calls Tryz.prog 8 #[.slice A n c, .slice B m d] w (IsMade L (Gh.sortG F) A n c m w) := by
  have h1 : ¬ (10 : Int) < (n : Int) := by omega
  have h2 : ¬ (30 : Int) < (m : Int) := by omega
  have HB0 := Lib.hid (show Below w.heap.size w (w.alloc (.cells #[.slice none 0 0, .slice none 0 0] 27)) from bel_al (Below.refl _ _) _)
  have HK0 := Lib.hid (show Blk (w.alloc (.cells #[.slice none 0 0, .slice none 0 0] 27)) w.heap.size 27 #[.slice none 0 0, .slice none 0 0] from Blk.new _ _ _)
  obtain ⟨w0, hw0⟩ : ∃ W, W = w.alloc (.cells #[.slice none 0 0, .slice none 0 0] 27) := ⟨_, rfl⟩
  rw [← hw0] at HB0 HK0
  have HRN := Lib.hid (show Calls Tryz.prog 26 #[.slice A n c, .slice B m d] w0 fun e w' => ∃ D dk, e = .returned (.tuple #[.agg #[.slice A n c, .slice D m dk], .int .i64 0, .int .i64 0]) ∧ Sl w' 2 D m (Rk.cells (Gh.sortG F)) ∧ Below w0.heap.size w0 w' from (RNew_any L E A B n c m d w0 hl (by omega) (by omega) (hs.keep HB0.out) (ht.keep HB0.out)).mono fun e w' ⟨h3, h4⟩ => by
    rcases h4 with ⟨F', D, dk, k1, k2, k3⟩ | ⟨k1, _⟩
    · rw [hF] at k1
      injection k1 with k1
      subst k1
      exact ⟨D, dk, k2, k3, h3⟩
    · exact absurd hF (k1 _))
  have HOf := Lib.hid (fun W (hW : Below w.heap.size w W) => Of04_any E B m d W (by omega) (ht.keep hW))
  have HGN := Lib.hid (show ∀ (W : World) (B' : Option Addr) (d' : Nat), Below w.heap.size w W → Sl W 2 B' m (Rk.cells E) → Calls Tryz.prog 27 #[.slice A n c, .slice B' m d'] W fun e w' => ∃ g, e = .returned (.tuple #[.pointer (some ⟨g, 0, none⟩), .nilIface]) ∧ GraphAt w' g L (Gh.sortG F) ∧ Below W.heap.size W w' from fun W B' d' hW hB => (GNew_any L E A B' n c m d' W hl (by omega) (by omega) (hs.keep hW) hB hi).mono fun e w' h => by
    obtain ⟨h3, h4⟩ := h
    rw [hF] at h4
    obtain ⟨g, k1, k2⟩ := h4
    exact ⟨g, k1, k2, h3⟩)
  clear hs ht hi hF hl
  go_enter Tryz.func8, Tryz.ntmps8
  go_upto_region 1 with (fail)
  rw [← hw0]
  clear hw0
  go_upto_region 4 with (go_at_call 26; refine HRN.out.mono ?_; clear HRN; rintro e w1 ⟨D, dk, rfl, hs1, hb1⟩; have HS1 := Lib.hid hs1; have HB1 := Lib.hid hb1; clear hs1 hb1)
  obtain ⟨w2, hw2⟩ : ∃ W, W = w1.alloc (.cells #[.slice A n c, .slice D m dk] 27) := ⟨_, rfl⟩
  obtain ⟨q, hq⟩ : ∃ q, q = w1.heap.size := ⟨_, rfl⟩
  have HB2 := Lib.hid (show Below w0.heap.size w0 w2 from by rw [hw2]; exact bel_al HB1.out _)
  have HKq := Lib.hid (show Blk w2 q 27 #[.slice A n c, .slice D m dk] from by rw [hw2, hq]; exact Blk.new _ _ _)
  have HS2 := Lib.hid (show Sl w2 2 D m (Rk.cells (Gh.sortG F)) from by rw [hw2]; exact HS1.out.keep (bel_al (Below.refl _ _) _))
  have HZq := Lib.hid (show w.heap.size < q from by rw [hq]; have h3 := HK0.out.lt; have h4 := HB1.out.size; omega)
  rw [← hw2, ← hq]
  clear hw2 hq
  go_upto_region 5 with (first
    | (go_at_call 28; refine (HOf.out _ (HB0.out.andThen HB2.out)).mono ?_; clear HOf; rintro e w3 ⟨v3, rfl, ho3, hb3⟩; obtain ⟨D3, c3, rfl, hs3⟩ := Sl.own ho3; have HG3 := Lib.hid (HGN.out w3 D3 c3 ((HB0.out.andThen HB2.out).andThen hb3) hs3); have HB3 := Lib.hid (HB2.out.andThen hb3); have HK3 := Lib.hid (HKq.out.keep hb3); have HS3 := Lib.hid (HS2.out.keep hb3); clear ho3 hb3 hs3)
    | (go_at_call 27; refine HG3.out.mono ?_; clear HG3; rintro e w4 ⟨g, rfl, hg4, hb4⟩; have HG4 := Lib.hid hg4; have HB4 := Lib.hid (HB3.out.andThen hb4); have HK4 := Lib.hid (HK3.out.keep hb4); have HS4 := Lib.hid (HS3.out.keep hb4); clear hg4 hb4))
  have HKr := Lib.hid (HK0.out.keep HB4.out)
  have r0 := HKr.out.cell 0
  have r1 := HKr.out.cell 1
  have f0 := HKr.out.frozen 0
  have f1 := HKr.out.frozen 1
  have q0 := HK4.out.cell 0
  have q1 := HK4.out.cell 1
  simp at r0 r1 q0 q1
  go_region
  go_wp2_with fail
  have hx := (HKr.out.set_ 0 (.slice A n c)).set_ 1 (.slice D m dk)
  have hx' : Blk (((w4.setCell ⟨w.heap.size, 0, none⟩ (.slice A n c)).setCell ⟨w.heap.size, 1, none⟩ (.slice D m dk)).drew) w.heap.size 27 _ := hx
  have x00 := hx'.cell 0
  have x01 := hx'.cell 1
  simp at x00 x01
  refine bodyPost_ret (v := .tuple #[.pointer (some ⟨g, 0, none⟩), .agg #[.slice A n c, .slice D m dk], .bool true]) (by simp [results, Tryz.results8, go_sem, x00, x01]) rfl ?_
  have hK1 := HKr.out.set_ 0 (.slice A n c)
  have hc1 : (w4.setCell ⟨w.heap.size, 0, none⟩ (.slice A n c)).cell? ⟨w.heap.size, 1, none⟩ = some (.slice none 0 0) := by rw [hK1.cell 1]; rfl
  exact ⟨g, D, dk, rfl, ((HG4.out.other (i := 0) HKr.out (by decide) rfl _).other (i := 1) hK1 (by decide) rfl _).keep (bel_drewN (Below.refl _ _) 1), ((HS4.out.other r0 (cells_all _) _).other hc1 (cells_all _) _).keep (bel_drewN (Below.refl _ _) 1), bel_drewN (((HB0.out.andThen HB4.out).setCell (p := ⟨w.heap.size, 0, none⟩) (Nat.le_refl _) _).setCell (p := ⟨w.heap.size, 1, none⟩) (Nat.le_refl _) _) 1⟩
set_option maxHeartbeats 8000000 in
theorem Made_no (hn : n ≤ 10) (hm : m ≤ 30) (hl : L.length = n) (hs : Sl w 1 A n (L.map (Value.int .i64))) (ht : Sl w 2 B m (Rk.cells E)) (hi : ∀ e ∈ E, i64e e.1 ∧ i64e e.2) (hF : ∀ F, Gh.newR L E ≠ .ok F) :
    Calls Tryz.prog 8 #[.slice A n c, .slice B m d] w (NoMade w) := by
  have h1 : ¬ (10 : Int) < (n : Int) := by omega
  have h2 : ¬ (30 : Int) < (m : Int) := by omega
  have HB0 := Lib.hid (show Below w.heap.size w (w.alloc (.cells #[.slice none 0 0, .slice none 0 0] 27)) from bel_al (Below.refl _ _) _)
  have HK0 := Lib.hid (show Blk (w.alloc (.cells #[.slice none 0 0, .slice none 0 0] 27)) w.heap.size 27 #[.slice none 0 0, .slice none 0 0] from Blk.new _ _ _)
  obtain ⟨w0, hw0⟩ : ∃ W, W = w.alloc (.cells #[.slice none 0 0, .slice none 0 0] 27) := ⟨_, rfl⟩
  rw [← hw0] at HB0 HK0
  have HRN := Lib.hid (show Calls Tryz.prog 26 #[.slice A n c, .slice B m d] w0 fun e w' => ∃ code place : Int, e = .returned (.tuple #[.agg #[.slice none 0 0, .slice none 0 0], .int .i64 code, .int .i64 place]) ∧ (code == 0) = false ∧ Below w0.heap.size w0 w' from (RNew_any L E A B n c m d w0 hl (by omega) (by omega) (hs.keep HB0.out) (ht.keep HB0.out)).mono fun e w' ⟨h3, h4⟩ => by
    rcases h4 with ⟨F', D, dk, k1, k2, k3⟩ | ⟨_, code, place, k1, k2⟩
    · exact absurd k1 (hF _)
    · exact ⟨code, place, k1, by simp; omega, h3⟩)
  have HOf := Lib.hid (fun W (hW : Below w.heap.size w W) => Of04_any E B m d W (by omega) (ht.keep hW))
  have HGN := Lib.hid (show ∀ (W : World) (B' : Option Addr) (d' : Nat), Below w.heap.size w W → Sl W 2 B' m (Rk.cells E) → Calls Tryz.prog 27 #[.slice A n c, .slice B' m d'] W fun e w' => ∃ (T : TypeId) (x : Value), e = .returned (.tuple #[.pointer none, .iface T x]) ∧ Below W.heap.size W w' from fun W B' d' hW hB => (GNew_any L E A B' n c m d' W hl (by omega) (by omega) (hs.keep hW) hB hi).mono fun e w' h => by
    obtain ⟨h3, Er, T, x, h4, _⟩ := new_tame hF h
    exact ⟨T, x, h4, h3⟩)
  clear hs ht hi hF hl
  go_enter Tryz.func8, Tryz.ntmps8
  go_upto_region 1 with (fail)
  rw [← hw0]
  clear hw0
  go_upto_region 4 with (go_at_call 26; refine HRN.out.mono ?_; clear HRN; rintro e w1 ⟨code, place, rfl, hcode, hb1⟩; have HB1 := Lib.hid hb1; clear hb1)
  obtain ⟨w2, hw2⟩ : ∃ W, W = w1.alloc (.cells #[.slice none 0 0, .slice none 0 0] 27) := ⟨_, rfl⟩
  obtain ⟨q, hq⟩ : ∃ q, q = w1.heap.size := ⟨_, rfl⟩
  have HB2 := Lib.hid (show Below w0.heap.size w0 w2 from by rw [hw2]; exact bel_al HB1.out _)
  have HKq := Lib.hid (show Blk w2 q 27 #[.slice none 0 0, .slice none 0 0] from by rw [hw2, hq]; exact Blk.new _ _ _)
  rw [← hw2, ← hq]
  clear hw2 hq
  go_upto_region 5 with (first
    | (go_at_call 28; refine (HOf.out _ (HB0.out.andThen HB2.out)).mono ?_; clear HOf; rintro e w3 ⟨v3, rfl, ho3, hb3⟩; obtain ⟨D3, c3, rfl, hs3⟩ := Sl.own ho3; have HG3 := Lib.hid (HGN.out w3 D3 c3 ((HB0.out.andThen HB2.out).andThen hb3) hs3); have HB3 := Lib.hid (HB2.out.andThen hb3); have HK3 := Lib.hid (HKq.out.keep hb3); clear ho3 hb3 hs3)
    | (go_at_call 27; refine HG3.out.mono ?_; clear HG3; rintro e w4 ⟨T, x, rfl, hb4⟩; have HB4 := Lib.hid (HB3.out.andThen hb4); have HK4 := Lib.hid (HK3.out.keep hb4); clear hb4))
  have HKr := Lib.hid (HK0.out.keep HB4.out)
  have r0 := HKr.out.cell 0
  have r1 := HKr.out.cell 1
  have f0 := HKr.out.frozen 0
  have f1 := HKr.out.frozen 1
  have q0 := HK4.out.cell 0
  have q1 := HK4.out.cell 1
  simp at r0 r1 q0 q1
  go_region
  go_wp2_with fail
  have hx := (HKr.out.set_ 0 (.slice none 0 0)).set_ 1 (.slice none 0 0)
  have hx' : Blk (((w4.setCell ⟨w.heap.size, 0, none⟩ (.slice none 0 0)).setCell ⟨w.heap.size, 1, none⟩ (.slice none 0 0)).drew) w.heap.size 27 _ := hx
  have x00 := hx'.cell 0
  have x01 := hx'.cell 1
  simp at x00 x01
  refine bodyPost_ret (v := .tuple #[.pointer none, .agg #[.slice none 0 0, .slice none 0 0], .bool false]) (by simp [results, Tryz.results8, go_sem, x00, x01]) rfl ?_
  exact ⟨rfl, bel_drewN (((HB0.out.andThen HB4.out).setCell (p := ⟨w.heap.size, 0, none⟩) (Nat.le_refl _) _).setCell (p := ⟨w.heap.size, 1, none⟩) (Nat.le_refl _) _) 1⟩
end
/-- Made, of any lists: there is none, or there is one of a graph that is right. -/
theorem Made_any (L : List Int) (E : List (Int × Int)) (A B : Option Addr) (n c m d : Nat) (w : World) (hl : L.length = n) (hs : Sl w 1 A n (L.map (Value.int .i64))) (ht : Sl w 2 B m (Rk.cells E)) (hi : ∀ e ∈ E, i64e e.1 ∧ i64e e.2) :
    Calls Tryz.prog 8 #[.slice A n c, .slice B m d] w (NoMade w) ∨
    (n ≤ 10 ∧ m ≤ 30 ∧ ∃ F, GrOK L F ∧ F.length = m ∧ Calls Tryz.prog 8 #[.slice A n c, .slice B m d] w (IsMade L F A n c m w)) := by
  by_cases hn : n ≤ 10
  · by_cases hm : m ≤ 30
    · by_cases hF : ∃ F, Gh.newR L E = .ok F
      · obtain ⟨F, hF⟩ := hF
        obtain ⟨h1, h2⟩ := GrOK.of_new hF
        exact .inr ⟨hn, hm, Gh.sortG F, h1, by rw [h2]; exact ht.len2, Made_ok L E A B n c m d w hn hm hl hs ht hi hF⟩
      · exact .inl (Made_no L E A B n c m d w hn hm hl hs ht hi fun F h => hF ⟨F, h⟩)
    · exact .inl (Made_m A B n c m d w hn (by omega))
  · exact .inl (Made_n A B n c m d w (by omega))
end Go.Proofs.YtbbmgcdocolakaaGreatDoor
