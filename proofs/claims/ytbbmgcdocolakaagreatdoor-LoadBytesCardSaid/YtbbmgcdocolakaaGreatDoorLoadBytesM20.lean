/-
  Part 20 of the proof of LoadBytes: Text, LdV, LdW, LdX, LdE, LoadBytes.
-/
import Derived.Test.YtbbmgcdocolakaaGreatDoorLoadBytesM18
import Derived.Test.YtbbmgcdocolakaaGreatDoorLoadBytesM19
import Derived.ShutString
import Derived.BigQuiet
import Derived.Test.YtbbmgcdocolakaaGreatDoorLoadBytesM16
import Derived.Test.YtbbmgcdocolakaaGreatDoorLoadBytesM4
set_option linter.unusedVariables false
/-
  fault.Text over chains.
-/
namespace Go.Proofs.YtbbmgcdocolakaaGreatDoor
open Go.RowKit Go.Extern.Stop Go.Stop Go.Extern
set_option maxRecDepth 100000

def Err.inner : Err → ByteArray
  | .nil => ⟨#[]⟩
  | .flt _ _ s => s
  | .txt s => s
  | .step _ e => e.inner
/-- The words, each with a colon and a blank behind. -/
def withColons (l : List ByteArray) : List UInt8 := l.flatMap fun w => w.data.toList ++ [58, 32]
def Err.text (E : Err) : List UInt8 := withColons E.words ++ E.inner.data.toList
/-- The innermost error. -/
def Err.core : Err → Err
  | .step _ e => e.core
  | e => e
theorem withColons_snoc (l : List ByteArray) (w : ByteArray) : withColons (l ++ [w]) = withColons l ++ (w.data.toList ++ [58, 32]) := by simp [withColons]
theorem withColons_take_le (l : List ByteArray) (k : Nat) : (withColons (l.take k)).length ≤ (withColons l).length := by
  have h : withColons l = withColons (l.take k) ++ withColons (l.drop k) := by
    unfold withColons; rw [← List.flatMap_append, List.take_append_drop]
  rw [h, List.length_append]; omega
theorem Err.core_inner : ∀ E : Err, E.core.inner = E.inner
  | .nil => rfl
  | .flt _ _ _ => rfl
  | .txt _ => rfl
  | .step _ e => Err.core_inner e

theorem fr_methodErrorF (v : Value) (w : World) : (Go.method 343 78 v "Error").run Tryz.prog w = .ok (160, v) w := by kernel_rfl
theorem fr_nilErrorF (a : Addr) (w : World) : (nilAhead 343 78 (.pointer (some a)) "Error").run Tryz.prog w = .ok (some false) w := by kernel_rfl

theorem FaultError (g : Nat) (s : ByteArray) (w : World) (h : w.cell? ⟨g, 2, none⟩ = some (.string s)) :
    Calls Tryz.prog 160 #[.pointer (some ⟨g, 0, none⟩)] w fun e w' => e = .returned (.string s) ∧ w = w' := by
  go_enter Tryz.func160, Tryz.ntmps160
  go_wp2
  go_ret
  exact ⟨rfl, rfl⟩

theorem bytes_append (l : List UInt8) (s : ByteArray) : (⟨l.toArray⟩ : ByteArray) ++ s = ⟨(l ++ s.data.toList).toArray⟩ := by
  apply ByteArray.ext
  rw [ByteArray.data_append]
  simp

set_option maxHeartbeats 2000000 in
theorem Text_any (E : Err) (v : Value) (w : World) (hE : E.At w v) (hne : E ≠ .nil) (hd : E.size ≤ 4294967296) (hlen : (withColons E.words).length ≤ lim) (hin : E.inner.size ≤ lim) :
    Calls Tryz.prog 40 #[v] w fun e w' => e = .returned (.string ⟨E.text.toArray⟩) ∧ Below w.heap.size w w' := by
  have HE := Lib.hid hE
  have HN := Lib.hid hne
  have hwl : E.words.length ≤ 4294967296 := Nat.le_trans (Err.words_le E) hd
  have HW := Lib.hid (Words_any E v (w.alloc (.cells #[.pointer none, .slice none 0 0] 95)) (hE.keep (bel_al (Below.refl _ _) _)) hd)
  obtain ⟨T, x, rfl⟩ := Err.At.iface_ hE hne
  clear hE hne
  go_enter Tryz.func40, Tryz.ntmps40
  go_wp2_with (go_at_call 67; refine HW.out.mono ?_; rintro ev w1 ⟨A, c, rfl, hown, hb1⟩)
  have hB1 : Bld w.heap.size w.heap.size [] w1 := Bld.fresh (by simpa using hb1)
  have hb2 : Below w.heap.size w w1 := (bel_al (Below.refl w.heap.size w) _).andThen hb1
  clear hb1
  have HI := Lib.hid hin
  clear hin
  have HL := Lib.hid hlen
  have HS := Lib.hid hown
  clear hlen hown hd
  go_loopw [12] (fun i wr => ∃ k : Nat, k ≤ E.words.length ∧ i = .int .i64 k ∧ Bld w.heap.size w.heap.size (withColons (E.words.take k)) wr ∧ Below w.heap.size w wr ∧ Hid (∃ base, wr.ownsRow base 9 1 (.slice A E.words.length c) E.words.length (E.words.map Value.string))) (fun i _ => E.words.length - (intOf i).toNat)
  case atStart => exact ⟨0, Nat.zero_le _, rfl, by simpa [withColons] using hB1, hb2, _, HS.out⟩
  case round =>
    obtain ⟨k, hk, rfl, hB, hb, HSl⟩ := hrel
    by_cases hlt : k < E.words.length
    · obtain ⟨base, hown⟩ := HSl.out
      obtain ⟨b, off, u, rfl, e1, c1⟩ := (Sl.of_own hown).one hlt
      rw [List.getElem?_map, List.getElem?_eq_getElem hlt] at e1
      obtain rfl := Option.some.inj e1
      have HT := Lib.hid (List.take_succ_eq_append_getElem hlt)
      have hle : (withColons (E.words.take (k + 1))).length ≤ lim := Nat.le_trans (withColons_take_le _ _) HL.out
      rw [HT.out, withColons_snoc] at hle
      generalize E.words[k] = wd at *
      simp only [List.length_append, List.length_cons, List.length_nil, Array.length_toList] at hle
      have hws : wd.size ≤ 140737488355328 := by have h1 : wd.data.size = wd.size := rfl; have h2 := lim_eq; omega
      have HO := Lib.hid hown
      have HB := Lib.hid hB
      clear hown e1 hB
      go_wp2_with (go_at_call 48; refine (WriteString_any _ _ _ _ _ HB.out (by rw [ByteArray.size_append]; show _ + (wd.size + 2) ≤ _; have : wd.data.size = wd.size := rfl; omega) hb.size).mono ?_; rintro ev w2 ⟨rfl, hB2, hb3, hk2⟩)
      go_roundw
      case rel =>
        refine ⟨k + 1, by omega, by go_num, ?_, hb.trans hb3, _, own_others HO.out hk2 HB.out (by decide) (by decide)⟩
        rw [HT.out, withColons_snoc]
        simpa using hB2
      case measure => simp [intOf]; omega
    · have hkk : k = E.words.length := by omega
      subst hkk
      rw [List.take_length] at hB
      have HB := Lib.hid hB
      have HU := Lib.hid (Unwrap_any E _ w wr HE.out hb)
      clear hB HW
      go_wp2_with (go_at_call 73; refine HU.out.mono ?_; rintro ev w2 ⟨v2, rfl, hv2, rfl⟩)
      have HV2 := Lib.hid hv2
      clear hv2
      go_loopg [0, 6] E.size (fun k e i wx => ∃ E' : Err, E'.At w e ∧ E'.out.At w i ∧ Hid (E' ≠ .nil) ∧ Hid (E'.core = E.core) ∧ E'.size = k ∧ wx = wr)
      case atStart => exact ⟨E, HE.out, HV2.out, HN.out, rfl, rfl, rfl⟩
      case round =>
        obtain ⟨E', hE', ho', HN', HC, hk', rfl⟩ := hrel
        have HK := Lib.hid hk'
        have HE' := Lib.hid hE'
        have HO' := Lib.hid ho'
        clear hk'
        cases E' with
        | nil => exact absurd rfl HN'.out
        | step wd e =>
          have hne' : e ≠ .nil := by obtain ⟨_, _, _, _, _, h⟩ := hE'; exact h
          obtain ⟨T2, x2, rfl⟩ := Err.At.iface_ ho' hne'
          have HNe := Lib.hid hne'
          have HU2 := Lib.hid (Unwrap_any e _ w _ HO'.out hb)
          clear hE' ho' hne'
          go_wp2_with (go_at_call 73; refine HU2.out.mono ?_; rintro ev w2 ⟨v3, rfl, hv3, rfl⟩)
          go_roundg e.size
          case measure => have := HK.out; simp only [Err.size] at this; omega
          case rel => exact ⟨e, HO'.out, hv3, HNe.out, HC.out, rfl, rfl⟩
        | flt c a s =>
          obtain ⟨g, rfl, hblk⟩ := hE'
          have c2 := (hblk.keep hb).cell 2
          have hblt := hblk.lt
          simp at c2
          obtain rfl : _ = Value.nilIface := ho'
          have hss : s.size ≤ 140737488355328 := by have h1 := HI.out; rw [← Err.core_inner, ← HC.out] at h1; exact h1
          have hbs : (⟨(withColons E.words).toArray⟩ : ByteArray).size ≤ 140737488355328 := by rw [size_of_list]; exact HL.out
          have HR := Lib.hid (show E.text = withColons E.words ++ s.data.toList by unfold Err.text; rw [← Err.core_inner, ← HC.out]; rfl)
          have m1 := fr_methodErrorF
          have m2 := fr_nilErrorF
          have HX := Lib.hid (String_any _ _ _ _ HB.out hb.size)
          clear hblk
          go_wp2_with fail
          refine HX.out.mono ?_
          rintro ev w2 ⟨rfl, hb3⟩
          have HF := Lib.hid (FaultError g s w2 ((hb3.cell (p := ⟨g, 2, none⟩) hblt).trans c2))
          go_wp2_with (go_at_call 160; refine HF.out.mono ?_; rintro ev w4 ⟨rfl, rfl⟩)
          go_ret
          refine ⟨?_, hb.trans hb3⟩
          rw [HR.out]
          exact ret_eq (congrArg Value.string (bytes_append _ _))
        | txt s => exact hE'.elim
end Go.Proofs.YtbbmgcdocolakaaGreatDoor
/-
  load.Bytes of any bytes.
-/
namespace Go.Proofs.YtbbmgcdocolakaaGreatDoor
open Go.RowKit
attribute [local go_sem ↓] Go.wp_at_zero Go.wp_at_succ
set_option maxRecDepth 100000
set_option linter.unusedVariables false

def tBytes5 : ByteArray := ⟨#[98, 121, 116, 101, 115]⟩
/-- The bytes are those of a graph. -/
def BytG (l L : List Int) (F : List (Int × Int)) : Prop := ∃ E, BytOK l L E ∧ Gh.newR L E = .ok F
/-- What Bytes answers. -/
def BytRes (l : List Int) (w : World) (e : Ending) (w' : World) : Prop :=
  Below w.heap.size w w' ∧ ((∃ (L : List Int) (F : List (Int × Int)) (g : Nat), BytG l L F ∧ e = .returned (.tuple #[.pointer (some ⟨g, 0, none⟩), .nilIface]) ∧ GraphAt w' g L (Gh.sortG F)) ∨
    ((∀ L F, ¬ BytG l L F) ∧ ∃ (s : ByteArray) (v : Value), e = .returned (.tuple #[.pointer none, v]) ∧ (Err.step tBytes5 (.flt 11 0 s)).At w' v))
/-- An error whose text is short. -/
def Tame (E : Err) : Prop := E ≠ .nil ∧ E.size ≤ 4294967296 ∧ (withColons E.words).length ≤ lim ∧ E.inner.size ≤ lim
theorem tame_flt {c a : Int} {s : ByteArray} (h : s.size ≤ 100) : Tame (.flt c a s) := ⟨fun e => by (cases e), (show (1 : Nat) ≤ 4294967296 by decide), (show (withColons []).length ≤ lim by decide), by have := lim_eq; show s.size ≤ lim; omega⟩
theorem tame_edge {c a : Int} : Tame (.step tEdge (.flt c a tEdge)) := ⟨fun e => by (cases e), (show (2 : Nat) ≤ 4294967296 by decide), (show (withColons [tEdge]).length ≤ lim by decide), (show tEdge.size ≤ lim by decide)⟩
theorem new_tame {L : List Int} {E : List (Int × Int)} (hno : ∀ F, Gh.newR L E ≠ .ok F) {w w' : World} {e : Ending} (h : NewRes L E w e w') :
    Below w.heap.size w w' ∧ ∃ (Er : Err) (T : TypeId) (x : Value), e = .returned (.tuple #[.pointer none, .iface T x]) ∧ Er.At w' (.iface T x) ∧ Tame Er := by
  obtain ⟨hb, h⟩ := h
  refine ⟨hb, ?_⟩
  cases hr : Gh.newR L E with
  | ok F => exact absurd hr (hno F)
  | big =>
    rw [hr] at h
    obtain ⟨v, h1, h2⟩ := h
    obtain ⟨T, x, rfl⟩ := Err.At.iface_ h2 (fun e => by cases e)
    exact ⟨_, T, x, h1, h2, tame_flt (by decide)⟩
  | lab i =>
    rw [hr] at h
    obtain ⟨v, h1, h2⟩ := h
    obtain ⟨T, x, rfl⟩ := Err.At.iface_ h2 (fun e => by cases e)
    exact ⟨_, T, x, h1, h2, tame_flt (by decide)⟩
  | edge c i =>
    rw [hr] at h
    obtain ⟨v, h1, h2⟩ := h
    obtain ⟨T, x, rfl⟩ := Err.At.iface_ h2 (fun e => by cases e)
    exact ⟨_, T, x, h1, h2, tame_edge⟩
set_option maxHeartbeats 8000000 in
theorem Bytes_l5 (l : List Int) (A : Option Addr) (n c : Nat) (w : World) (hn : n ≤ 1000000) (hnc : n ≤ c) (hc9 : c ≤ 9223372036854775807) (hl : l.length = n) (hb : Bys l) (hs : Sl w 1 A n (l.map (Value.int .u8))) :
    Calls Tryz.prog 17 #[.slice A n c] w (BytRes l w) := by
  have hU := Unp_any l A n c w hn hnc hc9 hl hb hs
  clear hb hs
  by_cases hB : ∃ L E, BytOK l L E
  · obtain ⟨L, E, hLE⟩ := hB
    have HUn := Lib.hid (show Calls Tryz.prog 38 #[.slice A n c] w fun e w' => ∃ (A' : Option Addr) (n' c' : Nat) (B' : Option Addr) (m' d' : Nat), e = .returned (.tuple #[.slice A' n' c', .slice B' m' d', .nilIface]) ∧ L.length = n' ∧ Sl w' 1 A' n' (L.map (Value.int .i64)) ∧ Sl w' 2 B' m' (Rk.cells E) ∧ Below w.heap.size w w' from hU.mono fun e w' ⟨h1, h2⟩ => by
      rcases h2 with ⟨A', n', c', B', m', d', L', E', k1, k2, k3, k4, k5⟩ | ⟨h, _⟩
      · obtain ⟨rfl, rfl⟩ := byt_uniq k2 hLE
        exact ⟨A', n', c', B', m', d', k1, k3, k4, k5, h1⟩
      · exact absurd hLE (h _ _))
    have HLE := Lib.hid hLE
    obtain ⟨_, hL9, hE9, hLf, hEf⟩ := hLE
    have HI := Lib.hid (show ∀ e ∈ E, i64e e.1 ∧ i64e e.2 from fun e he => by
      have h := hEf e he
      unfold fits at h
      unfold i64e
      omega)
    clear hU hLf hEf
    by_cases hN : ∃ F, Gh.newR L E = .ok F
    · obtain ⟨F, hF⟩ := hN
      have HF := Lib.hid hF
      clear hF
      go_enter Tryz.func17, Tryz.ntmps17
      go_upto_region 4 with (go_at_call 38; refine HUn.out.mono ?_; clear HUn; rintro e w1 ⟨A', n', c', B', m', d', rfl, hn', hs1, ht1, hb1⟩; have HB1 := Lib.hid hb1; have HNw := Lib.hid (GNew_any L E A' B' n' c' m' d' w1 hn' (by omega) (by have := ht1.len2; omega) hs1 ht1 HI.out); clear hn' hs1 ht1 hb1)
      have HN2 := Lib.hid (show Calls Tryz.prog 27 #[.slice A' n' c', .slice B' m' d'] w1 fun e w' => ∃ g, e = .returned (.tuple #[.pointer (some ⟨g, 0, none⟩), .nilIface]) ∧ GraphAt w' g L (Gh.sortG F) ∧ Below w1.heap.size w1 w' from HNw.out.mono fun e w' h => by
        obtain ⟨h1, h2⟩ := h
        rw [HF.out] at h2
        obtain ⟨g, k1, k2⟩ := h2
        exact ⟨g, k1, k2, h1⟩)
      clear HNw
      go_wp2_with (go_at_call 27; refine HN2.out.mono ?_; clear HN2; rintro e w2 ⟨g, rfl, hg, hb2⟩; have HG2 := Lib.hid hg; have HB2 := Lib.hid hb2; clear hg hb2)
      go_ret2
      exact ⟨HB1.out.andThen HB2.out, .inl ⟨L, F, g, ⟨E, HLE.out, HF.out⟩, rfl, HG2.out⟩⟩
    · have HNo := Lib.hid (show ∀ L F, ¬ BytG l L F from fun L' F ⟨E', h1, h2⟩ => by
        obtain ⟨rfl, rfl⟩ := byt_uniq h1 HLE.out
        exact hN ⟨F, h2⟩)
      have HNf := Lib.hid (show ∀ F, Gh.newR L E ≠ .ok F from fun F h => hN ⟨F, h⟩)
      clear hN
      go_enter Tryz.func17, Tryz.ntmps17
      go_upto_region 4 with (go_at_call 38; refine HUn.out.mono ?_; clear HUn; rintro e w1 ⟨A', n', c', B', m', d', rfl, hn', hs1, ht1, hb1⟩; have HB1 := Lib.hid hb1; have HNw := Lib.hid (GNew_any L E A' B' n' c' m' d' w1 hn' (by omega) (by have := ht1.len2; omega) hs1 ht1 HI.out); clear hn' hs1 ht1 hb1)
      go_upto_region 6 with (go_at_call 27; refine (HNw.out.mono fun e w' h => new_tame HNf.out h).mono ?_; clear HNw; rintro e w2 ⟨hb2, Er, T, x, rfl, hv, hT⟩; have HV2 := Lib.hid hv; have HT2 := Lib.hid hT; have HB2 := Lib.hid (HB1.out.andThen hb2); clear hv hT hb2)
      have HTx := Lib.hid (Text_any Er _ w2 HV2.out HT2.out.1 HT2.out.2.1 HT2.out.2.2.1 HT2.out.2.2.2)
      go_wp2_with (first
        | (go_at_call 40; refine HTx.out.mono ?_; clear HTx; rintro e w3 ⟨rfl, hb3⟩; have HB3 := Lib.hid (HB2.out.andThen hb3); clear hb3)
        | (go_at_call 32; refine (wrong5_any _ _ _).mono ?_; rintro e w4 ⟨v4, rfl, hv4, hb4⟩; have HB4 := Lib.hid (HB3.out.andThen hb4); have HIn := Lib.hid (In_any tBytes5 _ _ w4 hv4); clear hv4 hb4)
        | (go_at_call 39; refine HIn.out.mono ?_; clear HIn; rintro e w5 ⟨v5, rfl, hv5, hb5⟩; have HB5 := Lib.hid (HB4.out.andThen hb5); have HV5 := Lib.hid hv5; clear hv5 hb5))
      go_ret2
      exact ⟨HB5.out, .inr ⟨HNo.out, _, _, rfl, by have h := HV5.out; rwa [Err.in_of (by exact fun h => by cases h)] at h⟩⟩
  · have HNo := Lib.hid (show ∀ L F, ¬ BytG l L F from fun L' F ⟨E', h1, h2⟩ => hB ⟨_, _, h1⟩)
    have HUn := Lib.hid (show Calls Tryz.prog 38 #[.slice A n c] w fun e w' => ∃ (c a : Int) (s : ByteArray) (T : TypeId) (x : Value), e = .returned (.tuple #[.slice none 0 0, .slice none 0 0, .iface T x]) ∧ (Err.flt c a s).At w' (.iface T x) ∧ s.size ≤ 100 ∧ Below w.heap.size w w' from hU.mono fun e w' ⟨h1, h2⟩ => by
      rcases h2 with ⟨A', n', c', B', m', d', L', E', k1, k2, _⟩ | ⟨_, c, a, s, T, x, k1, k2, k3⟩
      · exact absurd ⟨_, _, k2⟩ hB
      · exact ⟨c, a, s, T, x, k1, k2, k3, h1⟩)
    clear hU hB
    go_enter Tryz.func17, Tryz.ntmps17
    go_upto_region 3 with (go_at_call 38; refine HUn.out.mono ?_; clear HUn; rintro e w2 ⟨c2, a2, s2, T, x, rfl, hv, hs, hb2⟩; have HV2 := Lib.hid hv; have HT2 := Lib.hid (tame_flt (c := c2) (a := a2) hs); have HB2 := Lib.hid hb2; clear hv hs hb2)
    have HTx := Lib.hid (Text_any _ _ w2 HV2.out HT2.out.1 HT2.out.2.1 HT2.out.2.2.1 HT2.out.2.2.2)
    go_wp2_with (first
      | (go_at_call 40; refine HTx.out.mono ?_; clear HTx; rintro e w3 ⟨rfl, hb3⟩; have HB3 := Lib.hid (HB2.out.andThen hb3); clear hb3)
      | (go_at_call 32; refine (wrong5_any _ _ _).mono ?_; rintro e w4 ⟨v4, rfl, hv4, hb4⟩; have HB4 := Lib.hid (HB3.out.andThen hb4); have HIn := Lib.hid (In_any tBytes5 _ _ w4 hv4); clear hv4 hb4)
      | (go_at_call 39; refine HIn.out.mono ?_; clear HIn; rintro e w5 ⟨v5, rfl, hv5, hb5⟩; have HB5 := Lib.hid (HB4.out.andThen hb5); have HV5 := Lib.hid hv5; clear hv5 hb5))
    go_ret2
    exact ⟨HB5.out, .inr ⟨HNo.out, _, _, rfl, by have h := HV5.out; rwa [Err.in_of (by exact fun h => by cases h)] at h⟩⟩
end Go.Proofs.YtbbmgcdocolakaaGreatDoor
/-
  load.Any of any bytes.
-/
namespace Go.Proofs.YtbbmgcdocolakaaGreatDoor
open Go.RowKit Go.Proofs.YtbbmgcdocolakaaGreatDoor.Pg
attribute [local go_sem ↓] Go.wp_at_zero Go.wp_at_succ
set_option maxRecDepth 100000
set_option linter.unusedVariables false

theorem HasP_short (S : ByteArray) (w : World) (h : S.size < 4) : Calls Tryz.prog 74 #[.string S, .string ⟨#[70, 87, 82, 75]⟩] w fun e w' => e = .returned (.bool false) ∧ w = w' := by
  have h1 : ¬ (4 : Int) ≤ (S.size : Int) := by omega
  go_enter Tryz.func74, Tryz.ntmps74
  go_wp2_with fail
  go_ret
  exact ⟨rfl, rfl⟩
theorem HasP_long (S : ByteArray) (w : World) (h : 4 ≤ S.size) : Calls Tryz.prog 74 #[.string S, .string ⟨#[70, 87, 82, 75]⟩] w fun e w' => e = .returned (.bool (decide (S.data.toList.take 4 = [70, 87, 82, 75]))) ∧ w = w' := by
  have h1 : (4 : Int) ≤ (S.size : Int) := by omega
  go_enter Tryz.func74, Tryz.ntmps74
  go_wp2_with fail
  go_ret
  refine ⟨?_, rfl⟩
  have he : ((S.extract 0 4).toList == [70, 87, 82, 75]) = decide (S.data.toList.take 4 = [70, 87, 82, 75]) := by
    rw [Lib.toList_data, ByteArray.data_extract, Array.toList_extract]
    simp [List.extract, Bool.beq_eq_decide_eq]
  exact ret_eq (congrArg Value.bool he)
theorem HasP_any (S : ByteArray) (w : World) : Calls Tryz.prog 41 #[.string S, .string ⟨#[70, 87, 82, 75]⟩] w fun e w' => e = .returned (.bool (decide (4 ≤ S.size ∧ S.data.toList.take 4 = [70, 87, 82, 75]))) ∧ w = w' := by
  have HP := Lib.hid (show Calls Tryz.prog 74 #[.string S, .string ⟨#[70, 87, 82, 75]⟩] w fun e w' => e = .returned (.bool (decide (4 ≤ S.size ∧ S.data.toList.take 4 = [70, 87, 82, 75]))) ∧ w = w' from by
    by_cases h : 4 ≤ S.size
    · refine (HasP_long S w h).mono fun e w' ⟨h1, h2⟩ => ⟨?_, h2⟩
      rw [h1]
      simp [h]
    · refine (HasP_short S w (by omega)).mono fun e w' ⟨h1, h2⟩ => ⟨?_, h2⟩
      rw [h1]
      simp [h])
  generalize hb : decide (4 ≤ S.size ∧ S.data.toList.take 4 = [70, 87, 82, 75]) = b at HP ⊢
  clear hb
  go_enter Tryz.func41, Tryz.ntmps41
  go_wp2_with (go_at_call 74; refine HP.out.mono ?_; clear HP; rintro e w1 ⟨rfl, rfl⟩)
  go_ret
  exact ⟨rfl, rfl⟩
theorem conv_l5 (w : World) (A : Option Addr) (n c : Nat) (l : List Int) (hl : l.length = n) (hs : Sl w 1 A n (l.map (Value.int .u8))) : (convert 42 9 (.slice A n c)).run Tryz.prog w = .ok (.string (strOfNums l)) w := by
  by_cases h0 : n = 0
  · subst h0
    obtain rfl := List.length_eq_zero_iff.1 hl
    cases A with
    | none => exact run_convert_bytes_nil (P := Tryz.prog) w 42 5 Tryz.underlying42 Tryz.underlying5 0 c 9 Tryz.underlying9
    | some a =>
      rw [run_convert_bytes_string w _ _ 5 _ 0 c Tryz.underlying42 Tryz.underlying5 Tryz.underlying9]
      simp [Conv.bytesToString, loadCells, loadCellsFrom]
      rfl
  · obtain ⟨g, off, rfl, hc⟩ := hs.2 (by omega)
    exact run_convert_bytes_arg (P := Tryz.prog) w 42 5 Tryz.underlying42 Tryz.underlying5 g off n c l hl (fun i hi => hc i _ (by
      rw [List.getElem?_map, List.getD_eq_getElem?_getD, List.getElem?_eq_getElem (by omega)]; rfl)) 9 Tryz.underlying9
/-- The bytes as a text. -/
def txtL (l : List Int) : List UInt8 := l.map fun n => UInt8.ofNat n.toNat
theorem strOf_txt (l : List Int) : strOfNums l = bz (txtL l) := rfl
theorem mark_l5 {l : List Int} (hb : Bys l) : (decide (4 ≤ (strOfNums l).size ∧ (strOfNums l).data.toList.take 4 = [70, 87, 82, 75])) = decide (l.take 4 = fwrk) := by
  rw [strOfNums_size]
  by_cases h4 : 4 ≤ l.length
  · have h := mark_test hb h4
    rw [Lib.toList_data] at h
    rw [← h, strOfNums_data, strOfNums_data, ← List.map_take]
    simp [h4, Bool.beq_eq_decide_eq]
  · rw [decide_eq_false (fun h => h4 h.1)]
    symm
    refine decide_eq_false fun h => h4 ?_
    have := congrArg List.length h
    rw [List.length_take] at this
    have h2 : fwrk.length = 4 := rfl
    omega
set_option maxHeartbeats 4000000 in
theorem Any_mark (l : List Int) (A : Option Addr) (n c : Nat) (w : World) (hn : n ≤ 1000000) (hnc : n ≤ c) (hc9 : c ≤ 9223372036854775807) (hl : l.length = n) (hb : Bys l) (hs : Sl w 1 A n (l.map (Value.int .u8))) (hm : l.take 4 = fwrk) :
    Calls Tryz.prog 18 #[.slice A n c] w (BytRes l w) := by
  have HC := conv_l5 w A n c l hl hs
  have HH := Lib.hid (show Calls Tryz.prog 41 #[.string (strOfNums l), .string ⟨#[70, 87, 82, 75]⟩] w fun e w' => e = .returned (.bool true) ∧ w = w' from by
    have h := HasP_any (strOfNums l) w
    rwa [mark_l5 hb, decide_eq_true hm] at h)
  have HBy := Bytes_l5 l A n c w hn hnc hc9 hl hb hs
  by_cases hG : ∃ L F, BytG l L F
  · obtain ⟨L, F, hF⟩ := hG
    have HY := Lib.hid (show Calls Tryz.prog 17 #[.slice A n c] w fun e w' => ∃ (L : List Int) (F : List (Int × Int)) (g : Nat), e = .returned (.tuple #[.pointer (some ⟨g, 0, none⟩), .nilIface]) ∧ BytG l L F ∧ GraphAt w' g L (Gh.sortG F) ∧ Below w.heap.size w w' from HBy.mono fun e w' ⟨h1, h2⟩ => by
      rcases h2 with ⟨L, F, g, k1, k2, k3⟩ | ⟨h, _⟩
      · exact ⟨L, F, g, k2, k1, k3, h1⟩
      · exact absurd hF (h _ _))
    clear HBy hs hb hF hl hm
    generalize strOfNums l = S at HC HH
    go_enter Tryz.func18, Tryz.ntmps18
    go_wp2_with (first
      | (go_at_call 41; refine HH.out.mono ?_; clear HH; rintro e w1 ⟨rfl, rfl⟩)
      | (go_at_call 17; refine HY.out.mono ?_; clear HY; rintro e w1 ⟨L, F, g, rfl, hf, hg, hb1⟩; have HF := Lib.hid hf; have HG := Lib.hid hg; have HB1 := Lib.hid hb1; clear hf hg hb1))
    go_ret2
    exact ⟨HB1.out, .inl ⟨_, _, _, HF.out, rfl, HG.out⟩⟩
  · have HNo := Lib.hid (show ∀ L F, ¬ BytG l L F from fun L F h => hG ⟨_, _, h⟩)
    have HY := Lib.hid (show Calls Tryz.prog 17 #[.slice A n c] w fun e w' => ∃ (s : ByteArray) (v : Value), e = .returned (.tuple #[.pointer none, v]) ∧ (Err.step tBytes5 (.flt 11 0 s)).At w' v ∧ Below w.heap.size w w' from HBy.mono fun e w' ⟨h1, h2⟩ => by
      rcases h2 with ⟨L, F, g, k1, k2, k3⟩ | ⟨_, s, v, k1, k2⟩
      · exact absurd k1 (HNo.out _ _)
      · exact ⟨s, v, k1, k2, h1⟩)
    clear HBy hs hb hl hm hG
    generalize strOfNums l = S at HC HH
    go_enter Tryz.func18, Tryz.ntmps18
    go_wp2_with (first
      | (go_at_call 41; refine HH.out.mono ?_; clear HH; rintro e w1 ⟨rfl, rfl⟩)
      | (go_at_call 17; refine HY.out.mono ?_; clear HY; rintro e w1 ⟨s, v, rfl, hv, hb1⟩; have HV := Lib.hid hv; have HB1 := Lib.hid hb1; clear hv hb1))
    go_ret2
    exact ⟨HB1.out, .inr ⟨HNo.out, _, _, rfl, HV.out⟩⟩
set_option maxHeartbeats 4000000 in
theorem Any_text (l : List Int) (A : Option Addr) (n c : Nat) (w : World) (hn : n ≤ 200000) (hl : l.length = n) (hb : Bys l) (hs : Sl w 1 A n (l.map (Value.int .u8))) (hm : l.take 4 ≠ fwrk) (hg : ErrT w) (hL : LibW w) :
    Calls Tryz.prog 18 #[.slice A n c] w fun e w' => ∃ p v, e = .returned (.tuple #[p, v]) ∧ Below w.heap.size w w' := by
  have HC := conv_l5 w A n c l hl hs
  have HH := Lib.hid (show Calls Tryz.prog 41 #[.string (strOfNums l), .string ⟨#[70, 87, 82, 75]⟩] w fun e w' => e = .returned (.bool false) ∧ w = w' from by
    have h := HasP_any (strOfNums l) w
    rwa [mark_l5 hb, decide_eq_false hm] at h)
  have HT := Lib.hid (show Calls Tryz.prog 10 #[.string (strOfNums l)] w fun e w' => ∃ p v, e = .returned (.tuple #[p, v]) ∧ Below w.heap.size w w' from
    (LText_any (txtL l) (strOfNums l) w rfl (by unfold txtL; rw [List.length_map, hl]; exact hn) hg hL).mono fun e w' ⟨h1, h2⟩ => by
      split at h2
      · obtain ⟨v, h, _⟩ := h2
        exact ⟨_, _, h, h1⟩
      · rcases h2 with ⟨F, g, _, h, _⟩ | ⟨_, v, h, _⟩
        · exact ⟨_, _, h, h1⟩
        · exact ⟨_, _, h, h1⟩)
  clear hs hb hl hm hg hL
  generalize strOfNums l = S at HC HH HT
  go_enter Tryz.func18, Tryz.ntmps18
  go_wp2_with (first
    | (go_at_call 41; refine HH.out.mono ?_; clear HH; rintro e w1 ⟨rfl, rfl⟩)
    | (go_at_call 10; refine HT.out.mono ?_; clear HT; rintro e w1 ⟨p, v, rfl, hb1⟩; have HB1 := Lib.hid hb1; clear hb1))
  go_ret2
  exact ⟨_, _, rfl, HB1.out⟩
end Go.Proofs.YtbbmgcdocolakaaGreatDoor
/-
  Graphs that are right: their bytes, and what Bytes, Any and Pack say of them, each in one shape.
-/
namespace Go.Proofs.YtbbmgcdocolakaaGreatDoor
open Go.RowKit Go.Proofs.YtbbmgcdocolakaaGreatDoor.Pg
set_option maxRecDepth 100000
set_option linter.unusedVariables false

/-- A graph's labels and edges, in order. -/
structure GrOK (L : List Int) (F : List (Int × Int)) : Prop where
  l9 : L.length ≤ 4096
  f9 : F.length ≤ 16384
  lab : Gh.labsOK L
  has : Gh.Has L.length F
  rise : Pt.Rise F
theorem GrOK.of_new {L : List Int} {E F : List (Int × Int)} (h : Gh.newR L E = .ok F) : GrOK L (Gh.sortG F) ∧ (Gh.sortG F).length = E.length := by
  obtain ⟨h1, h2, h3, h4, h5⟩ := Gh.new_ok h
  have hp := Gh.sort_perm h4.nd
  have hl : (Gh.sortG F).length = E.length := by rw [hp.length_eq, h5, List.length_map]
  exact ⟨⟨h1, by rw [hl]; exact h2, h3, h4.perm hp, Gh.sort_rise h4.nd⟩, hl⟩
theorem bytG_uniq {l L L' : List Int} {F F' : List (Int × Int)} (h : BytG l L F) (h' : BytG l L' F') : L = L' ∧ F = F' := by
  obtain ⟨E, h1, h2⟩ := h
  obtain ⟨E', h1', h2'⟩ := h'
  obtain ⟨rfl, rfl⟩ := byt_uniq h1 h1'
  rw [h2] at h2'
  injection h2' with h2'
  exact ⟨rfl, h2'⟩
theorem BytG.grOK {l L : List Int} {F : List (Int × Int)} (h : BytG l L F) : GrOK L (Gh.sortG F) ∧ l.length = 21 + 4 * L.length + 8 * (Gh.sortG F).length := by
  obtain ⟨E, h1, h2⟩ := h
  obtain ⟨h3, h4⟩ := GrOK.of_new h2
  exact ⟨h3, by rw [h4, ← h1.1, packG_len]⟩
section
variable {L : List Int} {F : List (Int × Int)}
theorem GrOK.fitL (h : GrOK L F) : ∀ x ∈ L, fits x := fun x hx => by
  have := h.lab x hx
  unfold fits
  omega
theorem GrOK.fitE (h : GrOK L F) : ∀ e ∈ F, fits e.1 ∧ fits e.2 := fun e he => by
  have h1 := h.has.ok e he
  have h2 := h.l9
  unfold Pt.EdgeOK at h1
  unfold fits
  omega
theorem GrOK.bytOK (h : GrOK L F) : BytOK (packG L F) L F := ⟨rfl, h.l9, h.f9, h.fitL, h.fitE⟩
theorem GrOK.byt (h : GrOK L F) : BytG (packG L F) L F := ⟨F, h.bytOK, Gh.new_same h.l9 h.f9 h.lab h.has⟩
theorem GrOK.sort (h : GrOK L F) : Gh.sortG F = F := Gh.sort_same h.has h.rise
end
theorem GPack_ok {w : World} {g n : Nat} {L : List Int} {F : List (Int × Int)} (h : GrOK L F) (hG : GraphAt w g L F) (hn : n = 21 + 4 * L.length + 8 * F.length) :
    Calls Tryz.prog 19 #[.pointer (some ⟨g, 0, none⟩)] w fun e w' => ∃ C k, e = .returned (.slice C n k) ∧ Sl w' 1 C n ((packG L F).map (Value.int .u8)) ∧ (n ≤ k ∧ k ≤ 9223372036854775807) ∧ Below w.heap.size w w' := by
  have h1 : n = (bytesP L F).length + 13 := by rw [hn, bytesP_len5]; omega
  rw [h1]
  exact GPack_any hG h.l9 h.f9 h.fitL h.fitE bytesP_bys5
/-- What Bytes says of a graph's bytes, as Any does. -/
def OkRes (L : List Int) (F : List (Int × Int)) (w : World) (e : Ending) (w' : World) : Prop :=
  ∃ g, e = .returned (.tuple #[.pointer (some ⟨g, 0, none⟩), .nilIface]) ∧ GraphAt w' g L F ∧ Below w.heap.size w w'
def NoRes (w : World) (e : Ending) (w' : World) : Prop :=
  ∃ (s : ByteArray) (T : TypeId) (x : Value), e = .returned (.tuple #[.pointer none, .iface T x]) ∧ (Err.step tBytes5 (.flt 11 0 s)).At w' (.iface T x) ∧ Below w.heap.size w w'
theorem BytRes.ok {l L : List Int} {F : List (Int × Int)} {w w' : World} {e : Ending} (h : BytRes l w e w') (hG : BytG l L F) : OkRes L (Gh.sortG F) w e w' := by
  obtain ⟨hb, h⟩ := h
  rcases h with ⟨L', F', g, h1, h2, h3⟩ | ⟨h, _⟩
  · obtain ⟨rfl, rfl⟩ := bytG_uniq h1 hG
    exact ⟨g, h2, h3, hb⟩
  · exact absurd hG (h _ _)
theorem BytRes.no {l : List Int} {w w' : World} {e : Ending} (h : BytRes l w e w') (hG : ∀ L F, ¬ BytG l L F) : NoRes w e w' := by
  obtain ⟨hb, h⟩ := h
  rcases h with ⟨L', F', g, h1, h2, h3⟩ | ⟨_, s, v, h1, h2⟩
  · exact absurd h1 (hG _ _)
  · obtain ⟨T, x, rfl⟩ := Err.At.iface_ h2 (fun e => by cases e)
    exact ⟨s, T, x, h1, h2, hb⟩
section
variable (l : List Int) (A : Option Addr) (n c : Nat) (w : World) (hn : n ≤ 100000) (hc : n ≤ c ∧ c ≤ 9223372036854775807) (hl : l.length = n) (hb : Bys l) (hs : Sl w 1 A n (l.map (Value.int .u8)))
include hn hc hl hb hs
theorem Bytes_ok {L : List Int} {F : List (Int × Int)} (hG : BytG l L F) : Calls Tryz.prog 17 #[.slice A n c] w (OkRes L (Gh.sortG F) w) :=
  (Bytes_l5 l A n c w (by omega) hc.1 hc.2 hl hb hs).mono fun e w' h => h.ok hG
theorem Bytes_no (hG : ∀ L F, ¬ BytG l L F) : Calls Tryz.prog 17 #[.slice A n c] w (NoRes w) :=
  (Bytes_l5 l A n c w (by omega) hc.1 hc.2 hl hb hs).mono fun e w' h => h.no hG
theorem Any_ok {L : List Int} {F : List (Int × Int)} (hG : BytG l L F) : Calls Tryz.prog 18 #[.slice A n c] w (OkRes L (Gh.sortG F) w) :=
  (Any_mark l A n c w (by omega) hc.1 hc.2 hl hb hs (by obtain ⟨E, h, _⟩ := hG; rw [← h.1]; exact packG_mark _ _)).mono fun e w' h => h.ok hG
theorem Any_no (hm : l.take 4 = fwrk) (hG : ∀ L F, ¬ BytG l L F) : Calls Tryz.prog 18 #[.slice A n c] w (NoRes w) :=
  (Any_mark l A n c w (by omega) hc.1 hc.2 hl hb hs hm).mono fun e w' h => h.no hG
end
end Go.Proofs.YtbbmgcdocolakaaGreatDoor
/-
  Chapter 5's example, and what is alive.
-/
namespace Go.Proofs.YtbbmgcdocolakaaGreatDoor
open Go.RowKit Go.Proofs.YtbbmgcdocolakaaGreatDoor.Pg
attribute [local go_sem ↓] Go.wp_at_zero Go.wp_at_succ
set_option maxRecDepth 100000
set_option linter.unusedVariables false

def exT5 : List UInt8 := [118, 32, 48, 32, 53, 10, 118, 32, 49, 32, 53, 10, 101, 32, 48, 32, 49, 10]
def exB5 : List UInt8 := [118, 32, 48, 32, 53, 10, 118, 32, 49, 32, 53]
theorem ex_ok5 : Ld.textL exT5 = .ok [5, 5] [(0, 1)] := by rfl
theorem ex_bad5 : Ld.textL exB5 = .bad 1 := by rfl
theorem ex_new5 : Gh.newR [5, 5] [(0, 1)] = .ok [(0, 1)] := by rfl
theorem Text_x5 (w : World) (hg : ErrT w) (hL : LibW w) : Calls Tryz.prog 10 #[.string ⟨#[118, 32, 48, 32, 53, 10, 118, 32, 49, 32, 53, 10, 101, 32, 48, 32, 49, 10]⟩] w fun e w' => ∃ g, e = .returned (.tuple #[.pointer (some ⟨g, 0, none⟩), .nilIface]) ∧ GraphAt w' g [5, 5] [(0, 1)] ∧ Below w.heap.size w w' :=
  (LText_any exT5 _ w rfl (by decide) hg hL).mono fun e w' h => by
    have h2 := h.2
    rw [ex_ok5] at h2
    rcases h2 with ⟨F, g, h3, h4, h5⟩ | ⟨h3, _⟩
    · rw [ex_new5] at h3
      injection h3 with h3
      subst h3
      exact ⟨g, h4, h5, h.1⟩
    · exact absurd ex_new5 (h3 _)
theorem Text_y5 (w : World) (hg : ErrT w) (hL : LibW w) : Calls Tryz.prog 10 #[.string ⟨#[118, 32, 48, 32, 53, 10, 118, 32, 49, 32, 53]⟩] w fun e w' => ∃ v, e = .returned (.tuple #[.pointer none, v]) ∧ (Err.flt 11 1 tLine).At w' v ∧ Below w.heap.size w w' :=
  (LText_any exB5 _ w rfl (by decide) hg hL).mono fun e w' h => by
    have h2 := h.2
    rw [ex_bad5] at h2
    obtain ⟨v, h3, h4⟩ := h2
    exact ⟨v, h3, h4, h.1⟩
theorem alive05 (w : World) (hg : ErrT w) (hL : LibW w) : Calls Tryz.prog 7 #[] w fun e w' => e = .returned (.bool true) ∧ Below w.heap.size w w' := by
  have HX := Lib.hid (Text_x5 w hg hL)
  have HY := Lib.hid (fun W (hW : Below w.heap.size w W) => Text_y5 W (hg.keep hW) (hL.keep hW))
  have HG := Lib.hid hg
  clear hg hL
  go_enter Tryz.func7, Tryz.ntmps7
  go_upto_region 2 with (go_at_call 10; refine HX.out.mono ?_; clear HX; rintro e w1 ⟨g, rfl, hgr, hb1⟩; have HGr := Lib.hid hgr; have HB1 := Lib.hid hb1; clear hgr hb1)
  go_upto_region 3 with (go_at_call 10; refine (HY.out w1 HB1.out).mono ?_; clear HY; rintro e w2 ⟨v2, rfl, hv2, hb2⟩; have HV2 := Lib.hid hv2; have HG2 := Lib.hid (HGr.out.keep hb2); have HB2 := Lib.hid (HB1.out.andThen hb2); obtain ⟨q, rfl, hq⟩ := hv2; have HQ := Lib.hid hq; clear hq hb2)
  have HLn := Lib.hid (GLen_any HG2.out)
  have HSz := Lib.hid (GSize_any HG2.out)
  have HCd := Lib.hid (Code_flt q 11 1 tLine w2 (HG.out.keep HB2.out) HQ.out)
  have HAt := Lib.hid (fun W (hW : Below w2.heap.size w2 W) => At_flt q 11 1 tLine W (HG.out.keep (HB2.out.andThen hW)) (HQ.out.keep hW))
  rw [show (([5, 5] : List Int).length) = 2 from rfl] at HLn
  rw [show (([(0, 1)] : List (Int × Int)).length) = 1 from rfl] at HSz
  go_wp2_with (first
    | (go_at_call 12; refine HLn.out.mono ?_; clear HLn; rintro e w' ⟨rfl, rfl⟩)
    | (go_at_call 13; refine HSz.out.mono ?_; clear HSz; rintro e w' ⟨rfl, rfl⟩)
    | (go_at_call 15; refine HCd.out.mono ?_; clear HCd; rintro e w3 ⟨rfl, hb3⟩; have HB3 := Lib.hid hb3; clear hb3)
    | (go_at_call 16; refine (HAt.out _ HB3.out).mono ?_; clear HAt; rintro e w4 ⟨rfl, hb4⟩; have HB4 := Lib.hid (HB2.out.andThen (HB3.out.andThen hb4)); clear hb4))
  go_ret
  exact ⟨rfl, HB4.out⟩
end Go.Proofs.YtbbmgcdocolakaaGreatDoor
/-
  LoadBytes.
-/
namespace Go.Proofs.YtbbmgcdocolakaaGreatDoor
open Go.RowKit Go.Proofs.YtbbmgcdocolakaaGreatDoor.Pg
attribute [local go_sem ↓] Go.wp_at_zero Go.wp_at_succ
set_option maxRecDepth 100000
set_option linter.unusedVariables false

set_option maxHeartbeats 16000000 in
theorem LoadBytes_walk (l : List Int) (A : Option Addr) (n c : Nat) (w : World) (hg : ErrT w) (hL : LibW w) (hl : l.length = n) (hb : Bys l) (hs : Sl w 1 A n (l.map (Value.int .u8))) (hc : n ≤ c ∧ c ≤ 9223372036854775807) :
    Calls Tryz.prog 4 #[.slice A n c] w fun e w' => e = .returned (.bool true) ∧ Below w.heap.size w w' := by
  have HG := Lib.hid hg
  have HLw := Lib.hid hL
  have HL := Lib.hid hl
  have HBt := Lib.hid hb
  have HS := Lib.hid hs
  have HC := Lib.hid hc
  have HAl := Lib.hid (alive05 w hg hL)
  clear hg hL hl hb hs hc
  by_cases h6 : 600 < n
  · have h6' : (600 : Int) < (n : Int) := by omega
    go_enter Tryz.func4, Tryz.ntmps4
    go_wp2_with (go_at_call 7; refine HAl.out.mono ?_; clear HAl; rintro e w1 ⟨rfl, hb1⟩; have HB1 := Lib.hid hb1; clear hb1)
    go_ret
    exact ⟨rfl, HB1.out⟩
  have h6' : ¬ (600 : Int) < (n : Int) := by omega
  by_cases hG : ∃ L F, BytG l L F
  · obtain ⟨L, F, hF⟩ := hG
    have HF := Lib.hid hF
    have HOK := Lib.hid hF.grOK.1
    have HN := Lib.hid (show n = 21 + 4 * L.length + 8 * (Gh.sortG F).length from by rw [← HL.out]; exact hF.grOK.2)
    have HPl := Lib.hid (show (packG L (Gh.sortG F)).length = n from by rw [packG_len]; exact HN.out.symm)
    have HSr := Lib.hid HOK.out.sort
    clear hF
    go_enter Tryz.func4, Tryz.ntmps4
    go_wp2_with (first
      | (go_at_call 7; refine HAl.out.mono ?_; clear HAl; rintro e w1 ⟨rfl, hb1⟩; have HB1 := Lib.hid hb1; have HBy := Lib.hid (Bytes_ok l A n c w1 (by omega) HC.out HL.out HBt.out (HS.out.keep hb1) HF.out); clear hb1)
      | (go_at_call 17; refine HBy.out.mono ?_; clear HBy; rintro e w2 ⟨g, rfl, hg2, hb2⟩; have HG2 := Lib.hid hg2; have HB2 := Lib.hid (HB1.out.andThen hb2); have HPk := Lib.hid (GPack_ok HOK.out hg2 HN.out); clear hg2 hb2)
      | (go_at_call 19; refine HPk.out.mono ?_; clear HPk; rintro e w3 ⟨C3, k3, rfl, hs3, hk3, hb3⟩; have HG3 := Lib.hid (HG2.out.keep hb3); have HB3 := Lib.hid (HB2.out.andThen hb3); have HBy3 := Lib.hid (Bytes_ok _ C3 n k3 w3 (by omega) hk3 HPl.out (packG_bys _ _) hs3 HOK.out.byt); clear hs3 hk3 hb3)
      | (go_at_call 17; refine HBy3.out.mono ?_; clear HBy3; rintro e w4 ⟨h, rfl, hh, hb4⟩; have HH := Lib.hid (show GraphAt w4 h L (Gh.sortG F) from by have h := hh; rwa [HSr.out] at h); have HG4 := Lib.hid (HG3.out.keep hb4); have HB4 := Lib.hid (HB3.out.andThen hb4); have HAn := Lib.hid (Any_ok l A n c w4 (by omega) HC.out HL.out HBt.out (HS.out.keep (HB3.out.andThen hb4)) HF.out); clear hh hb4)
      | (go_at_call 18; refine HAn.out.mono ?_; clear HAn; rintro e w5 ⟨i, rfl, hi, hb5⟩; have HI := Lib.hid hi; have HG5 := Lib.hid (HG4.out.keep hb5); have HB5 := Lib.hid (HB4.out.andThen hb5); have HSm := Lib.hid (GSame_same (HH.out.keep hb5) (HG4.out.keep hb5) HOK.out.l9 HOK.out.f9); clear hi hb5)
      | (go_at_call 11; refine HSm.out.mono ?_; clear HSm; rintro e w6 ⟨rfl, hb6⟩; have HB6 := Lib.hid (HB5.out.andThen hb6); have HG6 := Lib.hid (HG5.out.keep hb6); have HSm6 := Lib.hid (GSame_same (HI.out.keep hb6) (HG5.out.keep hb6) HOK.out.l9 HOK.out.f9); clear hb6)
      | (go_at_call 11; refine HSm6.out.mono ?_; clear HSm6; rintro e w7 ⟨rfl, hb7⟩; have HB7 := Lib.hid (HB6.out.andThen hb7); have HPk7 := Lib.hid (GPack_ok HOK.out (HG6.out.keep hb7) HN.out); clear hb7)
      | (go_at_call 19; refine HPk7.out.mono ?_; clear HPk7; rintro e w8 ⟨C8, k8, rfl, hs8, hk8, hb8⟩; have HB8 := Lib.hid (HB7.out.andThen hb8); clear hs8 hk8 hb8))
    go_ret
    exact ⟨rfl, HB8.out⟩
  have HNo := Lib.hid (show ∀ L F, ¬ BytG l L F from fun L F h => hG ⟨_, _, h⟩)
  clear hG
  have HBy := Lib.hid (fun W (hW : Below w.heap.size w W) => Bytes_no l A n c W (by omega) HC.out HL.out HBt.out (HS.out.keep hW) HNo.out)
  by_cases hm : l.take 4 = fwrk
  · have h4 : (4 : Int) ≤ (n : Int) := by
      have h := congrArg List.length hm
      rw [List.length_take, HL.out] at h
      have h2 : fwrk.length = 4 := rfl
      omega
    have h4c : (4 : Int) ≤ (c : Int) := by have := HC.out.1; omega
    obtain ⟨g, off, rfl, _⟩ := HS.out.2 (by omega)
    have HM := Lib.hid hm
    have HCv := Lib.hid (fun W (hW : Below w.heap.size w W) => conv_l5 W (some ⟨g, off, none⟩) 4 c (l.take 4) (by rw [List.length_take, HL.out]; omega) (by rw [List.map_take]; exact (HS.out.keep hW).take (by omega)))
    have hmt := mark_test HBt.out (by rw [HL.out]; omega)
    rw [decide_eq_true hm] at hmt
    clear hm
    generalize strOfNums (l.take 4) = S at *
    have HNoA := Lib.hid (fun W (hW : Below w.heap.size w W) => Any_no l _ n c W (by omega) HC.out HL.out HBt.out (HS.out.keep hW) HM.out HNo.out)
    go_enter Tryz.func4, Tryz.ntmps4
    go_wp2_with (first
      | (go_at_call 7; refine HAl.out.mono ?_; clear HAl; rintro e w1 ⟨rfl, hb1⟩; have HB1 := Lib.hid hb1; clear hb1)
      | (go_at_call 17; refine (HBy.out _ HB1.out).mono ?_; clear HBy; rintro e w2 ⟨s2, T2, x2, rfl, hv2, hb2⟩; have HV2 := Lib.hid hv2; have HB2 := Lib.hid (HB1.out.andThen hb2); clear hv2 hb2)
      | (go_at_call 18; refine (HNoA.out _ HB2.out).mono ?_; clear HNoA; rintro e w3 ⟨s3, T3, x3, rfl, hv3, hb3⟩; have HV3 := Lib.hid hv3; have HB3 := Lib.hid (HB2.out.andThen hb3); have hcv := HCv.out w3 (HB2.out.andThen hb3); have HCd := Lib.hid (Code_any _ _ w3 (HV2.out.keep hb3) (HG.out.keep (HB2.out.andThen hb3))); have HV23 := Lib.hid (HV2.out.keep hb3); clear hv3 hb3)
      | (go_at_call 15; refine HCd.out.mono ?_; clear HCd; rintro e w4 ⟨rfl, hb4⟩; have HB4 := Lib.hid (HB3.out.andThen hb4); have HAt := Lib.hid (At_any _ _ w4 (HV23.out.keep hb4) (HG.out.keep (HB3.out.andThen hb4))); have HV34 := Lib.hid (HV3.out.keep hb4); simp only [Err.code]; clear hb4)
      | (go_at_call 16; refine HAt.out.mono ?_; clear HAt; rintro e w5 ⟨rfl, hb5⟩; have HB5 := Lib.hid (HB4.out.andThen hb5); have HCd5 := Lib.hid (Code_any _ _ w5 (HV34.out.keep hb5) (HG.out.keep (HB4.out.andThen hb5))); simp only [Err.at_]; clear hb5)
      | (go_at_call 15; refine HCd5.out.mono ?_; clear HCd5; rintro e w6 ⟨rfl, hb6⟩; have HB6 := Lib.hid (HB5.out.andThen hb6); simp only [Err.code]; clear hb6))
    go_ret
    exact ⟨rfl, HB6.out⟩
  · have HTx := Lib.hid (fun W (hW : Below w.heap.size w W) => Any_text l A n c W (by omega) HL.out HBt.out (HS.out.keep hW) hm (HG.out.keep hW) (HLw.out.keep hW))
    by_cases h4n : 4 ≤ n
    · have h4 : (4 : Int) ≤ (n : Int) := by omega
      have h4c : (4 : Int) ≤ (c : Int) := by have := HC.out.1; omega
      obtain ⟨g, off, rfl, _⟩ := HS.out.2 (by omega)
      have HCv := Lib.hid (fun W (hW : Below w.heap.size w W) => conv_l5 W (some ⟨g, off, none⟩) 4 c (l.take 4) (by rw [List.length_take, HL.out]; omega) (by rw [List.map_take]; exact (HS.out.keep hW).take (by omega)))
      have hmt := mark_test HBt.out (by rw [HL.out]; omega)
      rw [decide_eq_false hm] at hmt
      clear hm
      generalize strOfNums (l.take 4) = S at *
      go_enter Tryz.func4, Tryz.ntmps4
      go_wp2_with (first
        | (go_at_call 7; refine HAl.out.mono ?_; clear HAl; rintro e w1 ⟨rfl, hb1⟩; have HB1 := Lib.hid hb1; clear hb1)
        | (go_at_call 17; refine (HBy.out _ HB1.out).mono ?_; clear HBy; rintro e w2 ⟨s2, T2, x2, rfl, hv2, hb2⟩; have HV2 := Lib.hid hv2; have HB2 := Lib.hid (HB1.out.andThen hb2); clear hv2 hb2)
        | (go_at_call 18; refine (HTx.out _ HB2.out).mono ?_; clear HTx; rintro e w3 ⟨p3, v3, rfl, hb3⟩; have HB3 := Lib.hid (HB2.out.andThen hb3); have hcv := HCv.out w3 (HB2.out.andThen hb3); have HCd := Lib.hid (Code_any _ _ w3 (HV2.out.keep hb3) (HG.out.keep (HB2.out.andThen hb3))); have HV23 := Lib.hid (HV2.out.keep hb3); clear hb3)
        | (go_at_call 15; refine HCd.out.mono ?_; clear HCd; rintro e w4 ⟨rfl, hb4⟩; have HB4 := Lib.hid (HB3.out.andThen hb4); have HAt := Lib.hid (At_any _ _ w4 (HV23.out.keep hb4) (HG.out.keep (HB3.out.andThen hb4))); simp only [Err.code]; clear hb4)
        | (go_at_call 16; refine HAt.out.mono ?_; clear HAt; rintro e w5 ⟨rfl, hb5⟩; have HB5 := Lib.hid (HB4.out.andThen hb5); simp only [Err.at_]; clear hb5))
      go_ret
      exact ⟨rfl, HB5.out⟩
    · have h4 : ¬ (4 : Int) ≤ (n : Int) := by omega
      clear hm
      go_enter Tryz.func4, Tryz.ntmps4
      go_wp2_with (first
        | (go_at_call 7; refine HAl.out.mono ?_; clear HAl; rintro e w1 ⟨rfl, hb1⟩; have HB1 := Lib.hid hb1; clear hb1)
        | (go_at_call 17; refine (HBy.out _ HB1.out).mono ?_; clear HBy; rintro e w2 ⟨s2, T2, x2, rfl, hv2, hb2⟩; have HV2 := Lib.hid hv2; have HB2 := Lib.hid (HB1.out.andThen hb2); clear hv2 hb2)
        | (go_at_call 18; refine (HTx.out _ HB2.out).mono ?_; clear HTx; rintro e w3 ⟨p3, v3, rfl, hb3⟩; have HB3 := Lib.hid (HB2.out.andThen hb3); have HCd := Lib.hid (Code_any _ _ w3 (HV2.out.keep hb3) (HG.out.keep (HB2.out.andThen hb3))); have HV23 := Lib.hid (HV2.out.keep hb3); clear hb3)
        | (go_at_call 15; refine HCd.out.mono ?_; clear HCd; rintro e w4 ⟨rfl, hb4⟩; have HB4 := Lib.hid (HB3.out.andThen hb4); have HAt := Lib.hid (At_any _ _ w4 (HV23.out.keep hb4) (HG.out.keep (HB3.out.andThen hb4))); simp only [Err.code]; clear hb4)
        | (go_at_call 16; refine HAt.out.mono ?_; clear HAt; rintro e w5 ⟨rfl, hb5⟩; have HB5 := Lib.hid (HB4.out.andThen hb5); simp only [Err.at_]; clear hb5))
      go_ret
      exact ⟨rfl, HB5.out⟩

/-- LoadBytes, as its frame asks it. -/
theorem LoadBytes_main (A0 : Option Addr) (n0 c0 : Nat) (l : List Int) (w : World) (hg : ErrT w) (hL : LibW w) (m0 : n0 ≤ maxLen) (e0 : l.length = n0) (s0 : Sl w 1 A0 n0 (l.map (Value.int .u8))) (w0 : ∀ z ∈ l, (Lit.int .u8 z).wf = true) (q0 : n0 ≤ c0 ∧ c0 ≤ 9223372036854775807) :
    Calls Tryz.prog 4 #[.slice A0 n0 c0] w fun e w' => e = .returned (.bool true) ∧ Below w.heap.size w w' :=
  LoadBytes_walk l A0 n0 c0 w hg hL e0 (fun x hx => wf_u8 (w0 x hx)) s0 q0
end Go.Proofs.YtbbmgcdocolakaaGreatDoor
