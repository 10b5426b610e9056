/-
  Part 18 of the proof of LoadBytes: WordsOf, LdC, LdU.
-/
import Derived.Test.YtbbmgcdocolakaaGreatDoorLoadBytesM17
import Derived.BigQuiet
import Derived.Test.YtbbmgcdocolakaaGreatDoorLoadBytesM4
set_option linter.unusedVariables false
/-
  fault.Words over chains.
-/
namespace Go.Proofs.YtbbmgcdocolakaaGreatDoor
open Go.RowKit Go.Extern.Stop Go.Stop Go.Extern
set_option maxRecDepth 100000

theorem elemStrO : Elem Tryz.prog 47 9 (.string ⟨#[]⟩) 1 16 := ⟨Tryz.underlying47, by kernel_rfl, rfl, by decide⟩
theorem fw_isStep (v : Value) (w : World) : (Instr.typeAssert (.iface 125 v) 34 125 true).run Tryz.prog w = .ok (.tuple #[v, .bool true]) w := by kernel_rfl
theorem fw_isntStepF (v : Value) (w : World) : (Instr.typeAssert (.iface 78 v) 34 125 true).run Tryz.prog w = .ok (.tuple #[.pointer none, .bool false]) w := by kernel_rfl

def Err.size : Err → Nat
  | .nil => 0
  | .step _ e => e.size + 1
  | _ => 1
theorem Err.words_le : ∀ E : Err, E.words.length ≤ E.size
  | .nil => Nat.le_refl _
  | .flt _ _ _ => by simp [Err.words]
  | .txt _ => by simp [Err.words]
  | .step _ e => by have := Err.words_le e; simp only [Err.words, List.length_cons, Err.size]; omega

set_option maxHeartbeats 2000000 in
theorem Words_any (E : Err) (v : Value) (w : World) (hE : E.At w v) (hd : E.size ≤ 4294967296) :
    Calls Tryz.prog 67 #[v] w fun e w' => ∃ A c, e = .returned (.slice A E.words.length c) ∧ w'.ownsRow w.heap.size 9 1 (.slice A E.words.length c) E.words.length (E.words.map Value.string) ∧ Below w.heap.size w w' := by
  have iS := fw_isStep
  have iF := fw_isntStepF
  have HD := Lib.hid hd
  have HL := Lib.hid (Err.words_le E)
  go_enter Tryz.func67, Tryz.ntmps67
  go_wp2
  go_loopg [0, 3] E.size (fun k e l wr => ∃ (E' : Err) (done : List ByteArray), E'.At w e ∧ E'.size = k ∧ Hid (E.words = done ++ E'.words) ∧ wr.ownsRow w.heap.size 9 1 l done.length (done.map Value.string) ∧ Below w.heap.size w wr)
  case atStart => exact ⟨E, [], hE, rfl, rfl, World.ownsRow_nil _ _ _ _, Below.refl _ _⟩
  case round =>
    obtain ⟨E', done, hE', hk, HW, hown, hb⟩ := hrel
    have hlen : done.length ≤ 4294967296 := by have := HD.out; have := HL.out; have := congrArg List.length HW.out; simp only [List.length_append] at this; omega
    have HK := Lib.hid hk
    clear hE hk hd
    have HU := Lib.hid (Unwrap_any E' _ w wr hE' hb)
    have HE := Lib.hid hE'
    cases E' with
    | nil =>
      obtain rfl : _ = Value.nilIface := hE'
      have hw : done = E.words := by have := HW.out; simpa [Err.words] using this.symm
      subst hw
      obtain ⟨A, c, rfl, hsl⟩ := Sl.own hown
      have HS := Lib.hid hown
      clear hown hsl
      go_wp2
      go_ret
      exact ⟨A, c, rfl, HS.out, hb⟩
    | flt c a s =>
      obtain ⟨g, rfl, hblk⟩ := hE'
      clear hblk
      have h2 : Err.nil.At wr .nilIface := rfl
      go_wp2_with (go_at_call 73; refine HU.out.mono ?_; rintro ev w' ⟨v', rfl, hv', rfl⟩)
      obtain rfl : v' = .nilIface := hv'
      go_roundg 0
      case measure => have := HK.out; simp only [Err.size] at this; omega
      case rel => exact ⟨.nil, done, rfl, rfl, by show _ = _; rw [HW.out]; rfl, hown, hb⟩
    | txt s => exact hE'.elim
    | step word e =>
      clear HU
      obtain ⟨g, v', rfl, hblk, hv', hnn⟩ := hE'
      have hc0 := (hblk.keep hb).cell 0
      simp at hc0
      have HV := Lib.hid hv'
      clear hblk hv' hnn
      go_wp2_with (first | (at_builtin; refine wpList_push elemStrO _ _ rfl rfl hown hb (Nat.le_refl _) rfl rfl rfl (by simp [Value.oneCell']) (by unfold lim; omega) (by unfold lim; omega) ?_; intro l' w1 hown1 hb1) | (go_at_call 73; refine (Unwrap_any (.step word e) _ w _ HE.out (by assumption)).mono ?_; rintro ev w' ⟨v2, rfl, hv2, rfl⟩))
      go_roundg e.size
      case measure => have := HK.out; simp only [Err.size] at this; omega
      case rel => exact ⟨e, done ++ [word], hv2, rfl, by show _ = _; rw [HW.out]; simp [Err.words], by simpa using hown1, hb1⟩
end Go.Proofs.YtbbmgcdocolakaaGreatDoor
/-
  load: a line that is wrong; where what a graph tells stands.
-/
namespace Go.Proofs.YtbbmgcdocolakaaGreatDoor
open Go.RowKit Go.Proofs.YtbbmgcdocolakaaGreatDoor.Pg
attribute [local go_sem ↓] Go.wp_at_zero Go.wp_at_succ
set_option maxRecDepth 100000
set_option linter.unusedVariables false

theorem wrong5_any (a : Int) (s : ByteArray) (w : World) : Calls Tryz.prog 32 #[.int .i64 a, .string s] w fun e w' => ∃ v, e = .returned v ∧ (Err.flt 11 a s).At w' v ∧ Below w.heap.size w w' := by
  go_enter Tryz.func32, Tryz.ntmps32
  go_wp2_with (go_at_call 29; refine (New_err _ _ _ _).mono ?_; rintro e w4 ⟨v4, rfl, hv4, hb4⟩; have HV4 := Lib.hid hv4; have HB4 := Lib.hid hb4; clear hv4 hb4)
  go_ret
  exact ⟨v4, rfl, HV4.out, HB4.out⟩
/-- At which line. -/
def placeZ (n : Nat) (E : Err) (c a : Int) : Int := if 0 < E.words.length then n + a else if c = 6 then 0 else a
set_option maxHeartbeats 4000000 in
theorem placed_any (Er : Err) (v : Value) (c a : Int) (s : ByteArray) (g n xc : Nat) (X : Option Addr) (ev : Value) (w : World) (hE : Er.At w v) (hf : Er.flt? = some (c, a, s)) (hd : Er.size ≤ 10) (ha : 0 ≤ a ∧ a ≤ 1000000) (hn : n ≤ 1000000) (hk : Blk w g 66 #[.slice X n xc, ev]) (hg : ErrT w) :
    Calls Tryz.prog 33 #[.pointer (some ⟨g, 0, none⟩), v] w fun e w' => ∃ v', e = .returned v' ∧ (Err.step tGraph (.flt 11 (placeZ n Er c a) s)).At w' v' ∧ Below w.heap.size w w' := by
  obtain ⟨w0, hw0⟩ : ∃ W, W = w.alloc (.cells #[.pointer none] 78) := ⟨_, rfl⟩
  have HB0 := Lib.hid (show Below w.heap.size w w0 from by rw [hw0]; exact bel_al (Below.refl _ _) _)
  have HA := Lib.hid (show Calls Tryz.prog 66 #[v, .iface 117 (.pointer (some ⟨w.heap.size, 0, none⟩))] w0 fun e w' => e = .returned (.bool true) ∧ ∃ q, Below w.heap.size w0 w' ∧ Blk w q 81 #[.int .i64 c, .int .i64 a, .string s] ∧ w'.cell? ⟨w.heap.size, 0, none⟩ = some (.pointer (some ⟨q, 0, none⟩)) from
    (As_done Er v w w0 hE HB0.out ⟨w.heap.size, 0, none⟩ (.pointer none) (hg.keep HB0.out) (by rw [hw0]; simp) (by rw [hw0]; simp)).mono fun e w' ⟨hb1, hp⟩ => by
      rcases hp with ⟨c', a', s', q, h1, h2, h3, h4⟩ | ⟨h1, _⟩
      · rw [hf] at h1
        have h5 := Option.some.inj h1
        have e1 : c = c' := (Prod.mk.inj h5).1
        have h6 := (Prod.mk.inj h5).2
        have e2 : a = a' := (Prod.mk.inj h6).1
        have e3 : s = s' := (Prod.mk.inj h6).2
        subst e1 e2 e3
        exact ⟨h2, q, hb1, h3, h4⟩
      · rw [hf] at h1; cases h1)
  have HE := Lib.hid hE
  have HK := Lib.hid hk
  have HF := Lib.hid hf
  have HD := Lib.hid hd
  clear hE hk hg hf hd
  go_enter Tryz.func33, Tryz.ntmps33
  go_upto_region 2 with (fail)
  rw [← hw0]
  clear hw0
  go_upto_region 4 with (go_at_call 66; refine HA.out.mono ?_; clear HA; rintro e w1 ⟨rfl, q, hb1, h2, h3⟩; have HB1 := Lib.hid (HB0.out.trans hb1); have HQ1 := Lib.hid (h2.keep (HB0.out.trans hb1)); have HT1 := Lib.hid h3; clear hb1 h2 h3)
  have HE1 := Lib.hid (HE.out.keep HB1.out)
  have HK1 := Lib.hid (HK.out.keep HB1.out)
  have HWo := Lib.hid (Words_any Er v w1 HE1.out (by have := HD.out; omega))
  have HAll := Lib.hid (show ∀ W, Below w1.heap.size w1 W → W.cell? ⟨w.heap.size, 0, none⟩ = some (.pointer (some ⟨q, 0, none⟩)) ∧ W.cell? ⟨q, 0, none⟩ = some (.int .i64 c) ∧ W.cell? ⟨q, 1, none⟩ = some (.int .i64 a) ∧ W.cell? ⟨q, 2, none⟩ = some (.string s) ∧ W.cell? ⟨g, 0, none⟩ = some (.slice X n xc) from fun W hW => ⟨(hW.cell (World.block_lt_of_cell? _ _ HT1.out)).trans HT1.out, (HQ1.out.keep hW).cell 0, (HQ1.out.keep hW).cell 1, (HQ1.out.keep hW).cell 2, (HK1.out.keep hW).cell 0⟩)
  have hwl := Err.words_le Er
  have hwl9 : Er.words.length ≤ 10 := by have := HD.out; omega
  obtain ⟨wl, hwl2⟩ : ∃ k, k = Er.words.length := ⟨_, rfl⟩
  have HP := Lib.hid (show placeZ n Er c a = if 0 < wl then (n : Int) + a else if c = 6 then 0 else a from by unfold placeZ; rw [hwl2])
  rw [← hwl2] at HWo hwl9
  clear hwl hwl2 HE HE1 HK HK1 HQ1 HT1 HF HD
  go_upto_region 5 with (fail)
  by_cases h0 : 0 < wl
  · rw [if_pos h0] at HP
    have h0' : (0 : Int) < (wl : Int) := by omega
    go_upto_region 6 with (go_at_call 67; refine HWo.out.mono ?_; clear HWo; rintro e w2 ⟨A2, c2, rfl, _, hb2⟩; have HB2 := Lib.hid hb2; clear hb2)
    obtain ⟨y0, y1, y2, y3, y4⟩ := HAll.out w2 HB2.out
    go_quiet (fail)
    have HB3 := Lib.hid (bel_drewN HB2.out nq)
    clear y0 y1 y2 y3 y4
    obtain ⟨w3, hw3⟩ : ∃ W, W = w2.drewN nq := ⟨_, rfl⟩
    rw [← hw3] at HB3 ⊢
    clear hw3
    obtain ⟨y0, y1, y2, y3, y4⟩ := HAll.out w3 HB3.out
    go_wp2_with (first
      | (go_at_call 39; refine HI.out.mono ?_; clear HI; rintro e w5 ⟨v5, rfl, hv5, hb5⟩; have HV5 := Lib.hid hv5; have HB5 := Lib.hid (HB4.out.andThen hb5); clear hv5 hb5)
      | (go_at_call 32; refine (wrong5_any _ _ _).mono ?_; rintro e w4 ⟨v4, rfl, hv4, hb4⟩; have HI := Lib.hid (In_any tGraph (.flt 11 ((n : Int) + a) s) v4 w4 hv4); have HB4 := Lib.hid (HB3.out.andThen hb4); clear hv4 hb4))
    go_ret
    refine ⟨v5, rfl, ?_, HB1.out.andThen HB5.out⟩
    rw [HP.out]
    have h := HV5.out
    rwa [Err.in_of (by exact fun h => by cases h)] at h
  · rw [if_neg h0] at HP
    have h0' : ¬ (0 : Int) < (wl : Int) := by omega
    by_cases h6 : c = 6
    · rw [if_pos h6] at HP
      subst h6
      go_upto_region 7 with (go_at_call 67; refine HWo.out.mono ?_; clear HWo; rintro e w2 ⟨A2, c2, rfl, _, hb2⟩; have HB2 := Lib.hid hb2; clear hb2)
      obtain ⟨y0, y1, y2, y3, y4⟩ := HAll.out w2 HB2.out
      go_wp2_with (first
        | (go_at_call 39; refine HI.out.mono ?_; clear HI; rintro e w5 ⟨v5, rfl, hv5, hb5⟩; have HV5 := Lib.hid hv5; have HB5 := Lib.hid (HB4.out.andThen hb5); clear hv5 hb5)
        | (go_at_call 32; refine (wrong5_any _ _ _).mono ?_; rintro e w4 ⟨v4, rfl, hv4, hb4⟩; have HI := Lib.hid (In_any tGraph (.flt 11 0 s) v4 w4 hv4); have HB4 := Lib.hid (HB2.out.andThen hb4); clear hv4 hb4))
      go_ret
      refine ⟨v5, rfl, ?_, HB1.out.andThen HB5.out⟩
      rw [HP.out]
      have h := HV5.out
      rwa [Err.in_of (by exact fun h => by cases h)] at h
    · rw [if_neg h6] at HP
      have h6b : (c == 6) = false := by simpa using h6
      go_upto_region 7 with (go_at_call 67; refine HWo.out.mono ?_; clear HWo; rintro e w2 ⟨A2, c2, rfl, _, hb2⟩; have HB2 := Lib.hid hb2; clear hb2)
      obtain ⟨y0, y1, y2, y3, y4⟩ := HAll.out w2 HB2.out
      go_wp2_with (first
        | (go_at_call 39; refine HI.out.mono ?_; clear HI; rintro e w5 ⟨v5, rfl, hv5, hb5⟩; have HV5 := Lib.hid hv5; have HB5 := Lib.hid (HB4.out.andThen hb5); clear hv5 hb5)
        | (go_at_call 32; refine (wrong5_any _ _ _).mono ?_; rintro e w4 ⟨v4, rfl, hv4, hb4⟩; have HI := Lib.hid (In_any tGraph (.flt 11 a s) v4 w4 hv4); have HB4 := Lib.hid (HB2.out.andThen hb4); clear hv4 hb4))
      go_ret
      refine ⟨v5, rfl, ?_, HB1.out.andThen HB5.out⟩
      rw [HP.out]
      have h := HV5.out
      rwa [Err.in_of (by exact fun h => by cases h)] at h
end Go.Proofs.YtbbmgcdocolakaaGreatDoor
/-
  load.unpack of any bytes.
-/
namespace Go.Proofs.YtbbmgcdocolakaaGreatDoor
open Go.RowKit
attribute [local go_sem ↓] Go.wp_at_zero Go.wp_at_succ
set_option maxRecDepth 100000
set_option linter.unusedVariables false

/-- What unpack answers. -/
def UnpRes (l : List Int) (w : World) (e : Ending) (w' : World) : Prop :=
  Below w.heap.size w w' ∧ ((∃ (A : Option Addr) (n c : Nat) (B : Option Addr) (m d : Nat) (L : List Int) (E : List (Int × Int)), e = .returned (.tuple #[.slice A n c, .slice B m d, .nilIface]) ∧ BytOK l L E ∧ L.length = n ∧ Sl w' 1 A n (L.map (Value.int .i64)) ∧ Sl w' 2 B m (Rk.cells E)) ∨
    ((∀ L E, ¬ BytOK l L E) ∧ ∃ (c a : Int) (s : ByteArray) (T : TypeId) (x : Value), e = .returned (.tuple #[.slice none 0 0, .slice none 0 0, .iface T x]) ∧ (Err.flt c a s).At w' (.iface T x) ∧ s.size ≤ 100))
theorem unE_flt {l : List Int} (h : unW l ≠ 0) : ∃ (c a : Int) (s : ByteArray), unE l = .flt c a s ∧ s.size ≤ 100 := by
  unfold unE
  split
  · contradiction
  all_goals exact ⟨_, _, _, rfl, by decide⟩
set_option maxHeartbeats 16000000 in
theorem Unp_any (l : List Int) (A : Option Addr) (n c : Nat) (w : World) (hn : n ≤ 1000000) (hnc : n ≤ c) (hc9 : c ≤ 9223372036854775807) (hl : l.length = n) (hb : Bys l) (hs : Sl w 1 A n (l.map (Value.int .u8))) :
    Calls Tryz.prog 38 #[.slice A n c] w (UnpRes l w) := by
  have HUn := Lib.hid (Unpack_any l A n c w hnc hc9 (by omega) hl hb hs)
  have HBt := Lib.hid hb
  have hbl := unB_le5 l
  obtain ⟨nb, hnb⟩ : ∃ k, k = (unB l).length := ⟨_, rfl⟩
  have hbl2 : nb ≤ 1000000 := by omega
  have HNb := Lib.hid hnb.symm
  clear hs hb hl hbl hnb
  go_enter Tryz.func38, Tryz.ntmps38
  go_upto_region 2 with (go_at_call 69; refine HUn.out.mono ?_; clear HUn; rintro e w1 ⟨C, k, ev, rfl, hev, hs1, hk, hb1⟩; rw [HNb.out] at hs1 hk ⊢; have HEv := Lib.hid hev; have HS1 := Lib.hid hs1; have HB1 := Lib.hid hb1; clear hev hs1 hb1)
  by_cases hw : unW l = 0
  · have hev := HEv.out
    have hE0 : unE l = .nil := by unfold unE; rw [hw]; rfl
    rw [hE0] at hev
    obtain rfl : ev = .nilIface := hev
    have HW := Lib.hid hw
    have HPk := Lib.hid (pack_of5 HBt.out hw)
    obtain ⟨kd, hkd⟩ : ∃ z, z = unK l := ⟨_, rfl⟩
    have HKd := Lib.hid hkd
    rw [← hkd]
    clear hw hE0 HEv hkd
    go_upto_region 5 with (go_at_call 70; refine (NewReader_any C nb k w1).mono ?_; rintro e w2 ⟨g, rfl, hr, hb2⟩; have HR2 := Lib.hid hr; have HB2 := Lib.hid hb2; clear hr hb2)
    have HLi1 := Lib.hid (List_uni g w1.heap.size C nb k 0 4096 .nil (unB l) w2 HR2.out (.inl rfl) (by omega) hk.1 hk.2 HNb.out HPk.out.2.2.2 (fun W hW => HS1.out.keep (HB2.out.trans hW)))
    have HG2 := Lib.hid (show g < w2.heap.size from by obtain ⟨_, _, _, _, h, _⟩ := HR2.out; exact h.lt)
    go_upto_region 6 with (first
      | (go_at_call 71; refine HLi1.out.mono ?_; clear HLi1; rintro e w3 ⟨v1, xs1, a1, E1, rfl, hown, hb3, ha3, hr, hE1, hk1, hk2⟩; obtain ⟨A1, c1, rfl, _⟩ := Sl.own hown; have HO1 := Lib.hid hown; have HB3 := Lib.hid (HB2.out.trans hb3); have HA3 := Lib.hid ha3; have HR3 := Lib.hid hr; have HF1 := Lib.hid (And.intro hk1 hk2); have HE1 := Lib.hid hE1; have HLi2 := Lib.hid (List_uni g w1.heap.size C nb k a1 32768 E1 (unB l) w3 hr hE1 (by omega) hk.1 hk.2 HNb.out HPk.out.2.2.2 (fun W hW => HS1.out.keep (HB3.out.trans hW))); clear hown hb3 ha3 hr hE1 hk1 hk2)
      | (go_at_call 71; refine HLi2.out.mono ?_; clear HLi2; rintro e w4 ⟨v2, xs2, a2, E2, rfl, hown, hb4, ha4, hr, hE2, hk1, hk2⟩; obtain ⟨A2, c2, rfl, _⟩ := Sl.own hown; have HO2 := Lib.hid hown; have HB4 := Lib.hid (HB3.out.trans hb4); have HA4 := Lib.hid ha4; have HR4 := Lib.hid hr; have HF2 := Lib.hid (And.intro hk1 hk2); have HE2 := Lib.hid hE2; clear hown hb4 ha4 hr hE2 hk1 hk2))
    obtain ⟨z1, hz1⟩ : ∃ z1, z1 = xs1.length := ⟨_, rfl⟩
    have HZ1 := Lib.hid hz1.symm
    rw [← hz1] at HO1 ⊢
    clear hz1
    obtain ⟨z2, hz2⟩ : ∃ z2, z2 = xs2.length := ⟨_, rfl⟩
    have HZ2 := Lib.hid hz2.symm
    rw [← hz2] at HO2 ⊢
    clear hz2
    have HEn := Lib.hid (End_flt g w1.heap.size C nb k a2 E2 w4 HR4.out HE2.out (by omega))
    have HO14 := Lib.hid (show w4.ownsRow w2.heap.size 3 1 (.slice A1 z1 c1) z1 (xs1.map (Value.int .i64)) from own_block HO1.out fun g' hg' => by
      have h1 := HO1.out.lt g' hg'
      have h2 := HG2.out
      exact HA4.out.2 g' (by omega) (by omega))
    go_upto_region 7 with (go_at_call 72; refine HEn.out.mono ?_; clear HEn; rintro e w5 ⟨ev5, rfl, hb5, hd5⟩; have HB5 := Lib.hid hb5; have HD5 := Lib.hid hd5; clear hb5 hd5)
    rcases HD5.out with ⟨rfl, ha2n, rfl⟩ | ⟨E', T, x, he5, rfl, hne5, hc5, hlt5⟩
    · have HOk := Lib.hid (show okAt (unB l) 0 4096 ∧ xs1 = lst (unB l) 0 ∧ okAt (unB l) (nxtA (unB l) 0) 32768 ∧ xs2 = lst (unB l) (nxtA (unB l) 0) ∧ nxtA (unB l) (nxtA (unB l) 0) = (unB l).length from by
        obtain ⟨h1, h2, h3, h4⟩ := HF2.out.1 rfl
        subst h1
        obtain ⟨_, k2, k3, k4⟩ := HF1.out.1 rfl
        subst k4
        exact ⟨k2, k3, h2, h3, by rw [← h4, ha2n, HNb.out]⟩)
      clear HD5 ha2n
      have HB5a := Lib.hid (show Below w.heap.size w w5 from HB1.out.trans ((HB4.out.trans (HB5.out.mono HB4.out.size)).mono HB1.out.size))
      by_cases hko : kd = 1 ∧ z2 % 2 = 0
      · obtain ⟨rfl, hod⟩ := hko
        have hod1 : (z2 : Int) % 2 = 0 := by omega
        have hod2 : Int.tmod (z2 : Int) 2 = 0 := by rw [Int.tmod_eq_emod_of_nonneg (by omega)]; omega
        obtain ⟨K, hK⟩ : ∃ K, z2 = 2 * K := ⟨z2 / 2, by omega⟩
        have HKz := Lib.hid hK
        have HPl := Lib.hid (show (pairsL xs2).length = K from by rw [pairs_len, HZ2.out, hK]; omega)
        have HBy := Lib.hid (show BytOK l xs1 (pairsL xs2) from by
          obtain ⟨o1, o2, o3, o4, o5⟩ := HOk.out
          have h := byt_of HBt.out HW.out HKd.out.symm o1 o3 o5 (by rw [← o4, HZ2.out]; exact hod)
          rwa [← o2, ← o4] at h)
        have hKb : K ≤ 16384 := by have := HBy.out.2.2.1; rw [HPl.out] at this; exact this
        have HCap := Lib.hid (own_cap HO2.out)
        have HSl2 := Lib.hid (Sl.of_own HO2.out)
        have HSl1 := Lib.hid ((Sl.of_own HO14.out).keep HB5.out)
        clear hod hK HF1 HF2 HOk HW HPk HE1 HE2 HA3 HA4 HR3 HR4 HO1
        go_wp2_with fail
        go_loopw [10, 12] (fun ev fv wr => ∃ (j k' : Nat) (Aj : Option Addr), j ≤ K ∧ ev = .slice Aj (z2 - 2 * j) k' ∧ Hid (j < K → ∃ b off, A2 = some ⟨b, off, none⟩ ∧ Aj = some ⟨b, off + 2 * j, none⟩) ∧ (z2 - 2 * j ≤ k' ∧ k' ≤ 9223372036854775807) ∧ Hid (wr.ownsRow w5.heap.size 76 2 fv j (Rk.cells ((pairsL xs2).take j))) ∧ Hid (Below w5.heap.size w5 wr)) (fun ev _ _ => lenV ev)
        case atStart =>
          refine ⟨0, c2, A2, Nat.zero_le _, by rw [Nat.mul_zero, Nat.sub_zero], Lib.hid fun h => ?_, by rw [Nat.mul_zero, Nat.sub_zero]; exact HCap.out, Lib.hid (World.ownsRow_nil _ _ _ _), Lib.hid (Below.refl _ _)⟩
          obtain ⟨b, off, hA, _⟩ := HSl2.out.at_ (show 0 < z2 by have := HKz.out; omega)
          exact ⟨b, off, hA, by rw [hA, Nat.mul_zero, Nat.add_zero]⟩
        case round =>
          obtain ⟨j, k', Aj, hj, rfl, HAj, hk', HO, HBr⟩ := hrel
          obtain ⟨D, dq, rfl, _⟩ := Sl.own HO.out
          by_cases hlt : j < K
          · obtain ⟨b, off, hA2, rfl⟩ := HAj.out hlt
            have hx2 : 2 * j < xs2.length := by have := HKz.out; rw [HZ2.out]; omega
            have hy2 : 2 * j + 1 < xs2.length := by have := HKz.out; rw [HZ2.out]; omega
            obtain ⟨x, hx⟩ : ∃ x, xs2[2 * j]? = some x := ⟨_, List.getElem?_eq_getElem hx2⟩
            obtain ⟨y, hy⟩ : ∃ y, xs2[2 * j + 1]? = some y := ⟨_, List.getElem?_eq_getElem hy2⟩
            have HPr := Lib.hid (show (pairsL xs2).take (j + 1) = (pairsL xs2).take j ++ [(x, y)] from by
              have h := pairs_take hx hy
              obtain ⟨h1, h2⟩ := List.getElem?_eq_some_iff.1 h
              rw [List.take_succ_eq_append_getElem h1, h2])
            have HAll := Lib.hid (show ∀ V, Below w5.heap.size wr V → V.cell? ⟨b, off + 2 * j, none⟩ = some (.int .i64 x) ∧ V.cell? ⟨b, off + 2 * j + 1, none⟩ = some (.int .i64 y) from fun V hV => by
              obtain ⟨b', off', hA', hcc⟩ := (HSl2.out.keep (HB5.out.andThen (HBr.out.trans hV))).2 (show 0 < z2 by have := HKz.out; omega)
              rw [hA2] at hA'
              cases hA'
              exact ⟨hcc (2 * j) _ (by rw [List.getElem?_map, hx]; rfl), hcc (2 * j + 1) _ (by rw [List.getElem?_map, hy]; rfl)⟩)
            have HSzA := Lib.hid (show w5.heap.size ≤ wr.heap.size from HBr.out.size)
            have HBd := Lib.hid (bel_drewN HBr.out 1)
            have HOd := Lib.hid (own_block HO.out (w' := wr.drewN 1) fun g hg => (bel_drewN (Below.refl wr.heap.size wr) 1).block g (HO.out.lt g hg).2)
            have HBs := Lib.hid (show w5.heap.size ≤ (wr.drewN 1).heap.size from HSzA.out)
            obtain ⟨q1, q2⟩ := HAll.out wr (Below.refl _ _)
            obtain ⟨p1, p2⟩ := HAll.out (wr.alloc (.cells #[.int .i64 x, .int .i64 y] 76)) ((Below.refl _ _).alloc HSzA.out _)
            have h00 : (0 : Int) < ((z2 - 2 * j : Nat) : Int) := by have := HKz.out; omega
            have h01 : (1 : Int) < ((z2 - 2 * j : Nat) : Int) := by have := HKz.out; omega
            have hge2 : (2 : Int) ≤ ((z2 - 2 * j : Nat) : Int) := by have := HKz.out; omega
            have hsub : z2 - 2 * j - 2 = z2 - 2 * (j + 1) := by omega
            generalize hmm : z2 - 2 * j = mm at *
            have HMm := Lib.hid hmm
            have HAj2 := Lib.hid hA2
            clear hx hy hmm hA2
            go_wp2_with fail
            go_region_law
              ((refine step_cat_at elemEdge (.tmp 47) (.tmp 55) (by rfl) (by rfl) (HOd.out.alloc _) (by have := HBs.out; simp at this ⊢; omega) (Sl.newE _ _ _ _) (by rfl) (by rfl) (by simp [Value.oneCell']) (by unfold lim; omega) (by unfold lim; omega) ?_; intro v6 w6 hown6 hgr; obtain ⟨D6, d6, rfl, _⟩ := Sl.own hown6; have HO6 := Lib.hid hown6; have HB6 := Lib.hid ((HBd.out.alloc HBs.out _).trans (hgr.belowOwn (by have := HBs.out; simp at this ⊢; omega) (HOd.out.alloc _))); clear hown6 hgr))
            all_goals (
              have HOn := Lib.hid (show w6.ownsRow w5.heap.size 76 2 (.slice D6 (j + 1) d6) (j + 1) (Rk.cells ((pairsL xs2).take (j + 1))) from by
                rw [HPr.out, Rk.cells_snoc]
                exact HO6.out)
              clear q1 q2 p1 p2
              by_cases hk2 : k' = 2
              · subst hk2
                go_wp2_with fail
                go_roundw
                case rel => exact ⟨j + 1, _, _, by omega, rfl, Lib.hid fun h => by have := HMm.out; have := HKz.out; omega, by omega, HOn, HB6⟩
                case measure => simp [lenV]; omega
              · go_wp2_with fail
                go_roundw
                case rel => exact ⟨j + 1, _, _, by omega, rfl, Lib.hid fun h => ⟨b, off, HAj2.out, by rw [show off + 2 * (j + 1) = off + 2 * j + 2 by omega]⟩, by omega, HOn, HB6⟩
                case measure => simp [lenV]; omega)
          · obtain rfl : j = K := by omega
            have hz0 : z2 - 2 * j = 0 := by have := HKz.out; omega
            rw [hz0]
            rw [List.take_of_length_le (by rw [HPl.out]; exact Nat.le_refl _)] at HO
            clear hz0
            go_wp2_with fail
            refine bodyPost_ret (v := .tuple #[.slice A1 z1 c1, .slice D j dq, .nilIface]) (by simp [results, Tryz.results38, go_sem]) rfl ?_
            exact ⟨HB5a.out.andThen HBr.out, .inl ⟨A1, z1, c1, D, j, dq, xs1, pairsL xs2, rfl, HBy.out, HZ1.out, HSl1.out.keep HBr.out, Sl.of_own HO.out⟩⟩
      · have HNo := Lib.hid (show ∀ L E, ¬ BytOK l L E from fun L E h => by
          obtain ⟨_, c1, _, _, _, c4, _⟩ := byt_parts h
          have h4 := HOk.out.2.2.2.1
          rw [c4] at h4
          have h5 := congrArg List.length h4
          rw [HZ2.out, endsL_len] at h5
          exact hko ⟨by rw [HKd.out, c1], by omega⟩)
        have hko2 : kd ≠ 1 ∨ (kd = 1 ∧ (z2 : Int) % 2 = 1) := by omega
        clear hko
        rcases hko2 with hk1 | ⟨rfl, hod1⟩
        · go_wp2_with (go_at_call 32; refine (wrong5_any _ _ _).mono ?_; rintro e w6 ⟨v6, rfl, ⟨g6, rfl, hk6⟩, hb6⟩; have HK6 := Lib.hid hk6; have HB6 := Lib.hid hb6; clear hk6 hb6)
          refine bodyPost_ret (v := .tuple #[.slice none 0 0, .slice none 0 0, .iface 78 (.pointer (some ⟨g6, 0, none⟩))]) (by simp [results, Tryz.results38, go_sem]) rfl ?_
          exact ⟨HB5a.out.andThen HB6.out, .inr ⟨HNo.out, _, _, _, _, _, rfl, ⟨g6, rfl, HK6.out⟩, by decide⟩⟩
        · have hod2 : Int.tmod (z2 : Int) 2 = 1 := by rw [Int.tmod_eq_emod_of_nonneg (by omega)]; omega
          go_wp2_with (go_at_call 32; refine (wrong5_any _ _ _).mono ?_; rintro e w6 ⟨v6, rfl, ⟨g6, rfl, hk6⟩, hb6⟩; have HK6 := Lib.hid hk6; have HB6 := Lib.hid hb6; clear hk6 hb6)
          refine bodyPost_ret (v := .tuple #[.slice none 0 0, .slice none 0 0, .iface 78 (.pointer (some ⟨g6, 0, none⟩))]) (by simp [results, Tryz.results38, go_sem]) rfl ?_
          exact ⟨HB5a.out.andThen HB6.out, .inr ⟨HNo.out, _, _, _, _, _, rfl, ⟨g6, rfl, HK6.out⟩, by decide⟩⟩
    · have HNo := Lib.hid (show ∀ L E, ¬ BytOK l L E from fun L E h => by
        obtain ⟨_, _, b1, b2, b3, b4, b5⟩ := byt_parts h
        have e1 := HF1.out.2 (by first | rfl | trivial) b1
        obtain ⟨_, _, _, k4⟩ := HF1.out.1 e1
        have e2 := HF2.out.2 e1 (by rw [k4]; exact b3)
        obtain ⟨_, _, _, m4⟩ := HF2.out.1 e2
        have h := hlt5 e2
        rw [m4, k4, b5, HNb.out] at h
        omega)
      obtain ⟨c', a', s', rfl, hs', _⟩ := hc5
      obtain ⟨g5, he, hk5⟩ := he5
      cases he
      have HK5 := Lib.hid hk5
      clear HD5 hk5 hlt5 hne5
      go_wp2_with fail
      refine bodyPost_ret (v := .tuple #[.slice none 0 0, .slice none 0 0, .iface 78 (.pointer (some ⟨g5, 0, none⟩))]) (by simp [results, Tryz.results38, go_sem]) rfl ?_
      exact ⟨HB1.out.trans ((HB4.out.trans (HB5.out.mono HB4.out.size)).mono HB1.out.size), .inr ⟨HNo.out, _, _, _, _, _, rfl, ⟨g5, rfl, HK5.out⟩, hs'⟩⟩
  · have HNo := Lib.hid (show ∀ L E, ¬ BytOK l L E from fun L E h => hw (byt_parts h).1)
    obtain ⟨c', a', s', hE, hs'⟩ := unE_flt hw
    have hev := HEv.out
    rw [hE] at hev
    obtain ⟨g, rfl, hk1⟩ := hev
    have HK1 := Lib.hid hk1
    clear hw hk1 HEv
    go_wp2_with fail
    refine bodyPost_ret (v := .tuple #[.slice none 0 0, .slice none 0 0, .iface 78 (.pointer (some ⟨g, 0, none⟩))]) (by simp [results, Tryz.results38, go_sem]) rfl ?_
    exact ⟨HB1.out, .inr ⟨HNo.out, _, _, _, _, _, rfl, ⟨g, rfl, HK1.out⟩, hs'⟩⟩
end Go.Proofs.YtbbmgcdocolakaaGreatDoor
