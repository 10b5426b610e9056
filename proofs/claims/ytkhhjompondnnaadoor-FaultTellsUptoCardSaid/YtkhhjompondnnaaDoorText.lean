/-
  fault.Text over chains.
-/
import Derived.Test.YtkhhjompondnnaaDoorWordsOf
import Derived.Test.YtkhhjompondnnaaDoorBuilder
import Derived.ShutString
namespace Go.Proofs.YtkhhjompondnnaaDoor
open Go.RowKit Go.Extern.Stop Go.Stop Go.Extern
set_option maxRecDepth 100000

def Err.inner : Err → ByteArray
  | .nil => ⟨#[]⟩
  | .flt _ _ s => s
  | .txt s => s
  | .step _ e => e.inner
/-- The words, each with a colon and a blank behind. -/
def withColons (l : List ByteArray) : List UInt8 := l.flatMap fun w => w.data.toList ++ [58, 32]
def Err.text (E : Err) : List UInt8 := withColons E.words ++ E.inner.data.toList
/-- The innermost error. -/
def Err.core : Err → Err
  | .step _ e => e.core
  | e => e
theorem withColons_snoc (l : List ByteArray) (w : ByteArray) : withColons (l ++ [w]) = withColons l ++ (w.data.toList ++ [58, 32]) := by simp [withColons]
theorem withColons_take_le (l : List ByteArray) (k : Nat) : (withColons (l.take k)).length ≤ (withColons l).length := by
  have h : withColons l = withColons (l.take k) ++ withColons (l.drop k) := by
    unfold withColons; rw [← List.flatMap_append, List.take_append_drop]
  rw [h, List.length_append]; omega
theorem Err.core_inner : ∀ E : Err, E.core.inner = E.inner
  | .nil => rfl
  | .flt _ _ _ => rfl
  | .txt _ => rfl
  | .step _ e => Err.core_inner e

theorem fr_methodErrorF (v : Value) (w : World) : (Go.method 296 77 v "Error").run Tryd.prog w = .ok (115, v) w := by kernel_rfl
theorem fr_nilErrorF (a : Addr) (w : World) : (nilAhead 296 77 (.pointer (some a)) "Error").run Tryd.prog w = .ok (some false) w := by kernel_rfl
theorem fr_methodErrorT (v : Value) (w : World) : (Go.method 296 149 v "Error").run Tryd.prog w = .ok (123, v) w := by kernel_rfl
theorem fr_nilErrorT (a : Addr) (w : World) : (nilAhead 296 149 (.pointer (some a)) "Error").run Tryd.prog w = .ok (some false) w := by kernel_rfl

theorem FaultError (g : Nat) (s : ByteArray) (w : World) (h : w.cell? ⟨g, 2, none⟩ = some (.string s)) :
    Calls Tryd.prog 115 #[.pointer (some ⟨g, 0, none⟩)] w fun e w' => e = .returned (.string s) ∧ w = w' := by
  go_enter Tryd.func115, Tryd.ntmps115
  go_wp2
  go_ret
  exact ⟨rfl, rfl⟩
theorem TxtError (g : Nat) (s : ByteArray) (w : World) (h : w.cell? ⟨g, 0, none⟩ = some (.string s)) :
    Calls Tryd.prog 123 #[.pointer (some ⟨g, 0, none⟩)] w fun e w' => e = .returned (.string s) ∧ w = w' := by
  go_enter Tryd.func123, Tryd.ntmps123
  go_wp2
  go_ret
  exact ⟨rfl, rfl⟩

theorem bytes_append (l : List UInt8) (s : ByteArray) : (⟨l.toArray⟩ : ByteArray) ++ s = ⟨(l ++ s.data.toList).toArray⟩ := by
  apply ByteArray.ext
  rw [ByteArray.data_append]
  simp

set_option maxHeartbeats 2000000 in
theorem Text_any (E : Err) (v : Value) (w : World) (hE : E.At w v) (hne : E ≠ .nil) (hd : E.size ≤ 4294967296) (hlen : (withColons E.words).length ≤ lim) (hin : E.inner.size ≤ lim) :
    Calls Tryd.prog 50 #[v] w fun e w' => e = .returned (.string ⟨E.text.toArray⟩) ∧ Below w.heap.size w w' := by
  have HE := Lib.hid hE
  have HN := Lib.hid hne
  have hwl : E.words.length ≤ 4294967296 := Nat.le_trans (Err.words_le E) hd
  have HW := Lib.hid (Words_any E v (w.alloc (.cells #[.pointer none, .slice none 0 0] 128)) (hE.keep (bel_al (Below.refl _ _) _)) hd)
  obtain ⟨T, x, rfl⟩ := Err.At.iface_ hE hne
  clear hE hne
  go_enter Tryd.func50, Tryd.ntmps50
  go_wp2_with (go_at_call 48; refine HW.out.mono ?_; rintro ev w1 ⟨A, c, rfl, hown, hb1⟩)
  have hB1 : Bld w.heap.size w.heap.size [] w1 := Bld.fresh (by simpa using hb1)
  have hb2 : Below w.heap.size w w1 := (bel_al (Below.refl w.heap.size w) _).andThen hb1
  clear hb1
  have HI := Lib.hid hin
  clear hin
  have HL := Lib.hid hlen
  have HS := Lib.hid hown
  clear hlen hown hd
  go_loopw [12] (fun i wr => ∃ k : Nat, k ≤ E.words.length ∧ i = .int .i64 k ∧ Bld w.heap.size w.heap.size (withColons (E.words.take k)) wr ∧ Below w.heap.size w wr ∧ Hid (∃ base, wr.ownsRow base 9 1 (.slice A E.words.length c) E.words.length (E.words.map Value.string))) (fun i _ => E.words.length - (intOf i).toNat)
  case atStart => exact ⟨0, Nat.zero_le _, rfl, by simpa [withColons] using hB1, hb2, _, HS.out⟩
  case round =>
    obtain ⟨k, hk, rfl, hB, hb, HSl⟩ := hrel
    by_cases hlt : k < E.words.length
    · obtain ⟨base, hown⟩ := HSl.out
      obtain ⟨b, off, u, rfl, e1, c1⟩ := (Sl.of_own hown).one hlt
      rw [List.getElem?_map, List.getElem?_eq_getElem hlt] at e1
      obtain rfl := Option.some.inj e1
      have HT := Lib.hid (List.take_succ_eq_append_getElem hlt)
      have hle : (withColons (E.words.take (k + 1))).length ≤ lim := Nat.le_trans (withColons_take_le _ _) HL.out
      rw [HT.out, withColons_snoc] at hle
      generalize E.words[k] = wd at *
      simp only [List.length_append, List.length_cons, List.length_nil, Array.length_toList] at hle
      have hws : wd.size ≤ 140737488355328 := by have h1 : wd.data.size = wd.size := rfl; have h2 := lim_eq; omega
      have HO := Lib.hid hown
      have HB := Lib.hid hB
      clear hown e1 hB
      go_wp2_with (go_at_call 81; refine (WriteString_any _ _ _ _ _ HB.out (by rw [ByteArray.size_append]; show _ + (wd.size + 2) ≤ _; have : wd.data.size = wd.size := rfl; omega) hb.size).mono ?_; rintro ev w2 ⟨rfl, hB2, hb3, hk2⟩)
      go_roundw
      case rel =>
        refine ⟨k + 1, by omega, by go_num, ?_, hb.trans hb3, _, own_others HO.out hk2 HB.out (by decide) (by decide)⟩
        rw [HT.out, withColons_snoc]
        simpa using hB2
      case measure => simp [intOf]; omega
    · have hkk : k = E.words.length := by omega
      subst hkk
      rw [List.take_length] at hB
      have HB := Lib.hid hB
      have HU := Lib.hid (Unwrap_any E _ w wr HE.out hb)
      clear hB HW
      go_wp2_with (go_at_call 55; refine HU.out.mono ?_; rintro ev w2 ⟨v2, rfl, hv2, rfl⟩)
      have HV2 := Lib.hid hv2
      clear hv2
      go_loopg [0, 6] E.size (fun k e i wx => ∃ E' : Err, E'.At w e ∧ E'.out.At w i ∧ Hid (E' ≠ .nil) ∧ Hid (E'.core = E.core) ∧ E'.size = k ∧ wx = wr)
      case atStart => exact ⟨E, HE.out, HV2.out, HN.out, rfl, rfl, rfl⟩
      case round =>
        obtain ⟨E', hE', ho', HN', HC, hk', rfl⟩ := hrel
        have HK := Lib.hid hk'
        have HE' := Lib.hid hE'
        have HO' := Lib.hid ho'
        clear hk'
        cases E' with
        | nil => exact absurd rfl HN'.out
        | step wd e =>
          have hne' : e ≠ .nil := by obtain ⟨_, _, _, _, _, h⟩ := hE'; exact h
          obtain ⟨T2, x2, rfl⟩ := Err.At.iface_ ho' hne'
          have HNe := Lib.hid hne'
          have HU2 := Lib.hid (Unwrap_any e _ w _ HO'.out hb)
          clear hE' ho' hne'
          go_wp2_with (go_at_call 55; refine HU2.out.mono ?_; rintro ev w2 ⟨v3, rfl, hv3, rfl⟩)
          go_roundg e.size
          case measure => have := HK.out; simp only [Err.size] at this; omega
          case rel => exact ⟨e, HO'.out, hv3, HNe.out, HC.out, rfl, rfl⟩
        | flt c a s =>
          obtain ⟨g, rfl, hblk⟩ := hE'
          have c2 := (hblk.keep hb).cell 2
          have hblt := hblk.lt
          simp at c2
          obtain rfl : _ = Value.nilIface := ho'
          have hss : s.size ≤ 140737488355328 := by have h1 := HI.out; rw [← Err.core_inner, ← HC.out] at h1; exact h1
          have hbs : (⟨(withColons E.words).toArray⟩ : ByteArray).size ≤ 140737488355328 := by rw [size_of_list]; exact HL.out
          have HR := Lib.hid (show E.text = withColons E.words ++ s.data.toList by unfold Err.text; rw [← Err.core_inner, ← HC.out]; rfl)
          have m1 := fr_methodErrorF
          have m2 := fr_nilErrorF
          have HX := Lib.hid (String_any _ _ _ _ HB.out hb.size)
          clear hblk
          go_wp2_with fail
          refine HX.out.mono ?_
          rintro ev w2 ⟨rfl, hb3⟩
          have HF := Lib.hid (FaultError g s w2 ((hb3.cell (p := ⟨g, 2, none⟩) hblt).trans c2))
          go_wp2_with (go_at_call 115; refine HF.out.mono ?_; rintro ev w4 ⟨rfl, rfl⟩)
          go_ret
          refine ⟨?_, hb.trans hb3⟩
          rw [HR.out]
          exact ret_eq (congrArg Value.string (bytes_append _ _))
        | txt s =>
          obtain ⟨g, rfl, hblk⟩ := hE'
          have c2 := (hblk.keep hb).cell 0
          have hblt := hblk.lt
          simp at c2
          obtain rfl : _ = Value.nilIface := ho'
          have hss : s.size ≤ 140737488355328 := by have h1 := HI.out; rw [← Err.core_inner, ← HC.out] at h1; exact h1
          have hbs : (⟨(withColons E.words).toArray⟩ : ByteArray).size ≤ 140737488355328 := by rw [size_of_list]; exact HL.out
          have HR := Lib.hid (show E.text = withColons E.words ++ s.data.toList by unfold Err.text; rw [← Err.core_inner, ← HC.out]; rfl)
          have m1 := fr_methodErrorT
          have m2 := fr_nilErrorT
          have HX := Lib.hid (String_any _ _ _ _ HB.out hb.size)
          clear hblk
          go_wp2_with fail
          refine HX.out.mono ?_
          rintro ev w2 ⟨rfl, hb3⟩
          have HF := Lib.hid (TxtError g s w2 ((hb3.cell (p := ⟨g, 0, none⟩) hblt).trans c2))
          go_wp2_with (go_at_call 123; refine HF.out.mono ?_; rintro ev w4 ⟨rfl, rfl⟩)
          go_ret
          refine ⟨?_, hb.trans hb3⟩
          rw [HR.out]
          exact ret_eq (congrArg Value.string (bytes_append _ _))
end Go.Proofs.YtkhhjompondnnaaDoor
