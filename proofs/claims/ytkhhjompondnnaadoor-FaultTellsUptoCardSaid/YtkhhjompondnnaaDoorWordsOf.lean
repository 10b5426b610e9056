/-
  fault.Words over chains.
-/
import Derived.Test.YtkhhjompondnnaaDoorChain4
namespace Go.Proofs.YtkhhjompondnnaaDoor
open Go.RowKit Go.Extern.Stop Go.Stop Go.Extern
set_option maxRecDepth 100000

theorem elemStr : Elem Tryd.prog 71 9 (.string ⟨#[]⟩) 1 16 := ⟨Tryd.underlying71, by kernel_rfl, rfl, by decide⟩
theorem fw_isStep (v : Value) (w : World) : (Instr.typeAssert (.iface 122 v) 26 122 true).run Tryd.prog w = .ok (.tuple #[v, .bool true]) w := by kernel_rfl
theorem fw_isntStepF (v : Value) (w : World) : (Instr.typeAssert (.iface 77 v) 26 122 true).run Tryd.prog w = .ok (.tuple #[.pointer none, .bool false]) w := by kernel_rfl
theorem fw_isntStepT (v : Value) (w : World) : (Instr.typeAssert (.iface 149 v) 26 122 true).run Tryd.prog w = .ok (.tuple #[.pointer none, .bool false]) w := by kernel_rfl

def Err.size : Err → Nat
  | .nil => 0
  | .step _ e => e.size + 1
  | _ => 1
theorem Err.words_le : ∀ E : Err, E.words.length ≤ E.size
  | .nil => Nat.le_refl _
  | .flt _ _ _ => by simp [Err.words]
  | .txt _ => by simp [Err.words]
  | .step _ e => by have := Err.words_le e; simp only [Err.words, List.length_cons, Err.size]; omega

set_option maxHeartbeats 2000000 in
theorem Words_any (E : Err) (v : Value) (w : World) (hE : E.At w v) (hd : E.size ≤ 4294967296) :
    Calls Tryd.prog 48 #[v] w fun e w' => ∃ A c, e = .returned (.slice A E.words.length c) ∧ w'.ownsRow w.heap.size 9 1 (.slice A E.words.length c) E.words.length (E.words.map Value.string) ∧ Below w.heap.size w w' := by
  have iS := fw_isStep
  have iF := fw_isntStepF
  have iT := fw_isntStepT
  have HD := Lib.hid hd
  have HL := Lib.hid (Err.words_le E)
  go_enter Tryd.func48, Tryd.ntmps48
  go_wp2
  go_loopg [0, 3] E.size (fun k e l wr => ∃ (E' : Err) (done : List ByteArray), E'.At w e ∧ E'.size = k ∧ Hid (E.words = done ++ E'.words) ∧ wr.ownsRow w.heap.size 9 1 l done.length (done.map Value.string) ∧ Below w.heap.size w wr)
  case atStart => exact ⟨E, [], hE, rfl, rfl, World.ownsRow_nil _ _ _ _, Below.refl _ _⟩
  case round =>
    obtain ⟨E', done, hE', hk, HW, hown, hb⟩ := hrel
    have hlen : done.length ≤ 4294967296 := by have := HD.out; have := HL.out; have := congrArg List.length HW.out; simp only [List.length_append] at this; omega
    have HK := Lib.hid hk
    clear hE hk hd
    have HU := Lib.hid (Unwrap_any E' _ w wr hE' hb)
    have HE := Lib.hid hE'
    cases E' with
    | nil =>
      obtain rfl : _ = Value.nilIface := hE'
      have hw : done = E.words := by have := HW.out; simpa [Err.words] using this.symm
      subst hw
      obtain ⟨A, c, rfl, hsl⟩ := Sl.own hown
      have HS := Lib.hid hown
      clear hown hsl
      go_wp2
      go_ret
      exact ⟨A, c, rfl, HS.out, hb⟩
    | flt c a s =>
      obtain ⟨g, rfl, hblk⟩ := hE'
      clear hblk
      have h2 : Err.nil.At wr .nilIface := rfl
      go_wp2_with (go_at_call 55; refine HU.out.mono ?_; rintro ev w' ⟨v', rfl, hv', rfl⟩)
      obtain rfl : v' = .nilIface := hv'
      go_roundg 0
      case measure => have := HK.out; simp only [Err.size] at this; omega
      case rel => exact ⟨.nil, done, rfl, rfl, by show _ = _; rw [HW.out]; rfl, hown, hb⟩
    | txt s =>
      obtain ⟨g, rfl, hblk⟩ := hE'
      clear hblk
      go_wp2_with (go_at_call 55; refine HU.out.mono ?_; rintro ev w' ⟨v', rfl, hv', rfl⟩)
      obtain rfl : v' = .nilIface := hv'
      go_roundg 0
      case measure => have := HK.out; simp only [Err.size] at this; omega
      case rel => exact ⟨.nil, done, rfl, rfl, by show _ = _; rw [HW.out]; rfl, hown, hb⟩
    | step word e =>
      clear HU
      obtain ⟨g, v', rfl, hblk, hv', hnn⟩ := hE'
      have hc0 := (hblk.keep hb).cell 0
      simp at hc0
      have HV := Lib.hid hv'
      clear hblk hv' hnn
      go_wp2_with (first | (at_builtin; refine wpList_push elemStr _ _ rfl rfl hown hb (Nat.le_refl _) rfl rfl rfl (by simp [Value.oneCell']) (by unfold lim; omega) (by unfold lim; omega) ?_; intro l' w1 hown1 hb1) | (go_at_call 55; refine (Unwrap_any (.step word e) _ w _ HE.out (by assumption)).mono ?_; rintro ev w' ⟨v2, rfl, hv2, rfl⟩))
      go_roundg e.size
      case measure => have := HK.out; simp only [Err.size] at this; omega
      case rel => exact ⟨e, done ++ [word], hv2, rfl, by show _ = _; rw [HW.out]; simp [Err.words], by simpa using hown1, hb1⟩
end Go.Proofs.YtkhhjompondnnaaDoor
