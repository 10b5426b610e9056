/-
  errors.Is, fault.Is, fault.In, errors.Unwrap, fault.First, fault.Words by contracts.
-/
import Derived.Test.YtkhhjompondnnaaDoorChain3
namespace Go.Proofs.YtkhhjompondnnaaDoor
open Go.RowKit Go.Extern.Stop Go.Stop Go.Extern
set_option maxRecDepth 100000

set_option maxHeartbeats 1000000 in
theorem errorsIs_any (E : Err) (v : Value) (w0 w : World) (hE : E.At w0 v) (hw : Below w0.heap.size w0 w) (g2 : Nat) (hg2 : w0.heap.size ≤ g2) (c2 a2 : Int) (s2 : ByteArray) (h2 : Blk w g2 81 #[.int .i64 c2, .int .i64 a2, .string s2]) :
    Calls Tryd.prog 57 #[v, .iface 77 (.pointer (some ⟨g2, 0, none⟩))] w fun e w' => e = .returned (.bool (E.isA c2 a2 s2)) ∧ Below w.heap.size w w' := by
  by_cases hne : E = .nil
  · subst hne
    obtain rfl : v = .nilIface := hE
    have hn := run_eql_iface_nil_left (P := Tryd.prog) w 77 (.pointer (some ⟨g2, 0, none⟩)) Tryd.underlying26
    clear h2
    go_enter Tryd.func57, Tryd.ntmps57
    go_wp2
    go_ret
    exact ⟨rfl, Below.refl _ _⟩
  · have HC := Lib.hid (is_any E v w0 w hE hw hne g2 hg2 c2 a2 s2 h2)
    obtain ⟨T, x, rfl⟩ := Err.At.iface_ hE hne
    have h87 := @run_callFunc_extern Tryd.prog 87 _ Extern.ReflectliteType.typeOf Tryd.func87 (by kernel_rfl) (by kernel_rfl) (by kernel_rfl) (by kernel_rfl)
    have h126 := @run_callFunc_extern Tryd.prog 126 _ (Extern.ReflectliteType.method fun t => do Rtype.noPackHeld "Comparable" t; pure (.bool (← typeInfo t).comparable)) Tryd.func126 (by kernel_rfl) (by kernel_rfl) (by kernel_rfl) (by kernel_rfl)
    have tT := fi_typeOf
    have mR := fi_methodComparable
    have cT := fi_comparable
    clear hE hw hne h2
    go_enter Tryd.func57, Tryd.ntmps57
    go_wp2_with (go_at_call 88; refine HC.out.mono ?_; rintro e w' ⟨rfl, hb⟩)
    go_ret
    exact ⟨rfl, hb⟩

theorem faultIs_any (E : Err) (v : Value) (w : World) (hE : E.At w v) (code : Int) :
    Calls Tryd.prog 49 #[v, .int .i64 code] w fun e w' => e = .returned (.bool (E.isA code 0 ⟨#[]⟩)) ∧ Below w.heap.size w w' := by
  have HC := Lib.hid (errorsIs_any E v w _ hE (bel_al (Below.refl _ _) _) w.heap.size (Nat.le_refl _) code 0 ⟨#[]⟩ (Blk.new w 81 #[.int .i64 code, .int .i64 0, .string ⟨#[]⟩]))
  clear hE
  go_enter Tryd.func49, Tryd.ntmps49
  go_wp2_with (go_at_call 57; refine HC.out.mono ?_; rintro e w' ⟨rfl, hb⟩)
  go_ret
  exact ⟨rfl, (bel_al (Below.refl _ _) _).andThen hb⟩

/-- A step around an error. -/
def Err.in_ (word : ByteArray) : Err → Err
  | .nil => .nil
  | e => .step word e
def Err.out : Err → Err
  | .step _ e => e
  | _ => .nil
def Err.words : Err → List ByteArray
  | .step w e => w :: e.words
  | _ => []
def Err.first : List Err → Err
  | [] => .nil
  | .nil :: l => Err.first l
  | e :: _ => e
theorem Err.in_of {E : Err} (h : E ≠ .nil) (word : ByteArray) : E.in_ word = .step word E := by cases E <;> first | exact absurd rfl h | rfl
theorem Err.first_cons {E : Err} (h : E ≠ .nil) (l : List Err) : Err.first (E :: l) = E := by cases E <;> first | exact absurd rfl h | rfl

theorem In_any (word : ByteArray) (E : Err) (v : Value) (w : World) (hE : E.At w v) :
    Calls Tryd.prog 54 #[.string word, v] w fun e w' => ∃ v', e = .returned v' ∧ (E.in_ word).At w' v' ∧ Below w.heap.size w w' := by
  by_cases hne : E = .nil
  · subst hne
    obtain rfl : v = .nilIface := hE
    go_enter Tryd.func54, Tryd.ntmps54
    go_wp2
    go_ret
    exact ⟨_, rfl, rfl, Below.refl _ _⟩
  · have HE := Lib.hid hE
    have HN := Lib.hid hne
    obtain ⟨T, x, rfl⟩ := Err.At.iface_ hE hne
    clear hE hne
    go_enter Tryd.func54, Tryd.ntmps54
    go_wp2
    go_ret
    have hb := bel_al (Below.refl w.heap.size w) (.cells #[.string word, .iface T x] 125)
    refine ⟨_, rfl, ?_, hb⟩
    rw [Err.in_of HN.out]
    exact ⟨_, _, rfl, Blk.new _ _ _, HE.out.keep hb, HN.out⟩

theorem fu_nil (xT : TypeId) (w : World) : (Instr.typeAssert .nilIface xT 144 true).run Tryd.prog w = .ok (.tuple #[.nilIface, .bool false]) w := by kernel_rfl
theorem Unwrap_any (E : Err) (v : Value) (w0 w : World) (hE : E.At w0 v) (hw : Below w0.heap.size w0 w) :
    Calls Tryd.prog 55 #[v] w fun e w' => ∃ v', e = .returned v' ∧ E.out.At w0 v' ∧ w = w' := by
  have HB := Lib.hid hw
  clear hw
  have n0 := fu_nil
  have uF := fi_noUnwrap
  have uS := fs_hasUnwrap
  have mS := fs_methodUnwrap
  cases E with
  | nil =>
    obtain rfl : v = .nilIface := hE
    go_enter Tryd.func55, Tryd.ntmps55
    go_wp2
    go_ret
    exact ⟨_, rfl, rfl, rfl⟩
  | flt c a s =>
    obtain ⟨g, rfl, hblk⟩ := hE
    clear hblk
    go_enter Tryd.func55, Tryd.ntmps55
    go_wp2
    go_ret
    exact ⟨_, rfl, rfl, rfl⟩
  | txt s =>
    obtain ⟨g, rfl, hblk⟩ := hE
    have uT := ft_noUnwrap
    clear hblk
    go_enter Tryd.func55, Tryd.ntmps55
    go_wp2
    go_ret
    exact ⟨_, rfl, rfl, rfl⟩
  | step word e =>
    obtain ⟨g, v', rfl, hblk, hv', hnn⟩ := hE
    have hc1 := (hblk.keep HB.out).cell 1
    simp at hc1
    have HV := Lib.hid hv'
    have HU := Lib.hid (stepUnwrap g v' _ hc1)
    clear hblk hv' hc1 hnn
    go_enter Tryd.func55, Tryd.ntmps55
    go_wp2_with (go_at_call 118; refine HU.out.mono ?_; rintro ev w' ⟨rfl, rfl⟩)
    go_ret
    exact ⟨_, rfl, HV.out, rfl⟩

/-- Errors and their values, one by one. -/
def Err.AtAll (w : World) : List Err → List Value → Prop
  | [], vs => vs = []
  | E :: Es, vs => ∃ v vs', vs = v :: vs' ∧ E.At w v ∧ Err.AtAll w Es vs'
theorem Err.AtAll.len {w : World} : ∀ {Es : List Err} {vs : List Value}, Err.AtAll w Es vs → vs.length = Es.length
  | [], _, h => by rw [show _ = [] from h]; rfl
  | _ :: _, _, ⟨_, _, h1, _, h3⟩ => by rw [h1, List.length_cons, List.length_cons, h3.len]
theorem Err.AtAll.at_ {w : World} : ∀ {Es : List Err} {vs : List Value}, Err.AtAll w Es vs → ∀ (k : Nat) (E : Err), Es[k]? = some E → ∃ v, vs[k]? = some v ∧ E.At w v
  | [], _, _, k, E, h => by simp at h
  | _ :: _, _, ⟨v, _, h1, h2, _⟩, 0, E, h => by
    simp at h
    subst h
    exact ⟨v, by rw [h1]; rfl, h2⟩
  | _ :: _, _, ⟨_, _, h1, _, h3⟩, k + 1, E, h => by
    obtain ⟨v, hv, hE⟩ := h3.at_ k E (by simpa using h)
    exact ⟨v, by rw [h1]; simpa using hv, hE⟩
theorem Err.AtAll.keep {w w' : World} (hb : Below w.heap.size w w') : ∀ {Es : List Err} {vs : List Value}, Err.AtAll w Es vs → Err.AtAll w' Es vs
  | [], _, h => h
  | _ :: _, _, ⟨v, vs', h1, h2, h3⟩ => ⟨v, vs', h1, h2.keep hb, h3.keep hb⟩

set_option maxHeartbeats 1000000 in
theorem First_any (Es : List Err) (vs : List Value) (A : Option Addr) (n c : Nat) (w : World) (hn : n ≤ 4294967296) (hl : Es.length = n) (hE : Err.AtAll w Es vs) (hs : Sl w 1 A n vs) :
    Calls Tryd.prog 56 #[.slice A n c] w fun e w' => ∃ v', e = .returned v' ∧ (Err.first Es).At w v' ∧ w = w' := by
  go_enter Tryd.func56, Tryd.ntmps56
  go_wp2
  go_loop [7] (fun i => ∃ k : Nat, k ≤ n ∧ i = .int .i64 k ∧ Hid (Err.first Es = Err.first (Es.drop k))) (fun i => n - (intOf i).toNat)
  case atStart => exact ⟨0, Nat.zero_le _, rfl, rfl⟩
  case round =>
    obtain ⟨k, hk, rfl, HF⟩ := hrel
    by_cases hlt : k < n
    · have hl' : k < Es.length := by omega
      obtain ⟨b, off, u, rfl, e1, c1⟩ := hs.one hlt
      obtain ⟨v, e2, hv⟩ := hE.at_ k Es[k] (List.getElem?_eq_getElem hl')
      obtain rfl : u = v := Option.some.inj (e1.symm.trans e2)
      have HD := Lib.hid (List.drop_eq_getElem_cons hl')
      have HV := Lib.hid hv
      clear e1 e2 hE hs hl
      by_cases hz : Es[k] = .nil
      · rw [hz] at hv
        obtain rfl : u = .nilIface := hv
        have HZ := Lib.hid hz
        clear hz
        go_wp2
        go_round
        case rel => exact ⟨k + 1, by omega, by go_num, by show _ = _; rw [HF.out, HD.out, HZ.out]; rfl⟩
        case measure => simp [intOf]; omega
      · obtain ⟨T, x, rfl⟩ := Err.At.iface_ hv hz
        have HZ := Lib.hid hz
        clear hv hz
        go_wp2
        go_ret
        exact ⟨_, rfl, by rw [HF.out, HD.out, Err.first_cons HZ.out]; exact HV.out, rfl⟩
    · have HD := Lib.hid (show Es.drop k = [] from List.drop_eq_nil_of_le (by omega))
      clear hl hE hs
      go_wp2
      go_ret
      exact ⟨_, rfl, by rw [HF.out, HD.out]; rfl, rfl⟩
end Go.Proofs.YtkhhjompondnnaaDoor
