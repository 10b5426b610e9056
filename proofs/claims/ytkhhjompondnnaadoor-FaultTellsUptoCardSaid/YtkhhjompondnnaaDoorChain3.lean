/-
  errors.Is at a fault, over chains; fault.In, errors.Unwrap, fault.First, fault.Words.
-/
import Derived.Test.YtkhhjompondnnaaDoorChain2
import Derived.BigQuiet
import Derived.Deep.QuietTactic
namespace Go.Proofs.YtkhhjompondnnaaDoor
open Go.RowKit Go.Extern.Stop Go.Stop Go.Extern
set_option maxRecDepth 100000

/-- Is a fault of the code c of the kind of a target (c2, a2, s2)? -/
def isB (c c2 a2 : Int) (s2 : ByteArray) : Bool := (c2 == c) && (a2 == 0) && s2.toList.isEmpty
def Err.isA (E : Err) (c2 a2 : Int) (s2 : ByteArray) : Bool := match E.flt? with | some (c, _, _) => isB c c2 a2 s2 | none => false

theorem eql_string_empty (s : ByteArray) : (s.toList == []) = s.toList.isEmpty := by cases s.toList <;> rfl

theorem fx_toFault (v : Value) (w : World) : (Instr.typeAssert (.iface 77 v) 26 77 true).run Tryd.prog w = .ok (.tuple #[v, .bool true]) w := by kernel_rfl

set_option maxHeartbeats 1000000 in
theorem FaultIs_calls (g g2 : Nat) (c a c2 a2 : Int) (s s2 : ByteArray) (w : World) (h1 : Blk w g 81 #[.int .i64 c, .int .i64 a, .string s]) (h2 : Blk w g2 81 #[.int .i64 c2, .int .i64 a2, .string s2]) :
    Calls Tryd.prog 116 #[.pointer (some ⟨g, 0, none⟩), .iface 77 (.pointer (some ⟨g2, 0, none⟩))] w fun e w' => e = .returned (.bool (isB c c2 a2 s2)) ∧ Below w.heap.size w w' := by
  have c0 := h1.cell 0
  have d0 := h2.cell 0
  have d1 := h2.cell 1
  have d2 := h2.cell 2
  simp at c0 d0 d1 d2
  clear h1 h2
  have hta := fx_toFault
  have hb := fun n => bel_drewN (Below.refl w.heap.size w) n
  have HB := Lib.hid hb
  clear hb
  by_cases e1 : c2 = c
  · subst e1
    by_cases e2 : a2 = 0
    · subst e2
      by_cases e3 : s2.toList.isEmpty = true
      · have HE := Lib.hid (show isB c2 c2 0 s2 = true by simp [isB, e3])
        go_enter Tryd.func116, Tryd.ntmps116
        go_wp2
        go_quiet (fail)
        go_wp2
        go_ret
        exact ⟨by rw [HE.out]; simp [e3], HB.out _⟩
      · have e3' : s2.toList.isEmpty = false := by simpa using e3
        have HE := Lib.hid (show isB c2 c2 0 s2 = false by simp [isB, e3'])
        go_enter Tryd.func116, Tryd.ntmps116
        go_wp2
        go_quiet (fail)
        go_wp2
        go_ret
        exact ⟨by rw [HE.out]; simp [e3'], HB.out _⟩
    · have e2' : (a2 == 0) = false := by simpa using e2
      have HE := Lib.hid (show isB c2 c2 a2 s2 = false by simp [isB, e2])
      go_enter Tryd.func116, Tryd.ntmps116
      go_wp2
      go_quiet (fail)
      go_wp2
      go_ret
      exact ⟨by rw [HE.out]; rfl, HB.out _⟩
  · have e1' : (c2 == c) = false := by simpa using e1
    have HE := Lib.hid (show isB c c2 a2 s2 = false by simp [isB, e1])
    clear e1
    go_enter Tryd.func116, Tryd.ntmps116
    go_wp2
    go_quiet (fail)
    go_wp2
    go_ret
    exact ⟨by rw [HE.out]; rfl, HB.out _⟩

theorem fi_compF : (Tryd.prog.info? 77).map (·.comparable) = some true := by kernel_rfl
theorem fi_sizeF : (Tryd.prog.info? 81).map (·.size) = some 3 := by kernel_rfl
theorem fi_hasIs (v : Value) (xT : TypeId) (w : World) : (Instr.typeAssert (.iface 77 v) xT 166 true).run Tryd.prog w = .ok (.tuple #[.iface 77 v, .bool true]) w := run_typeAssert_hasB Tryd.underlying166 (by kernel_rfl) v xT w
theorem fi_methodIs (v : Value) (w : World) : (Go.method 296 77 v "Is").run Tryd.prog w = .ok (116, v) w := by kernel_rfl
theorem fi_nilAheadIs (a : Addr) (w : World) : (nilAhead 296 77 (.pointer (some a)) "Is").run Tryd.prog w = .ok (some false) w := by kernel_rfl
theorem fi_noUnwrap (v : Value) (xT : TypeId) (w : World) : (Instr.typeAssert (.iface 77 v) xT 144 true).run Tryd.prog w = .ok (.tuple #[.nilIface, .bool false]) w := run_typeAssert_lacksB Tryd.underlying144 (by kernel_rfl) (by kernel_rfl) v xT w
theorem fi_noUnwraps (v : Value) (xT : TypeId) (w : World) : (Instr.typeAssert (.iface 77 v) xT 164 true).run Tryd.prog w = .ok (.tuple #[.nilIface, .bool false]) w := run_typeAssert_lacksB Tryd.underlying164 (by kernel_rfl) (by kernel_rfl) v xT w
theorem fi_noIsS (v : Value) (xT : TypeId) (w : World) : (Instr.typeAssert (.iface 122 v) xT 166 true).run Tryd.prog w = .ok (.tuple #[.nilIface, .bool false]) w := run_typeAssert_lacksB Tryd.underlying166 (by kernel_rfl) (by kernel_rfl) v xT w
theorem fi_noIsT (v : Value) (xT : TypeId) (w : World) : (Instr.typeAssert (.iface 149 v) xT 166 true).run Tryd.prog w = .ok (.tuple #[.nilIface, .bool false]) w := run_typeAssert_lacksB Tryd.underlying166 (by kernel_rfl) (by kernel_rfl) v xT w
theorem fi_typeOf (v : Value) (w : World) : (ReflectliteType.typeOf #[.iface 77 v]).run Tryd.prog w = .ok (.iface 157 (.agg #[.pointer (some ⟨1, 77, none⟩)])) w := by kernel_rfl
theorem fi_comparable (w : World) : ((ReflectliteType.method fun t => do Rtype.noPackHeld "Comparable" t; (fun a => Value.bool a.comparable) <$> typeInfo t) #[.agg #[.pointer (some ⟨1, 77, none⟩)]]).run Tryd.prog w = .ok (.bool true) w := by kernel_rfl
theorem fi_methodComparable (v : Value) (w : World) : (Go.method 296 157 v "Comparable").run Tryd.prog w = .ok (126, v) w := by kernel_rfl

set_option maxHeartbeats 2000000 in
theorem is_any (E : Err) (v : Value) (w0 w : World) (hE : E.At w0 v) (hw : Below w0.heap.size w0 w) (hne : E ≠ .nil) (g2 : Nat) (hg2 : w0.heap.size ≤ g2) (c2 a2 : Int) (s2 : ByteArray) (h2 : Blk w g2 81 #[.int .i64 c2, .int .i64 a2, .string s2]) :
    Calls Tryd.prog 88 #[v, .iface 77 (.pointer (some ⟨g2, 0, none⟩)), .bool true] w fun e w' => e = .returned (.bool (E.isA c2 a2 s2)) ∧ Below w.heap.size w w' := by
  obtain ⟨i, hi, hcmp⟩ := Option.map_eq_some_iff.1 fi_compF
  obtain ⟨j, hj, hjs⟩ := Option.map_eq_some_iff.1 fi_sizeF
  have hI := fi_hasIs
  have mI := fi_methodIs
  have uF := fi_noUnwrap
  have vF := fi_noUnwraps
  have nS := fi_noIsS
  have uS := fs_hasUnwrap
  have mS := fs_methodUnwrap
  have tyS := fun (x : Value) => run_eql_iface_types (P := Tryd.prog) 122 77 x (.pointer (some ⟨g2, 0, none⟩)) Tryd.underlying26 (by decide)
  have nT := fi_noIsT
  have uT := ft_noUnwrap
  have vT := ft_noUnwraps
  have tyT := fun (x : Value) => run_eql_iface_types (P := Tryd.prog) 149 77 x (.pointer (some ⟨g2, 0, none⟩)) Tryd.underlying26 (by decide)
  have HB := Lib.hid hw
  have H2 := Lib.hid h2
  have HI := Lib.hid hi
  have HC := Lib.hid hcmp
  have HJ := Lib.hid hj
  have HS := Lib.hid hjs
  clear hw h2 hi hcmp hj hjs
  go_enter Tryd.func88, Tryd.ntmps88
  go_wp2
  go_loopg [0] E.depth (fun k e wr => ∃ E' : Err, E'.At w0 e ∧ E'.depth = k ∧ Hid (E'.flt? = E.flt?) ∧ E' ≠ .nil ∧ wr = w)
  case atStart => exact ⟨E, hE, rfl, rfl, hne, rfl⟩
  case round =>
    obtain ⟨E', hE', hk, HE, hne', rfl⟩ := hrel
    clear hE hne
    cases E' with
    | nil => exact absurd rfl hne'
    | flt c a s =>
      obtain ⟨g, rfl, hblk⟩ := hE'
      have hlt := hblk.lt
      have heq := run_eql_iface_ptr_other (P := Tryd.prog) wr (a := ⟨g, 0, none⟩) (b := ⟨g2, 0, none⟩) Tryd.underlying26 Tryd.underlying77 HI.out HC.out HJ.out (by rw [HS.out]; decide) (by intro h; injection h; omega) (hblk.keep HB.out) H2.out
      have HF := Lib.hid (FaultIs_calls g g2 c a c2 a2 s s2 wr (hblk.keep HB.out) H2.out)
      clear hblk hk
      have HR := Lib.hid (show E.isA c2 a2 s2 = isB c c2 a2 s2 by unfold Err.isA; rw [← HE.out]; rfl)
      generalize isB c c2 a2 s2 = r at *
      cases r
      · go_wp2_with (go_at_call 116; refine HF.out.mono ?_; rintro ev w' ⟨rfl, hb'⟩)
        go_ret
        exact ⟨by rw [HR.out]; rfl, hb'⟩
      · go_wp2_with (go_at_call 116; refine HF.out.mono ?_; rintro ev w' ⟨rfl, hb'⟩)
        go_ret
        exact ⟨by rw [HR.out]; rfl, hb'⟩
    | txt s =>
      obtain ⟨g, rfl, hblk⟩ := hE'
      have HR := Lib.hid (show E.isA c2 a2 s2 = false by unfold Err.isA; rw [← HE.out]; rfl)
      clear hblk hk
      go_wp2
      go_ret
      exact ⟨by rw [HR.out]; rfl, Below.refl _ _⟩
    | step word e =>
      obtain ⟨g, v', rfl, hblk, hv', hnn⟩ := hE'
      have hc1 := (hblk.keep HB.out).cell 1
      simp at hc1
      have HV := Lib.hid hv'
      have HU := Lib.hid (stepUnwrap g v' _ hc1)
      obtain ⟨T, x, rfl⟩ := Err.At.iface_ hv' hnn
      have HK := Lib.hid hk
      have HN := Lib.hid hnn
      clear hblk hv' hk hc1 hnn hne'
      go_wp2_with (go_at_call 118; refine HU.out.mono ?_; rintro ev w' ⟨rfl, rfl⟩)
      go_roundg e.depth
      case measure => have := HK.out; simp only [Err.depth] at this; omega
      case rel => exact ⟨e, HV.out, rfl, HE.out, HN.out, rfl⟩
end Go.Proofs.YtkhhjompondnnaaDoor
