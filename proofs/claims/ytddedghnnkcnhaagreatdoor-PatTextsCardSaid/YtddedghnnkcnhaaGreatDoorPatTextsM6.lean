/-
  Part 6 of the proof of PatTexts: Chain, Chain2, WireA, WireB.
-/
import Derived.Test.YtddedghnnkcnhaaGreatDoorPatTextsM1
import Derived.Deep.LoopGhost
import Derived.Test.YtddedghnnkcnhaaGreatDoorPatTextsM2
import Derived.Deep.DeepCutAuto
import Derived.BigQuiet
import Derived.Deep.QuietTactic
/-
  Chains of errors: errors.As at *api.Fault, errors.Is at a fault, errors.Unwrap, and the fault package's functions over whole chains.
-/
namespace Go.Proofs.YtddedghnnkcnhaaGreatDoor
open Go.RowKit Go.Extern.Stop Go.Stop Go.Extern

def Err.depth : Err → Nat
  | .step _ e => e.depth + 1
  | _ => 0
def Err.flt? : Err → Option (Int × Int × ByteArray)
  | .flt c a s => some (c, a, s)
  | .step _ e => e.flt?
  | _ => none
theorem Err.code_of : ∀ (E : Err), E ≠ .nil → (∀ w v, E.At w v → E.code = match E.flt? with | some (c, _, _) => c | none => -1)
  | .nil, h, _, _, _ => absurd rfl h
  | .flt _ _ _, _, _, _, _ => rfl
  | .txt _, _, _, _, _ => rfl
  | .step _ e, _, w, _, ⟨_, v', _, _, h3, h4⟩ => Err.code_of e h4 w v' h3
theorem Err.at_of : ∀ (E : Err), E.at_ = match E.flt? with | some (_, a, _) => a | none => 0
  | .nil => rfl
  | .flt _ _ _ => rfl
  | .txt _ => rfl
  | .step _ e => Err.at_of e

theorem fs_typeOf (v : Value) (w : World) : (ReflectliteType.typeOf #[.iface 213 v]).run Tryz.prog w = .ok (.iface 291 (.agg #[.pointer (some ⟨14, 213, none⟩)])) w := by kernel_rfl
theorem fs_assignable (w : World) : (ReflectliteType.relation "AssignableTo" ReflectliteType.assignableTo #[.agg #[.pointer (some ⟨14, 213, none⟩)], .iface 291 (.agg #[.pointer (some ⟨14, 145, none⟩)])]).run Tryz.prog w = .ok (.bool false) w := by kernel_rfl
theorem fs_noAs (v : Value) (xT : TypeId) (w : World) : (Instr.typeAssert (.iface 213 v) xT 296 true).run Tryz.prog w = .ok (.tuple #[.nilIface, .bool false]) w := run_typeAssert_lacksB Tryz.underlying296 (by kernel_rfl) (by kernel_rfl) v xT w
theorem fs_hasUnwrap (v : Value) (xT : TypeId) (w : World) : (Instr.typeAssert (.iface 213 v) xT 277 true).run Tryz.prog w = .ok (.tuple #[.iface 213 v, .bool true]) w := run_typeAssert_hasB Tryz.underlying277 (by kernel_rfl) v xT w
theorem fs_methodUnwrap (v : Value) (w : World) : (Go.method 486 213 v "Unwrap").run Tryz.prog w = .ok (314, v) w := by kernel_rfl
theorem ft_typeOf (v : Value) (w : World) : (ReflectliteType.typeOf #[.iface 347 v]).run Tryz.prog w = .ok (.iface 291 (.agg #[.pointer (some ⟨14, 347, none⟩)])) w := by kernel_rfl
theorem ft_assignable (w : World) : (ReflectliteType.relation "AssignableTo" ReflectliteType.assignableTo #[.agg #[.pointer (some ⟨14, 347, none⟩)], .iface 291 (.agg #[.pointer (some ⟨14, 145, none⟩)])]).run Tryz.prog w = .ok (.bool false) w := by kernel_rfl
theorem ft_noAs (v : Value) (xT : TypeId) (w : World) : (Instr.typeAssert (.iface 347 v) xT 296 true).run Tryz.prog w = .ok (.tuple #[.nilIface, .bool false]) w := run_typeAssert_lacksB Tryz.underlying296 (by kernel_rfl) (by kernel_rfl) v xT w
theorem ft_noUnwrap (v : Value) (xT : TypeId) (w : World) : (Instr.typeAssert (.iface 347 v) xT 277 true).run Tryz.prog w = .ok (.tuple #[.nilIface, .bool false]) w := run_typeAssert_lacksB Tryz.underlying277 (by kernel_rfl) (by kernel_rfl) v xT w
theorem ft_noUnwraps (v : Value) (xT : TypeId) (w : World) : (Instr.typeAssert (.iface 347 v) xT 299 true).run Tryz.prog w = .ok (.tuple #[.nilIface, .bool false]) w := run_typeAssert_lacksB Tryz.underlying299 (by kernel_rfl) (by kernel_rfl) v xT w

theorem stepUnwrap (g : Nat) (v' : Value) (w : World) (hc : w.cell? ⟨g, 1, none⟩ = some v') :
    Calls Tryz.prog 314 #[.pointer (some ⟨g, 0, none⟩)] w fun e w' => e = .returned v' ∧ w = w' := by
  go_enter Tryz.func314, Tryz.ntmps314
  go_wp2
  go_ret
  exact ⟨rfl, rfl⟩

/-- What errors.as leaves: the target is set to the chain's first fault; or the chain has none. -/
def AsPost (E : Err) (w0 w1 : World) (t : Addr) (ev : Ending) (w' : World) : Prop :=
  (∃ c a s g, E.flt? = some (c, a, s) ∧ ev = .returned (.bool true) ∧ Blk w0 g 148 #[.int .i64 c, .int .i64 a, .string s] ∧ (w1.alloc (.cells #[.pointer (some ⟨g, 0, none⟩)] 145)).setCell t (.pointer (some ⟨g, 0, none⟩)) = w') ∨
  (E.flt? = none ∧ ev = .returned (.bool false) ∧ w1 = w')

theorem Err.At.iface_ {w : World} {E : Err} {v : Value} (h : E.At w v) (hne : E ≠ .nil) : ∃ T x, v = .iface T x := by
  cases E with
  | nil => exact absurd rfl hne
  | flt c a s => obtain ⟨g, rfl, _⟩ := h; exact ⟨_, _, rfl⟩
  | step w e => obtain ⟨g, _, rfl, _⟩ := h; exact ⟨_, _, rfl⟩
  | txt s => obtain ⟨g, rfl, _⟩ := h; exact ⟨_, _, rfl⟩

set_option maxHeartbeats 2000000 in
theorem as_any (E : Err) (v : Value) (w0 w : World) (hE : E.At w0 v) (hw : Below w0.heap.size w0 w) (hne : E ≠ .nil) (t b : Addr) (old : Value) (hb0 : w.cell? b = some (.pointer (some t))) (ht0 : w.cell? t = some old) (hf0 : w.frozen? t = false) :
    Calls Tryz.prog 208 #[v, .iface 217 (.pointer (some t)), .agg #[.pointer (some ⟨14, 217, none⟩), .pointer (some b), .int .u64 150], .iface 291 (.agg #[.pointer (some ⟨14, 145, none⟩)])] w
      (AsPost E w0 (w.alloc (.cells #[.pointer (some ⟨14, 217, none⟩), .pointer (some b), .int .u64 150] 254)) t) := by
  have h83 := @run_callFunc_extern Tryz.prog 205 _ (fun args => ReflectliteValue.unpack (args.getD 0 (.tuple #[]))) Tryz.func205 (by kernel_rfl) (by kernel_rfl) (by kernel_rfl) (by kernel_rfl)
  have h87 := @run_callFunc_extern Tryz.prog 239 _ ReflectliteType.typeOf Tryz.func239 (by kernel_rfl) (by kernel_rfl) (by kernel_rfl) (by kernel_rfl)
  have h125 := @run_callFunc_extern Tryz.prog 319 _ (ReflectliteType.relation "AssignableTo" ReflectliteType.assignableTo) Tryz.func319 (by kernel_rfl) (by kernel_rfl) (by kernel_rfl) (by kernel_rfl)
  have h95 := @run_callFunc_extern Tryz.prog 240 _ (ReflectliteValue.method (ReflectliteValue.valueError "reflectlite.Value.Elem" 0) ReflectliteValue.elem) Tryz.func240 (by kernel_rfl) (by kernel_rfl) (by kernel_rfl) (by kernel_rfl)
  have h96 := @run_callFunc_extern Tryz.prog 241 _ ReflectliteValue.set Tryz.func241 (by kernel_rfl) (by kernel_rfl) (by kernel_rfl) (by kernel_rfl)
  have tO := fx_typeOf
  have mA := fx_methodAssignableTo
  have aP := fx_assignable
  have vP := fx_valueOfP
  have tS := fs_typeOf
  have aS := fs_assignable
  have nS := fs_noAs
  have uS := fs_hasUnwrap
  have mS := fs_methodUnwrap
  have tT := ft_typeOf
  have aT := ft_assignable
  have nT := ft_noAs
  have uT := ft_noUnwrap
  have vT := ft_noUnwraps
  have htl := World.block_lt_of_cell? w t ht0
  have hbl := World.block_lt_of_cell? w b hb0
  have el := fx_elemV b t (w.alloc (.cells #[.pointer (some ⟨14, 217, none⟩), .pointer (some b), .int .u64 150] 254)) (by rw [World.cell?_alloc_lt _ _ b hbl]; exact hb0)
  have st := fun e => fx_set t ⟨w.heap.size + 1, 0, none⟩ e old ((w.alloc (.cells #[.pointer (some ⟨14, 217, none⟩), .pointer (some b), .int .u64 150] 254)).alloc (.cells #[.pointer (some e)] 145))
    (by rw [World.cell?_alloc_at _ _ _ _ (by simp)]; rfl)
    (by rw [World.cell?_alloc_lt _ _ t (by simp; omega), World.cell?_alloc_lt _ _ t htl]; exact ht0)
    (by rw [World.frozen?_alloc_old _ _ t (by simp; omega), World.frozen?_alloc_old _ _ t (Nat.ne_of_lt htl)]; exact hf0)
  have HB := Lib.hid (bel_al hw (.cells #[.pointer (some ⟨14, 217, none⟩), .pointer (some b), .int .u64 150] 254))
  clear hb0 ht0 hf0 hw
  go_enter Tryz.func208, Tryz.ntmps208
  go_wp2
  go_loopg [0] E.depth (fun k e wr => ∃ E' : Err, E'.At w0 e ∧ E'.depth = k ∧ Hid (E'.flt? = E.flt?) ∧ E' ≠ .nil ∧ wr = w.alloc (.cells #[.pointer (some ⟨14, 217, none⟩), .pointer (some b), .int .u64 150] 254))
  case atStart => exact ⟨E, hE, rfl, rfl, hne, rfl⟩
  case round =>
    obtain ⟨E', hE', hk, HE, hne', rfl⟩ := hrel
    clear hE hne
    cases E' with
    | nil => exact absurd rfl hne'
    | flt c a s =>
      obtain ⟨g, rfl, hblk⟩ := hE'
      have st' := st ⟨g, 0, none⟩
      have HK := Lib.hid hblk
      clear hblk st
      go_wp2
      go_ret
      exact .inl ⟨c, a, s, g, HE.out.symm, rfl, HK.out, rfl⟩
    | txt s =>
      obtain ⟨g, rfl, hblk⟩ := hE'
      clear hblk st
      go_wp2
      go_ret
      exact .inr ⟨HE.out.symm, rfl, rfl⟩
    | step word e =>
      obtain ⟨g, v', rfl, hblk, hv', hnn⟩ := hE'
      have hc1 := (hblk.keep HB.out).cell 1
      simp at hc1
      have HV := Lib.hid hv'
      have HU := Lib.hid (stepUnwrap g v' _ hc1)
      obtain ⟨T, x, rfl⟩ := Err.At.iface_ hv' hnn
      have HK := Lib.hid hk
      have HN := Lib.hid hnn
      clear hblk st hv' hk hc1 hnn hne'
      go_wp2_with (go_at_call 314; refine HU.out.mono ?_; rintro ev w' ⟨rfl, rfl⟩)
      go_roundg e.depth
      case measure => have := HK.out; simp only [Err.depth] at this; omega
      case rel => exact ⟨e, HV.out, rfl, HE.out, HN.out, rfl⟩
end Go.Proofs.YtddedghnnkcnhaaGreatDoor
/-
  The fault package over whole chains: errors.As, fault.fault, fault.Code, fault.At.
-/
namespace Go.Proofs.YtddedghnnkcnhaaGreatDoor
open Go.RowKit Go.Extern.Stop Go.Stop Go.Extern

set_option maxHeartbeats 2000000 in
theorem As_any (E : Err) (v : Value) (w0 w : World) (hE : E.At w0 v) (hw : Below w0.heap.size w0 w) (hne : E ≠ .nil) (t : Addr) (old : Value) (hg : w.cell? ⟨0, 0, none⟩ = some (.iface 291 (.agg #[.pointer (some ⟨14, 42, none⟩)]))) (ht0 : w.cell? t = some old) (hf0 : w.frozen? t = false) :
    Calls Tryz.prog 163 #[v, .iface 217 (.pointer (some t))] w fun ev w' => ∃ W W1, AsPost E w0 W1 t ev w' ∧ W = ((w.alloc (.cells #[.pointer (some t)] 217)).alloc (.cells #[.pointer (some ⟨14, 217, none⟩), .pointer (some ⟨w.heap.size, 0, none⟩), .int .u64 150] 254)) ∧ W1 = W.alloc (.cells #[.pointer (some ⟨14, 217, none⟩), .pointer (some ⟨w.heap.size, 0, none⟩), .int .u64 150] 254) := by
  have h83 := @run_callFunc_extern Tryz.prog 205 _ (fun args => ReflectliteValue.unpack (args.getD 0 (.tuple #[]))) Tryz.func205 (by kernel_rfl) (by kernel_rfl) (by kernel_rfl) (by kernel_rfl)
  have h84 := @run_callFunc_extern Tryz.prog 206 _ (ReflectliteValue.methodAny (ReflectliteValue.valueError "reflectlite.Value.Type" 0) (fun t _ _ _ => ReflectliteType.toType t)) Tryz.func206 (by kernel_rfl) (by kernel_rfl) (by kernel_rfl) (by kernel_rfl)
  have h85 := @run_callFunc_extern Tryz.prog 207 _ (ReflectliteValue.method (ReflectliteValue.valueError "reflectlite.Value.IsNil" 0) ReflectliteValue.isNil) Tryz.func207 (by kernel_rfl) (by kernel_rfl) (by kernel_rfl) (by kernel_rfl)
  have h112 := @run_callFunc_extern Tryz.prog 307 _ (ReflectliteType.abiMethod fun t => do pure (.int .u8 (← Rtype.kind t))) Tryz.func307 (by kernel_rfl) (by kernel_rfl) (by kernel_rfl) (by kernel_rfl)
  have h127 := @run_callFunc_extern Tryz.prog 321 _ (ReflectliteType.method ReflectliteType.elem) Tryz.func321 (by kernel_rfl) (by kernel_rfl) (by kernel_rfl) (by kernel_rfl)
  have h128 := @run_callFunc_extern Tryz.prog 322 _ (ReflectliteType.relation "Implements" ReflectliteType.implements_) Tryz.func322 (by kernel_rfl) (by kernel_rfl) (by kernel_rfl) (by kernel_rfl)
  have f83 := fx_valueOf
  have f84 := fx_type
  have mK := fx_methodKind
  have mE := fx_methodElem
  have mI := fx_methodImplements
  have kPP := fx_kindPP
  have kP := fx_kindP
  have eP := fx_elem
  have iP := fx_implements
  have hlt : 0 < w.heap.size := World.block_lt_of_cell? w _ hg
  have htl := World.block_lt_of_cell? w t ht0
  have n8 := fx_isNil ⟨w.heap.size, 0, none⟩ t ((w.alloc (.cells #[.pointer (some t)] 217)).alloc (.cells #[.pointer (some ⟨14, 217, none⟩), .pointer (some ⟨w.heap.size, 0, none⟩), .int .u64 150] 254)) (by simp)
  have hg2 : ((w.alloc (.cells #[.pointer (some t)] 217)).alloc (.cells #[.pointer (some ⟨14, 217, none⟩), .pointer (some ⟨w.heap.size, 0, none⟩), .int .u64 150] 254)).cell? ⟨0, 0, none⟩ = some (.iface 291 (.agg #[.pointer (some ⟨14, 42, none⟩)])) := by
    rw [World.cell?_alloc_lt _ _ ⟨0, 0, none⟩ (by simp <;> omega), World.cell?_alloc_lt _ _ ⟨0, 0, none⟩ hlt]; exact hg
  have hin := as_any E v w0 ((w.alloc (.cells #[.pointer (some t)] 217)).alloc (.cells #[.pointer (some ⟨14, 217, none⟩), .pointer (some ⟨w.heap.size, 0, none⟩), .int .u64 150] 254)) hE (bel_al (bel_al hw _) _) hne t ⟨w.heap.size, 0, none⟩ old
    (by rw [World.cell?_alloc_lt _ _ ⟨w.heap.size, 0, none⟩ (by simp)]; simp)
    (by rw [World.cell?_alloc_lt _ _ t (by simp; omega), World.cell?_alloc_lt _ _ t htl]; exact ht0)
    (by rw [World.frozen?_alloc_old _ _ t (by simp; omega), World.frozen?_alloc_old _ _ t (Nat.ne_of_lt htl)]; exact hf0)
  have HIN := Lib.hid hin
  obtain ⟨T, x, rfl⟩ := Err.At.iface_ hE hne
  clear hin hE hne ht0 hf0 hw
  go_enter Tryz.func163, Tryz.ntmps163
  go_wp2_with (go_at_call 208; refine HIN.out.mono ?_)
  intro ev w' hp
  have HP := Lib.hid hp
  rcases hp with ⟨c, a, s, g, h1, rfl, h2, rfl⟩ | ⟨h1, rfl, rfl⟩
  · clear h1 h2
    go_wp2
    go_ret
    exact ⟨_, _, HP.out, rfl, rfl⟩
  · clear h1
    go_wp2
    go_ret
    exact ⟨_, _, HP.out, rfl, rfl⟩

/-- What errors.As leaves, its target the one cell t. -/
def AsDone (E : Err) (w0 w : World) (t : Addr) (old : Value) (ev : Ending) (w' : World) : Prop :=
  Below t.block w w' ∧
  ((∃ c a s g, E.flt? = some (c, a, s) ∧ ev = .returned (.bool true) ∧ Blk w0 g 148 #[.int .i64 c, .int .i64 a, .string s] ∧ w'.cell? t = some (.pointer (some ⟨g, 0, none⟩))) ∨
   (E.flt? = none ∧ ev = .returned (.bool false) ∧ w'.cell? t = some old))

theorem As_done (E : Err) (v : Value) (w0 w : World) (hE : E.At w0 v) (hw : Below w0.heap.size w0 w) (t : Addr) (old : Value) (hg : ErrT w) (ht0 : w.cell? t = some old) (hf0 : w.frozen? t = false) :
    Calls Tryz.prog 163 #[v, .iface 217 (.pointer (some t))] w (AsDone E w0 w t old) := by
  have htl := World.block_lt_of_cell? w t ht0
  by_cases hne : E = .nil
  · subst hne
    obtain rfl : v = .nilIface := hE
    refine (as_nil _ _).mono ?_
    rintro ev w' ⟨rfl, rfl⟩
    exact ⟨Below.refl _ _, .inr ⟨rfl, rfl, ht0⟩⟩
  · refine (As_any E v w0 w hE hw hne t old hg ht0 hf0).mono ?_
    rintro ev w' ⟨W, W1, hp, hW, hW1⟩
    have hb : Below w.heap.size w W1 := by rw [hW1, hW]; exact bel_al (bel_al (bel_al (Below.refl _ _) _) _) _
    have hc : W1.cell? t = some old := (hb.cell htl).trans ht0
    rcases hp with ⟨c, a, s, g, h1, rfl, h2, rfl⟩ | ⟨h1, rfl, rfl⟩
    · refine ⟨((bel_al hb _).mono (Nat.le_of_lt htl)).setCell (Nat.le_refl _) _, .inl ⟨c, a, s, g, h1, rfl, h2, ?_⟩⟩
      exact World.cell?_setCell_same _ _ _ (((bel_al hb _).cell htl).trans ht0)
    · exact ⟨hb.mono (Nat.le_of_lt htl), .inr ⟨h1, rfl, hc⟩⟩

/-- fault.fault: a pointer to the chain's first fault, or none. -/
def FaultPost (E : Err) (w : World) (ev : Ending) (w' : World) : Prop :=
  Below w.heap.size w w' ∧
  ((∃ c a s g, E.flt? = some (c, a, s) ∧ ev = .returned (.pointer (some ⟨g, 0, none⟩)) ∧ Blk w' g 148 #[.int .i64 c, .int .i64 a, .string s]) ∨ (E.flt? = none ∧ ev = .returned (.pointer none)))

theorem fault_any (E : Err) (v : Value) (w : World) (hE : E.At w v) (hg : ErrT w) : Calls Tryz.prog 100 #[v] w (FaultPost E w) := by
  have hb0 := bel_al (Below.refl w.heap.size w) (.cells #[.pointer none] 145)
  have HA := Lib.hid (As_done E v w _ hE hb0 ⟨w.heap.size, 0, none⟩ (.pointer none) (hg.keep hb0) (by simp) (by simp))
  have HE := Lib.hid hE
  clear hE hb0
  go_enter Tryz.func100, Tryz.ntmps100
  go_wp2_with (go_at_call 163; refine HA.out.mono ?_)
  rintro ev w' ⟨hb, hp⟩
  have hb' : Below w.heap.size w w' := (bel_al (Below.refl _ _) _).trans hb
  rcases hp with ⟨c, a, s, g, h1, rfl, h2, h3⟩ | ⟨h1, rfl, h3⟩
  · have H1 := Lib.hid h1
    have H2 := Lib.hid h2
    clear h1 h2
    go_wp2
    go_ret
    exact ⟨hb', .inl ⟨c, a, s, g, H1.out, rfl, H2.out.keep hb'⟩⟩
  · have H1 := Lib.hid h1
    clear h1
    go_wp2
    go_ret
    exact ⟨hb', .inr ⟨H1.out, rfl⟩⟩

theorem Code_any (E : Err) (v : Value) (w : World) (hE : E.At w v) (hg : ErrT w) :
    Calls Tryz.prog 29 #[v] w fun e w' => e = .returned (.int .i64 E.code) ∧ Below w.heap.size w w' := by
  by_cases hne : E = .nil
  · subst hne
    obtain rfl : v = .nilIface := hE
    refine (Code_nil w).mono ?_
    rintro e w' ⟨rfl, rfl⟩
    exact ⟨rfl, Below.refl _ _⟩
  · have hcode := Err.code_of E hne w v hE
    have HC := Lib.hid hcode
    have HA := Lib.hid (fault_any E v w hE hg)
    obtain ⟨T, x, rfl⟩ := Err.At.iface_ hE hne
    clear hE hcode hne
    go_enter Tryz.func29, Tryz.ntmps29
    go_wp2_with (go_at_call 100; refine HA.out.mono ?_)
    rintro ev w' ⟨hb, hp⟩
    rcases hp with ⟨c, a, s, g, h1, rfl, h2⟩ | ⟨h1, rfl⟩
    · have H1 := Lib.hid h1
      have hc0 := h2.cell 0
      simp at hc0
      clear h1 h2
      go_wp2
      go_ret
      exact ⟨by rw [HC.out, H1.out]; rfl, hb⟩
    · have H1 := Lib.hid h1
      clear h1
      go_wp2
      go_ret
      exact ⟨by rw [HC.out, H1.out]; rfl, hb⟩

theorem At_any (E : Err) (v : Value) (w : World) (hE : E.At w v) (hg : ErrT w) :
    Calls Tryz.prog 46 #[v] w fun e w' => e = .returned (.int .i64 E.at_) ∧ Below w.heap.size w w' := by
  have HC := Lib.hid (Err.at_of E)
  have HA := Lib.hid (fault_any E v w hE hg)
  clear hE
  go_enter Tryz.func46, Tryz.ntmps46
  go_wp2_with (go_at_call 100; refine HA.out.mono ?_)
  rintro ev w' ⟨hb, hp⟩
  rcases hp with ⟨c, a, s, g, h1, rfl, h2⟩ | ⟨h1, rfl⟩
  · have H1 := Lib.hid h1
    have hc0 := h2.cell 1
    simp at hc0
    clear h1 h2
    go_wp2
    go_ret
    exact ⟨by rw [HC.out, H1.out]; rfl, hb⟩
  · have H1 := Lib.hid h1
    clear h1
    go_wp2
    go_ret
    exact ⟨by rw [HC.out, H1.out]; rfl, hb⟩
end Go.Proofs.YtddedghnnkcnhaaGreatDoor
/-
  Bytes, words, sums and parcels, plainly: no program in sight.
-/
namespace Go.Proofs.YtddedghnnkcnhaaGreatDoor

/-- A list of bytes. -/
def Bys (l : List Int) : Prop := ∀ x ∈ l, 0 ≤ x ∧ x ≤ 255
theorem Bys.nil : Bys [] := fun _ h => absurd h (by simp)
theorem Bys.append {a b : List Int} (ha : Bys a) (hb : Bys b) : Bys (a ++ b) := fun x hx => (List.mem_append.1 hx).elim (ha x) (hb x)
theorem Bys.left {a b : List Int} (h : Bys (a ++ b)) : Bys a := fun x hx => h x (List.mem_append_left _ hx)
theorem Bys.right {a b : List Int} (h : Bys (a ++ b)) : Bys b := fun x hx => h x (List.mem_append_right _ hx)
theorem Bys.take {a : List Int} (h : Bys a) (k : Nat) : Bys (a.take k) := fun x hx => h x (List.mem_of_mem_take hx)
theorem Bys.drop {a : List Int} (h : Bys a) (k : Nat) : Bys (a.drop k) := fun x hx => h x (List.mem_of_mem_drop hx)
theorem Bys.cons {x : Int} {a : List Int} (h0 : 0 ≤ x) (h1 : x ≤ 255) (h : Bys a) : Bys (x :: a) := fun y hy => by
  rcases List.mem_cons.1 hy with rfl | hy
  · exact ⟨h0, h1⟩
  · exact h y hy
theorem Bys.set {a : List Int} (h : Bys a) (k : Nat) {x : Int} (h0 : 0 ≤ x) (h1 : x ≤ 255) : Bys (a.set k x) := fun y hy => by
  rcases List.mem_or_eq_of_mem_set hy with hy | rfl
  · exact h y hy
  · exact ⟨h0, h1⟩

/-- A number's 4 bytes, the highest first. -/
def wordL (n : Nat) : List Int := [((n / 16777216 % 256 : Nat) : Int), ((n / 65536 % 256 : Nat) : Int), ((n / 256 % 256 : Nat) : Int), ((n % 256 : Nat) : Int)]
theorem wordL_len (n : Nat) : (wordL n).length = 4 := rfl
theorem wordL_bys (n : Nat) : Bys (wordL n) := by
  intro x hx
  simp only [wordL, List.mem_cons, List.not_mem_nil, or_false] at hx
  rcases hx with rfl | rfl | rfl | rfl <;> omega
/-- 4 bytes as a number. -/
def wordN : List Int → Nat
  | a :: b :: c :: d :: _ => a.toNat * 16777216 + b.toNat * 65536 + c.toNat * 256 + d.toNat
  | _ => 0
theorem wordN_of {n : Nat} (h : n < 4294967296) (r : List Int) : wordN (wordL n ++ r) = n := by
  simp only [wordL, List.cons_append, List.nil_append, wordN, Int.toNat_natCast]
  omega
theorem wordN_lt : ∀ {l : List Int}, Bys l → wordN l < 4294967296
  | a :: b :: c :: d :: _, h => by
    have h1 := h a (by simp)
    have h2 := h b (by simp)
    have h3 := h c (by simp)
    have h4 := h d (by simp)
    simp only [wordN]
    omega
  | [], _ => by simp [wordN]
  | [_], _ => by simp [wordN]
  | [_, _], _ => by simp [wordN]
  | [_, _, _], _ => by simp [wordN]
theorem four : ∀ {l : List Int}, 4 ≤ l.length → ∃ a b c d, l.take 4 = [a, b, c, d] ∧ l = a :: b :: c :: d :: l.drop 4
  | a :: b :: c :: d :: r, _ => ⟨a, b, c, d, rfl, rfl⟩
  | [], h => by simp at h
  | [_], h => by simp at h
  | [_, _], h => by simp at h
  | [_, _, _], h => by simp at h
theorem wordL_of {l : List Int} (h : Bys l) (hl : 4 ≤ l.length) : wordL (wordN l) = l.take 4 := by
  obtain ⟨a, b, c, d, h4, he⟩ := four hl
  rw [he] at h
  have h1 := h a (by simp)
  have h2 := h b (by simp)
  have h3 := h c (by simp)
  have h5 := h d (by simp)
  rw [h4, he]
  simp only [wordN, wordL]
  congr 1
  · omega
  · congr 1
    · omega
    · congr 1
      · omega
      · congr 1; omega
theorem wordN_take {l : List Int} (hl : 4 ≤ l.length) : wordN (l.take 4) = wordN l := by
  obtain ⟨a, b, c, d, h4, he⟩ := four hl
  rw [h4]
  conv => rhs; rw [he]
  rfl
theorem wordN_inj {l r : List Int} (h : Bys l) (hr : Bys r) (hl : 4 ≤ l.length) (hlr : 4 ≤ r.length) (e : wordN l = wordN r) : l.take 4 = r.take 4 := by
  rw [← wordL_of h hl, ← wordL_of hr hlr, e]

/-- A byte more in a sum. -/
def sstep (s : Nat × Nat) (c : Int) : Nat × Nat := ((s.1 + c.toNat) % 65521, (s.2 + (s.1 + c.toNat) % 65521) % 65521)
def sumS (l : List Int) : Nat × Nat := l.foldl sstep (1, 0)
theorem sumS_snoc (l : List Int) (c : Int) : sumS (l ++ [c]) = sstep (sumS l) c := by simp [sumS, List.foldl_append]
theorem sumS_lt (l : List Int) : (sumS l).1 < 65521 ∧ (sumS l).2 < 65521 := by
  have : ∀ (l : List Int) (s : Nat × Nat), s.1 < 65521 → s.2 < 65521 → (l.foldl sstep s).1 < 65521 ∧ (l.foldl sstep s).2 < 65521 := by
    intro l
    induction l with
    | nil => intro s h1 h2; exact ⟨h1, h2⟩
    | cons c l ih => intro s h1 h2; exact ih _ (Nat.mod_lt _ (by omega)) (Nat.mod_lt _ (by omega))
  exact this l (1, 0) (by decide) (by decide)
/-- The sum of bytes. -/
def sumL (l : List Int) : Nat := (sumS l).2 * 65536 + (sumS l).1
theorem sumL_lt (l : List Int) : sumL l < 4294967296 := by
  have := sumS_lt l
  unfold sumL; omega
def tot : List Int → Nat
  | [] => 0
  | c :: l => c.toNat + tot l
theorem tot_append : ∀ a b, tot (a ++ b) = tot a + tot b
  | [], b => by simp [tot]
  | c :: a, b => by rw [List.cons_append, tot, tot, tot_append a b]; omega
theorem sumS_fst (l : List Int) : (sumS l).1 = (1 + tot l) % 65521 := by
  have : ∀ (l : List Int) (s : Nat × Nat), s.1 < 65521 → (l.foldl sstep s).1 = (s.1 + tot l) % 65521 := by
    intro l
    induction l with
    | nil => intro s h1; simp only [List.foldl_nil, tot]; omega
    | cons c l ih =>
      intro s h1
      rw [List.foldl_cons, ih _ (Nat.mod_lt _ (by omega)), tot]
      simp only [sstep]
      omega
  exact this l (1, 0) (by decide)
theorem sumL_fst {a b : List Int} (h : sumL a = sumL b) : (sumS a).1 = (sumS b).1 := by
  have h1 := sumS_lt a
  have h2 := sumS_lt b
  unfold sumL at h
  omega
/-- One byte turned: another sum. -/
theorem sumL_turn (a b : List Int) (x y : Int) (hx : 0 ≤ x ∧ x ≤ 255) (hy : 0 ≤ y ∧ y ≤ 255) (hne : x ≠ y) : sumL (a ++ x :: b) ≠ sumL (a ++ y :: b) := by
  intro h
  have := sumL_fst h
  rw [sumS_fst, sumS_fst, tot_append, tot_append, tot, tot] at this
  omega

/-- FWRK. -/
def fwrk : List Int := [70, 87, 82, 75]
/-- What the sum is of. -/
def preL (kind : Int) (body : List Int) : List Int := fwrk ++ kind :: (wordL body.length ++ body)
/-- A parcel. -/
def packL (kind : Int) (body : List Int) : List Int := preL kind body ++ wordL (sumL (preL kind body))
theorem preL_len (kind : Int) (body : List Int) : (preL kind body).length = body.length + 9 := by simp [preL, fwrk, wordL]
theorem packL_len (kind : Int) (body : List Int) : (packL kind body).length = body.length + 13 := by rw [packL, List.length_append, preL_len, wordL_len]
theorem preL_bys {kind : Int} {body : List Int} (hk : 0 ≤ kind ∧ kind ≤ 255) (hb : Bys body) : Bys (preL kind body) :=
  Bys.append (by unfold fwrk Bys; intro x hx; simp only [List.mem_cons, List.not_mem_nil, or_false] at hx; rcases hx with rfl | rfl | rfl | rfl <;> omega) (Bys.cons hk.1 hk.2 ((wordL_bys _).append hb))
theorem packL_bys {kind : Int} {body : List Int} (hk : 0 ≤ kind ∧ kind ≤ 255) (hb : Bys body) : Bys (packL kind body) := (preL_bys hk hb).append (wordL_bys _)

/-- What is wrong with a parcel: nothing (0), its beginning (1), its end (2), its length: too long (3), too short (4), its sum (5). -/
def unW (b : List Int) : Nat :=
  if 4 ≤ b.length ∧ b.take 4 ≠ fwrk then 1
  else if b.length < 13 then 2
  else if b.length - 13 < wordN (b.drop 5) then 3
  else if wordN (b.drop 5) < b.length - 13 then 4
  else if wordN (b.drop (9 + wordN (b.drop 5))) ≠ sumL (b.take (9 + wordN (b.drop 5))) then 5
  else 0
theorem unW_ok {b : List Int} (hb : Bys b) (h : unW b = 0) : ∃ kind body, b = packL kind body ∧ body.length = wordN (b.drop 5) ∧ b[4]? = some kind ∧ (b.drop 9).take body.length = body ∧ 0 ≤ kind ∧ kind ≤ 255 ∧ Bys body := by
  unfold unW at h
  split at h
  · omega
  split at h
  · omega
  split at h
  · omega
  split at h
  · omega
  split at h
  · omega
  rename_i h1 h2 h3 h4 h5
  have hm : b.take 4 = fwrk := Decidable.byContradiction fun e => h1 ⟨by omega, e⟩
  have hn : wordN (b.drop 5) = b.length - 13 := by omega
  have h5 : wordN (b.drop (9 + wordN (b.drop 5))) = sumL (b.take (9 + wordN (b.drop 5))) := Decidable.byContradiction h5
  have hk : b[4]? = some b[4] := List.getElem?_eq_getElem (by omega)
  have hbl : ((b.drop 9).take (b.length - 13)).length = b.length - 13 := by rw [List.length_take, List.length_drop]; omega
  have hpre : b.take (9 + wordN (b.drop 5)) = preL b[4] ((b.drop 9).take (b.length - 13)) := by
    have hw := wordL_of (hb.drop 5) (by rw [List.length_drop]; omega)
    unfold preL
    rw [hbl, ← hm, ← hn, hw, hn]
    have e1 : b.take (9 + (b.length - 13)) = b.take 9 ++ (b.drop 9).take (b.length - 13) := List.take_add ..
    have e2 : b.take 9 = b.take 5 ++ (b.drop 5).take 4 := List.take_add (i := 5) (j := 4) ..
    have e3 : b.take 5 = b.take 4 ++ [b[4]] := List.take_succ_eq_append_getElem (by omega)
    rw [e1, e2, e3]
    simp only [List.append_assoc, List.cons_append, List.nil_append]
  refine ⟨b[4], (b.drop 9).take (b.length - 13), ?_, by rw [hbl, hn], hk, by rw [hbl], (hb _ (List.getElem_mem (by omega))).1, (hb _ (List.getElem_mem (by omega))).2, (hb.drop 9).take _⟩
  unfold packL
  rw [← hpre, ← h5, wordL_of (hb.drop _) (by rw [List.length_drop]; omega)]
  have e1 : (b.drop (9 + wordN (b.drop 5))).take 4 = b.drop (9 + wordN (b.drop 5)) := List.take_of_length_le (by rw [List.length_drop]; omega)
  rw [e1, List.take_append_drop]
theorem packL_parts (kind : Int) (body : List Int) : (packL kind body).take 4 = fwrk ∧ (packL kind body).drop 5 = wordL body.length ++ (body ++ wordL (sumL (preL kind body))) ∧ (packL kind body).take (9 + body.length) = preL kind body ∧ (packL kind body).drop (9 + body.length) = wordL (sumL (preL kind body)) ∧ (packL kind body)[4]? = some kind ∧ ((packL kind body).drop 9).take body.length = body := by
  have hl := preL_len kind body
  refine ⟨rfl, ?_, ?_, ?_, rfl, ?_⟩
  · show (fwrk ++ kind :: (wordL body.length ++ body) ++ wordL (sumL (preL kind body))).drop 5 = _
    rw [List.append_assoc, List.cons_append, List.append_assoc]
    rfl
  · exact List.take_left' (by omega)
  · exact List.drop_left' (by omega)
  · show ((fwrk ++ kind :: (wordL body.length ++ body) ++ wordL (sumL (preL kind body))).drop 9).take body.length = _
    rw [List.append_assoc, List.cons_append, List.append_assoc]
    show ((body ++ wordL (sumL (preL kind body)))).take body.length = _
    exact List.take_left
theorem unW_pack (kind : Int) (body : List Int) (h : body.length < 4294967296) : unW (packL kind body) = 0 := by
  obtain ⟨h1, h2, h3, h4, _, _⟩ := packL_parts kind body
  have hl := packL_len kind body
  have hw : wordN ((packL kind body).drop 5) = body.length := by rw [h2, wordN_of h]
  unfold unW
  rw [hw, h1, h3, h4, hl]
  have hs : wordN (wordL (sumL (preL kind body))) = sumL (preL kind body) := by
    have := wordN_of (sumL_lt (preL kind body)) []
    rwa [List.append_nil] at this
  rw [hs, if_neg (by simp), if_neg (by omega), if_neg (by omega), if_neg (by omega), if_neg (by simp)]
end Go.Proofs.YtddedghnnkcnhaaGreatDoor
/-
  Contracts: wire.word, wordAt, Sum; the document's Word, Sum, Same (bytes).
-/
namespace Go.Proofs.YtddedghnnkcnhaaGreatDoor
open Go.RowKit
set_option maxRecDepth 100000

theorem elemByte : Elem Tryz.prog 26 5 (.int .u8 0) 1 1 := ⟨Tryz.underlying26, by kernel_rfl, rfl, by decide⟩
theorem wordL_map (k : Nat) : (wordL k).map (Value.int .u8) = [.int .u8 ((k / 16777216 % 256 : Nat) : Int), .int .u8 ((k / 65536 % 256 : Nat) : Int), .int .u8 ((k / 256 % 256 : Nat) : Int), .int .u8 ((k % 256 : Nat) : Int)] := rfl

theorem or_join (a b s : Nat) (hb : b < 2 ^ s) : (a * 2 ^ s ||| b) = a * 2 ^ s + b := by
  rw [← Nat.shiftLeft_eq, Nat.shiftLeft_add_eq_or_of_lt hb]
theorem bits_or_u32 (a b : Nat) (ha : a < 4294967296) (hb : b < 4294967296) : bits .or .u32 (a : Int) (b : Int) = ((a ||| b : Nat) : Int) := by
  have h1 : (BitVec.ofInt 32 (a : Int) ||| BitVec.ofInt 32 (b : Int)).toNat = a ||| b := by
    rw [BitVec.toNat_or, BitVec.ofInt_natCast, BitVec.ofInt_natCast, BitVec.toNat_ofNat, BitVec.toNat_ofNat, Nat.mod_eq_of_lt (by omega), Nat.mod_eq_of_lt (by omega)]
  have h2 : a ||| b < 2 ^ 32 := Nat.or_lt_two_pow (by omega) (by omega)
  show IntKind.u32.wrap (((BitVec.ofInt 32 (a : Int) ||| BitVec.ofInt 32 (b : Int)).toNat : Nat) : Int) = _
  rw [h1]
  exact IntWalk.u32_in _ (by omega)
theorem or_sum (y x : Nat) (hy : y < 65521) (hx : x < 65521) : bits .or .u32 ((y : Int) * 65536) (x : Int) = ((y * 65536 + x : Nat) : Int) := by
  have := bits_or_u32 (y * 65536) x (by omega) (by omega)
  rw [or_join y x 16 (by omega)] at this
  rw [show (y : Int) * 65536 = ((y * 65536 : Nat) : Int) by omega]
  exact this
theorem or_word (a b c d : Nat) (ha : a < 256) (hb : b < 256) (hc : c < 256) (hd : d < 256) :
    bits .or .u32 (bits .or .u32 (bits .or .u32 ((a : Int) * 16777216) ((b : Int) * 65536)) ((c : Int) * 256)) (d : Int) = ((a * 16777216 + b * 65536 + c * 256 + d : Nat) : Int) := by
  have e1 := bits_or_u32 (a * 16777216) (b * 65536) (by omega) (by omega)
  have o1 := or_join a (b * 65536) 24 (by omega)
  rw [show (2 : Nat) ^ 24 = 16777216 from rfl] at o1
  rw [o1] at e1
  have e2 := bits_or_u32 (a * 16777216 + b * 65536) (c * 256) (by omega) (by omega)
  have o2 := or_join (a * 256 + b) (c * 256) 16 (by omega)
  rw [show (2 : Nat) ^ 16 = 65536 from rfl, show (a * 256 + b) * 65536 = a * 16777216 + b * 65536 by omega] at o2
  rw [o2] at e2
  have e3 := bits_or_u32 (a * 16777216 + b * 65536 + c * 256) d (by omega) (by omega)
  have o3 := or_join (a * 65536 + b * 256 + c) d 8 (by omega)
  rw [show (2 : Nat) ^ 8 = 256 from rfl, show (a * 65536 + b * 256 + c) * 256 = a * 16777216 + b * 65536 + c * 256 by omega] at o3
  rw [o3] at e3
  rw [show (a : Int) * 16777216 = ((a * 16777216 : Nat) : Int) by omega, show (b : Int) * 65536 = ((b * 65536 : Nat) : Int) by omega, show (c : Int) * 256 = ((c * 256 : Nat) : Int) by omega, e1, e2, e3]

set_option maxHeartbeats 1000000 in
theorem word_own (k : Nat) (hk : k < 4294967296) (l : List Int) (v : Value) (n B : Nat) (w : World) (hn : l.length = n) (hown : w.ownsRow B 5 1 v n (l.map (Value.int .u8))) (hB : B ≤ w.heap.size) (hl : n ≤ 1099511627776) :
    Calls Tryz.prog 187 #[v, .int .u32 k] w fun e w' => ∃ v', e = .returned v' ∧ w'.ownsRow B 5 1 v' (n + 4) ((l ++ wordL k).map (Value.int .u8)) ∧ Gr w w' v v' := by
  have hw : [Value.int .u8 ((k : Int) / 16777216), .int .u8 ((k : Int) / 65536 % 256), .int .u8 ((k : Int) / 256 % 256), .int .u8 ((k : Int) % 256)] = (wordL k).map (Value.int .u8) := by
    rw [wordL_map, show ((k / 16777216 % 256 : Nat) : Int) = (k : Int) / 16777216 by omega, show ((k / 65536 % 256 : Nat) : Int) = (k : Int) / 65536 % 256 by omega, show ((k / 256 % 256 : Nat) : Int) = (k : Int) / 256 % 256 by omega, show ((k % 256 : Nat) : Int) = (k : Int) % 256 by omega]
  have HW := Lib.hid hw
  clear hw
  go_enter Tryz.func187, Tryz.ntmps187
  go_wp2_with (at_builtin; refine wpList_cat_at elemByte _ _ rfl rfl (hown.alloc _) (by simp; omega) (Sl.newAt w _ _ 4 rfl) rfl rfl (by simp [Value.oneCell']) (by unfold lim; omega) (by unfold lim; omega) ?_; intro v' w5 hown1 hgr)
  go_ret
  rw [HW.out] at hown1
  exact ⟨v', rfl, by rw [List.map_append]; exact hown1, hgr.after_alloc⟩

set_option maxHeartbeats 1000000 in
theorem wordAt_any (l : List Int) (A : Option Addr) (n c : Nat) (w : World) (hl : l.length = n) (h4 : 4 ≤ n) (hb : Bys l) (hs : Sl w 1 A n (l.map (Value.int .u8))) :
    Calls Tryz.prog 161 #[.slice A n c] w fun e w' => e = .returned (.int .u32 (wordN l : Nat)) ∧ ∃ m, w' = w.drewN m := by
  obtain ⟨a, b, c', d, h4', he⟩ := four (l := l) (by omega)
  obtain ⟨g, off, rfl, hc⟩ := hs.2 (by omega)
  have c0 := hc 0 (.int .u8 a) (by rw [he]; rfl)
  have c1 := hc 1 (.int .u8 b) (by rw [he]; rfl)
  have c2 := hc 2 (.int .u8 c') (by rw [he]; rfl)
  have c3 := hc 3 (.int .u8 d) (by rw [he]; rfl)
  have b0 := hb a (by rw [he]; simp)
  have b1 := hb b (by rw [he]; simp)
  have b2 := hb c' (by rw [he]; simp)
  have b3 := hb d (by rw [he]; simp)
  rw [Nat.add_zero] at c0
  have HW := Lib.hid (show wordN l = a.toNat * 16777216 + b.toNat * 65536 + c'.toNat * 256 + d.toNat by rw [he]; rfl)
  clear hc hs he h4' hb
  obtain ⟨a, rfl⟩ := Int.eq_ofNat_of_zero_le b0.1
  obtain ⟨b, rfl⟩ := Int.eq_ofNat_of_zero_le b1.1
  obtain ⟨c', rfl⟩ := Int.eq_ofNat_of_zero_le b2.1
  obtain ⟨d, rfl⟩ := Int.eq_ofNat_of_zero_le b3.1
  have HO := Lib.hid (or_word a b c' d (by omega) (by omega) (by omega) (by omega))
  have g0 : (0 : Int) < n := by omega
  have g1 : (1 : Int) < n := by omega
  have g2 : (2 : Int) < n := by omega
  have g3 : (3 : Int) < n := by omega
  go_enter Tryz.func161, Tryz.ntmps161
  go_wp2_with fail
  go_quiet (fail)
  go_wp2_with fail
  go_ret
  exact ⟨ret_int (by rw [HO.out, HW.out]; rfl), nq, rfl⟩

set_option maxHeartbeats 1000000 in
theorem Sum_any (l : List Int) (A : Option Addr) (n c : Nat) (w : World) (hl : l.length = n) (hn : n ≤ 1099511627776) (hb : Bys l) (hs : Sl w 1 A n (l.map (Value.int .u8))) :
    Calls Tryz.prog 188 #[.slice A n c] w fun e w' => e = .returned (.int .u32 (sumL l : Nat)) ∧ w = w' := by
  have HS := Lib.hid hs
  have HB := Lib.hid hb
  clear hs hb
  go_enter Tryz.func188, Tryz.ntmps188
  go_wp2_with fail
  go_loop [3, 4, 9] (fun x y i => ∃ k X Y : Nat, k ≤ n ∧ i = .int .i64 k ∧ x = .int .u32 X ∧ y = .int .u32 Y ∧ X < 65521 ∧ Y < 65521 ∧ Hid (sumS (l.take k) = (X, Y))) (fun _ _ i => n - (intOf i).toNat)
  case atStart => exact ⟨0, 1, 0, Nat.zero_le _, rfl, rfl, rfl, by omega, by omega, rfl⟩
  case round =>
    obtain ⟨k, X, Y, hk, rfl, rfl, rfl, hX, hY, HXY⟩ := hrel
    by_cases hlt : k < n
    · have hj : k < l.length := by omega
      obtain ⟨b, off, u, rfl, e1, c1⟩ := HS.out.one hlt
      rw [List.getElem?_map, List.getElem?_eq_getElem hj] at e1
      obtain rfl := Option.some.inj e1
      have HT := Lib.hid (List.take_succ_eq_append_getElem hj)
      have hr := HB.out _ (List.getElem_mem hj)
      generalize l[k] = z at *
      obtain ⟨z, rfl⟩ := Int.eq_ofNat_of_zero_le hr.1
      clear e1
      have HS2 := Lib.hid (show sumS (l.take (k + 1)) = ((X + z) % 65521, (Y + (X + z) % 65521) % 65521) by rw [HT.out, sumS_snoc, HXY.out]; rfl)
      go_wp2_with fail
      go_round
      case rel => exact ⟨k + 1, (X + z) % 65521, (Y + (X + z) % 65521) % 65521, by omega, by go_num, rfl, rfl, Nat.mod_lt _ (by omega), Nat.mod_lt _ (by omega), HS2.out⟩
      case measure => simp [intOf]; omega
    · obtain rfl : k = n := by omega
      have HO := Lib.hid (or_sum Y X hY hX)
      have HL := Lib.hid (show sumL l = Y * 65536 + X by have := HXY.out; rw [List.take_of_length_le (by omega)] at this; rw [sumL, this])
      go_wp2_with fail
      go_ret
      exact ⟨ret_int (by rw [HO.out, HL.out]), rfl⟩

set_option maxHeartbeats 1000000 in
theorem RefWord_any (k : Nat) (hk : k < 4294967296) (w : World) :
    Calls Tryz.prog 139 #[.int .i64 k] w fun e w' => ∃ A c, e = .returned (.slice A 4 c) ∧ Sl w' 1 A 4 ((wordL k).map (Value.int .u8)) ∧ Below w.heap.size w w' := by
  have hw : [Value.int .u8 ((k : Int) / 16777216 % 256), .int .u8 ((k : Int) / 65536 % 256), .int .u8 ((k : Int) / 256 % 256), .int .u8 ((k : Int) % 256)] = (wordL k).map (Value.int .u8) := by
    rw [wordL_map, show ((k / 16777216 % 256 : Nat) : Int) = (k : Int) / 16777216 % 256 by omega, show ((k / 65536 % 256 : Nat) : Int) = (k : Int) / 65536 % 256 by omega, show ((k / 256 % 256 : Nat) : Int) = (k : Int) / 256 % 256 by omega, show ((k % 256 : Nat) : Int) = (k : Int) % 256 by omega]
  have HW := Lib.hid hw
  clear hw
  go_enter Tryz.func139, Tryz.ntmps139
  go_wp2_with fail
  go_ret
  refine ⟨_, _, rfl, ?_, bel_al (Below.refl _ _) _⟩
  rw [← HW.out]
  exact Sl.newAt w _ _ 4 rfl

set_option maxHeartbeats 1000000 in
theorem RefSum_any (l : List Int) (A : Option Addr) (n c : Nat) (w : World) (hl : l.length = n) (hn : n ≤ 1099511627776) (hb : Bys l) (hs : Sl w 1 A n (l.map (Value.int .u8))) :
    Calls Tryz.prog 140 #[.slice A n c] w fun e w' => e = .returned (.int .i64 (sumL l : Nat)) ∧ w = w' := by
  have HS := Lib.hid hs
  have HB := Lib.hid hb
  clear hs hb
  go_enter Tryz.func140, Tryz.ntmps140
  go_wp2_with fail
  go_loop [3, 4, 5] (fun x y i => ∃ k X Y : Nat, k ≤ n ∧ i = .int .i64 k ∧ x = .int .i64 X ∧ y = .int .i64 Y ∧ X < 65521 ∧ Y < 65521 ∧ Hid (sumS (l.take k) = (X, Y))) (fun _ _ i => n - (intOf i).toNat)
  case atStart => exact ⟨0, 1, 0, Nat.zero_le _, rfl, rfl, rfl, by omega, by omega, rfl⟩
  case round =>
    obtain ⟨k, X, Y, hk, rfl, rfl, rfl, hX, hY, HXY⟩ := hrel
    by_cases hlt : k < n
    · have hj : k < l.length := by omega
      obtain ⟨b, off, u, rfl, e1, c1⟩ := HS.out.one hlt
      rw [List.getElem?_map, List.getElem?_eq_getElem hj] at e1
      obtain rfl := Option.some.inj e1
      have HT := Lib.hid (List.take_succ_eq_append_getElem hj)
      have hr := HB.out _ (List.getElem_mem hj)
      generalize l[k] = z at *
      obtain ⟨z, rfl⟩ := Int.eq_ofNat_of_zero_le hr.1
      clear e1
      have HS2 := Lib.hid (show sumS (l.take (k + 1)) = ((X + z) % 65521, (Y + (X + z) % 65521) % 65521) by rw [HT.out, sumS_snoc, HXY.out]; rfl)
      go_wp2_with fail
      go_round
      case rel => exact ⟨k + 1, (X + z) % 65521, (Y + (X + z) % 65521) % 65521, by omega, by go_num, rfl, rfl, Nat.mod_lt _ (by omega), Nat.mod_lt _ (by omega), HS2.out⟩
      case measure => simp [intOf]; omega
    · obtain rfl : k = n := by omega
      have HL := Lib.hid (show sumL l = Y * 65536 + X by have := HXY.out; rw [List.take_of_length_le (by omega)] at this; rw [sumL, this])
      go_wp2_with fail
      go_ret
      exact ⟨ret_int (by rw [HL.out]; omega), rfl⟩

set_option maxHeartbeats 1000000 in
theorem Same_any (p q : List Int) (A B : Option Addr) (n m c d : Nat) (w : World) (hl : p.length = n) (hm : q.length = m) (hs : Sl w 1 A n (p.map (Value.int .u8))) (ht : Sl w 1 B m (q.map (Value.int .u8))) (hn : n ≤ 9223372036854775807) :
    Calls Tryz.prog 27 #[.slice A n c, .slice B m d] w fun e w' => e = .returned (.bool (decide (p = q))) ∧ Below w.heap.size w w' := by
  go_enter Tryz.func27, Tryz.ntmps27
  by_cases hnm : n = m
  · subst hnm
    go_wp2
    go_loopw [5] (fun i wr => ∃ k : Nat, k ≤ n ∧ i = .int .i64 k ∧ p.take k = q.take k ∧ Below w.heap.size w wr) (fun i _ => n - (intOf i).toNat)
    case atStart => exact ⟨0, Nat.zero_le _, rfl, rfl, Below.refl _ _⟩
    case round =>
      obtain ⟨k, hk, rfl, heq, hb⟩ := hrel
      by_cases hlt : k < n
      · have hj : k < p.length := by omega
        have hj' : k < q.length := by omega
        obtain ⟨b, off, u, rfl, e1, c1⟩ := (hs.keep hb).one hlt
        obtain ⟨b', off', u', rfl, e2, c2⟩ := (ht.keep hb).one hlt
        rw [List.getElem?_map, List.getElem?_eq_getElem hj] at e1
        rw [List.getElem?_map, List.getElem?_eq_getElem hj'] at e2
        obtain rfl := Option.some.inj e1
        obtain rfl := Option.some.inj e2
        have HT := Lib.hid (List.take_succ_eq_append_getElem hj)
        have HT' := Lib.hid (List.take_succ_eq_append_getElem hj')
        have HE := Lib.hid heq
        have HP := Lib.hid (fun h : p = q => (by subst h; rfl : p[k] = q[k]))
        generalize p[k] = x at *
        generalize q[k] = y at *
        clear e1 e2 heq hs ht
        by_cases hxy : x = y
        · subst hxy
          go_wp2_with fail
          go_quiet (fail)
          go_wp2_with fail
          go_roundw
          case rel => exact ⟨k + 1, by omega, by go_num, by rw [HT.out, HT'.out, HE.out], bel_drewN hb _⟩
          case measure => simp [intOf]; omega
        · have hb1 : (x == y) = false := by simpa using hxy
          go_wp2_with fail
          go_quiet (fail)
          go_wp2_with fail
          go_ret
          exact ⟨ret_bool (decide_eq_false (fun h => hxy (HP.out h))).symm, bel_drewN hb _⟩
      · obtain rfl : k = n := by omega
        rw [List.take_of_length_le (by omega), List.take_of_length_le (by omega)] at heq
        have HE := Lib.hid heq
        clear heq hs ht
        go_wp2
        go_ret
        exact ⟨ret_bool (decide_eq_true HE.out).symm, hb⟩
  · have hne : p ≠ q := fun h => hnm (by rw [← hl, ← hm, h])
    have HN := Lib.hid hne
    have hb1 : ((n : Int) == (m : Int)) = false := by simp; omega
    clear hne hs ht
    go_wp2
    go_ret
    exact ⟨ret_bool (decide_eq_false HN.out).symm, Below.refl _ _⟩
end Go.Proofs.YtddedghnnkcnhaaGreatDoor
