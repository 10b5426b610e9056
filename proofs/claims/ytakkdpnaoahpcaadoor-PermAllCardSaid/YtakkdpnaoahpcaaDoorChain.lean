/-
  Chains of errors: errors.As at *api.Fault, errors.Is at a fault, errors.Unwrap, and the fault package's functions over whole chains.
-/
import Derived.Test.YtakkdpnaoahpcaaDoorErr
import Derived.Deep.LoopGhost
namespace Go.Proofs.YtakkdpnaoahpcaaDoor
open Go.RowKit Go.Extern.Stop Go.Stop Go.Extern

def Err.depth : Err → Nat
  | .step _ e => e.depth + 1
  | _ => 0
def Err.flt? : Err → Option (Int × Int × ByteArray)
  | .flt c a s => some (c, a, s)
  | .step _ e => e.flt?
  | _ => none
theorem Err.code_of : ∀ (E : Err), E ≠ .nil → (∀ w v, E.At w v → E.code = match E.flt? with | some (c, _, _) => c | none => -1)
  | .nil, h, _, _, _ => absurd rfl h
  | .flt _ _ _, _, _, _, _ => rfl
  | .txt _, _, _, _, _ => rfl
theorem Err.at_of : ∀ (E : Err), E.at_ = match E.flt? with | some (_, a, _) => a | none => 0
  | .nil => rfl
  | .flt _ _ _ => rfl
  | .txt _ => rfl
  | .step _ e => Err.at_of e



/-- What errors.as leaves: the target is set to the chain's first fault; or the chain has none. -/
def AsPost (E : Err) (w0 w1 : World) (t : Addr) (ev : Ending) (w' : World) : Prop :=
  (∃ c a s g, E.flt? = some (c, a, s) ∧ ev = .returned (.bool true) ∧ Blk w0 g 49 #[.int .i64 c, .int .i64 a, .string s] ∧ (w1.alloc (.cells #[.pointer (some ⟨g, 0, none⟩)] 46)).setCell t (.pointer (some ⟨g, 0, none⟩)) = w') ∨
  (E.flt? = none ∧ ev = .returned (.bool false) ∧ w1 = w')

theorem Err.At.iface_ {w : World} {E : Err} {v : Value} (h : E.At w v) (hne : E ≠ .nil) : ∃ T x, v = .iface T x := by
  cases E with
  | nil => exact absurd rfl hne
  | flt c a s => obtain ⟨g, rfl, _⟩ := h; exact ⟨_, _, rfl⟩
  | step w e => exact h.elim
  | txt s => exact h.elim

set_option maxHeartbeats 2000000 in
theorem as_any (E : Err) (v : Value) (w0 w : World) (hE : E.At w0 v) (hw : Below w0.heap.size w0 w) (hne : E ≠ .nil) (t b : Addr) (old : Value) (hb0 : w.cell? b = some (.pointer (some t))) (ht0 : w.cell? t = some old) (hf0 : w.frozen? t = false) :
    Calls Tryd.prog 34 #[v, .iface 56 (.pointer (some t)), .agg #[.pointer (some ⟨1, 56, none⟩), .pointer (some b), .int .u64 150], .iface 72 (.agg #[.pointer (some ⟨1, 46, none⟩)])] w
      (AsPost E w0 (w.alloc (.cells #[.pointer (some ⟨1, 56, none⟩), .pointer (some b), .int .u64 150] 62)) t) := by
  have h83 := @run_callFunc_extern Tryd.prog 31 _ (fun args => ReflectliteValue.unpack (args.getD 0 (.tuple #[]))) Tryd.func31 (by kernel_rfl) (by kernel_rfl) (by kernel_rfl) (by kernel_rfl)
  have h87 := @run_callFunc_extern Tryd.prog 35 _ ReflectliteType.typeOf Tryd.func35 (by kernel_rfl) (by kernel_rfl) (by kernel_rfl) (by kernel_rfl)
  have h125 := @run_callFunc_extern Tryd.prog 60 _ (ReflectliteType.relation "AssignableTo" ReflectliteType.assignableTo) Tryd.func60 (by kernel_rfl) (by kernel_rfl) (by kernel_rfl) (by kernel_rfl)
  have h95 := @run_callFunc_extern Tryd.prog 36 _ (ReflectliteValue.method (ReflectliteValue.valueError "reflectlite.Value.Elem" 0) ReflectliteValue.elem) Tryd.func36 (by kernel_rfl) (by kernel_rfl) (by kernel_rfl) (by kernel_rfl)
  have h96 := @run_callFunc_extern Tryd.prog 37 _ ReflectliteValue.set Tryd.func37 (by kernel_rfl) (by kernel_rfl) (by kernel_rfl) (by kernel_rfl)
  have tO := fx_typeOf
  have mA := fx_methodAssignableTo
  have aP := fx_assignable
  have vP := fx_valueOfP
  have htl := World.block_lt_of_cell? w t ht0
  have hbl := World.block_lt_of_cell? w b hb0
  have el := fx_elemV b t (w.alloc (.cells #[.pointer (some ⟨1, 56, none⟩), .pointer (some b), .int .u64 150] 62)) (by rw [World.cell?_alloc_lt _ _ b hbl]; exact hb0)
  have st := fun e => fx_set t ⟨w.heap.size + 1, 0, none⟩ e old ((w.alloc (.cells #[.pointer (some ⟨1, 56, none⟩), .pointer (some b), .int .u64 150] 62)).alloc (.cells #[.pointer (some e)] 46))
    (by rw [World.cell?_alloc_at _ _ _ _ (by simp)]; rfl)
    (by rw [World.cell?_alloc_lt _ _ t (by simp; omega), World.cell?_alloc_lt _ _ t htl]; exact ht0)
    (by rw [World.frozen?_alloc_old _ _ t (by simp; omega), World.frozen?_alloc_old _ _ t (Nat.ne_of_lt htl)]; exact hf0)
  have HB := Lib.hid (bel_al hw (.cells #[.pointer (some ⟨1, 56, none⟩), .pointer (some b), .int .u64 150] 62))
  clear hb0 ht0 hf0 hw
  go_enter Tryd.func34, Tryd.ntmps34
  go_wp2
  go_loopg [0] E.depth (fun k e wr => ∃ E' : Err, E'.At w0 e ∧ E'.depth = k ∧ Hid (E'.flt? = E.flt?) ∧ E' ≠ .nil ∧ wr = w.alloc (.cells #[.pointer (some ⟨1, 56, none⟩), .pointer (some b), .int .u64 150] 62))
  case atStart => exact ⟨E, hE, rfl, rfl, hne, rfl⟩
  case round =>
    obtain ⟨E', hE', hk, HE, hne', rfl⟩ := hrel
    clear hE hne
    cases E' with
    | nil => exact absurd rfl hne'
    | flt c a s =>
      obtain ⟨g, rfl, hblk⟩ := hE'
      have st' := st ⟨g, 0, none⟩
      have HK := Lib.hid hblk
      clear hblk st
      go_wp2
      go_ret
      exact .inl ⟨c, a, s, g, HE.out.symm, rfl, HK.out, rfl⟩
    | txt s => exact hE'.elim
    | step word e => exact hE'.elim
end Go.Proofs.YtakkdpnaoahpcaaDoor
