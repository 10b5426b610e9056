/-
  Contracts of the errors' package (fault.New, fault.fault, fault.Code, fault.At, errors.As at *api.Fault) over this seat's translation; for faults without steps, and nil.
-/
import Derived.Test.YtmonepclhbappaaDoorProg
import Derived.WalkKit
import Derived.LaidEql
import Derived.Stop.Asserts
import Derived.RowKitTokens
import Derived.Deep.Draws
import Derived.Lib.Hide
namespace Go.Proofs.YtmonepclhbappaaDoor
open Go.RowKit Go.Extern.Stop Go.Stop Go.Extern

/-- errors.As(nil, target). -/
theorem as_nil (t : Value) (w : World) :
    Calls Tryd.prog 95 #[.nilIface, t] w fun e w' => e = .returned (.bool false) ∧ w = w' := by
  go_enter Tryd.func95, Tryd.ntmps95
  go_wp2
  go_ret
  exact ⟨rfl, rfl⟩

theorem fx_valueOf (t : Addr) (w : World) : (ReflectliteValue.unpack (.iface 162 (.pointer (some t)))).run Tryd.prog w
    = .ok (.agg #[.pointer (some ⟨5, 162, none⟩), .pointer (some ⟨w.heap.size, 0, none⟩), .int .u64 150]) (w.alloc (.cells #[.pointer (some t)] 162)) := by kernel_rfl
theorem fx_type (a : Addr) (w : World) : (ReflectliteValue.methodAny (ReflectliteValue.valueError "reflectlite.Value.Type" 0) (fun t _ _ _ => ReflectliteType.toType t) #[.agg #[.pointer (some ⟨5, 162, none⟩), .pointer (some a), .int .u64 150]]).run Tryd.prog w
    = .ok (.iface 195 (.agg #[.pointer (some ⟨5, 162, none⟩)])) w := by kernel_rfl
theorem fx_methodKind (h : Value) (w : World) : (Go.method 359 195 (.agg #[h]) "Kind").run Tryd.prog w = .ok (168, h) w := by kernel_rfl
theorem fx_kindPP (w : World) : ((ReflectliteType.abiMethod fun t => (fun a : Nat => Value.int IntKind.u8 (a : Int)) <$> Rtype.kind t) #[.pointer (some ⟨5, 162, none⟩)]).run Tryd.prog w = .ok (.int .u8 22) w := by kernel_rfl
theorem fx_kindP (w : World) : ((ReflectliteType.abiMethod fun t => (fun a : Nat => Value.int IntKind.u8 (a : Int)) <$> Rtype.kind t) #[.pointer (some ⟨5, 128, none⟩)]).run Tryd.prog w = .ok (.int .u8 22) w := by kernel_rfl
theorem rlm (z : Sem Value) (f : TypeId → Addr → Nat → Nat → Sem Value) (v : Value) :
    ReflectliteValue.method z f #[v] = (do match ← ReflectliteValue.parts v with | none => z | some (t, a, fl) => f t a fl (fl % 32)) := rfl
theorem fx_partsPP (a : Addr) (w : World) : (ReflectliteValue.parts (.agg #[.pointer (some ⟨5, 162, none⟩), .pointer (some a), .int .u64 150])).run Tryd.prog w = .ok (some (162, a, 150)) w := by kernel_rfl
theorem fx_isNil (a p : Addr) (W : World) (ha : W.cell? a = some (.pointer (some p))) :
    (ReflectliteValue.method (ReflectliteValue.valueError "reflectlite.Value.IsNil" 0) ReflectliteValue.isNil #[.agg #[.pointer (some ⟨5, 162, none⟩), .pointer (some a), .int .u64 150]]).run Tryd.prog W = .ok (.bool false) W := by
  rw [rlm]
  simp only [Sem.run_bind, fx_partsPP, Result.andThen]
  simp [ReflectliteValue.isNil, loadVar, isAgg, underlying, Tryd.underlying162, ha, Result.andThen]
theorem fx_methodElem (h : Value) (w : World) : (Go.method 359 195 (.agg #[h]) "Elem").run Tryd.prog w = .ok (179, .agg #[h]) w := by kernel_rfl
theorem fx_methodImplements (h : Value) (w : World) : (Go.method 359 195 (.agg #[h]) "Implements").run Tryd.prog w = .ok (180, .agg #[h]) w := by kernel_rfl
theorem fx_methodAssignableTo (h : Value) (w : World) : (Go.method 359 195 (.agg #[h]) "AssignableTo").run Tryd.prog w = .ok (177, .agg #[h]) w := by kernel_rfl
theorem fx_elem (w : World) : (ReflectliteType.method ReflectliteType.elem #[.agg #[.pointer (some ⟨5, 162, none⟩)]]).run Tryd.prog w = .ok (.iface 195 (.agg #[.pointer (some ⟨5, 128, none⟩)])) w := by kernel_rfl
theorem fx_implements (w : World) : (ReflectliteType.relation "Implements" ReflectliteType.implements_ #[.agg #[.pointer (some ⟨5, 128, none⟩)], .iface 195 (.agg #[.pointer (some ⟨5, 33, none⟩)])]).run Tryd.prog w = .ok (.bool true) w := by kernel_rfl
theorem fx_typeOf (v : Value) (w : World) : (ReflectliteType.typeOf #[.iface 128 v]).run Tryd.prog w = .ok (.iface 195 (.agg #[.pointer (some ⟨5, 128, none⟩)])) w := by kernel_rfl
theorem fx_assignable (w : World) : (ReflectliteType.relation "AssignableTo" ReflectliteType.assignableTo #[.agg #[.pointer (some ⟨5, 128, none⟩)], .iface 195 (.agg #[.pointer (some ⟨5, 128, none⟩)])]).run Tryd.prog w = .ok (.bool true) w := by kernel_rfl
theorem fx_valueOfP (e : Addr) (w : World) : (ReflectliteValue.unpack (.iface 128 (.pointer (some e)))).run Tryd.prog w
    = .ok (.agg #[.pointer (some ⟨5, 128, none⟩), .pointer (some ⟨w.heap.size, 0, none⟩), .int .u64 150]) (w.alloc (.cells #[.pointer (some e)] 128)) := by kernel_rfl
theorem fx_elemOf (w : World) : (Rtype.elem? 162).run Tryd.prog w = .ok (some 128) w := by kernel_rfl
theorem fx_mk (p : Addr) (w : World) : (ReflectliteValue.mk 128 p ReflectliteValue.flagAddr).run Tryd.prog w = .ok (.agg #[.pointer (some ⟨5, 128, none⟩), .pointer (some p), .int .u64 406]) w := by kernel_rfl
theorem fx_elemV (a p : Addr) (W : World) (ha : W.cell? a = some (.pointer (some p))) :
    (ReflectliteValue.method (ReflectliteValue.valueError "reflectlite.Value.Elem" 0) ReflectliteValue.elem #[.agg #[.pointer (some ⟨5, 162, none⟩), .pointer (some a), .int .u64 150]]).run Tryd.prog W
      = .ok (.agg #[.pointer (some ⟨5, 128, none⟩), .pointer (some p), .int .u64 406]) W := by
  rw [rlm]
  simp only [Sem.run_bind, fx_partsPP, Result.andThen]
  simp [ReflectliteValue.elem, loadVar, isAgg, underlying, Tryd.underlying162, ha, Result.andThen, fx_elemOf, fx_mk]
theorem rls (v x : Value) : ReflectliteValue.set #[v, x] = (do
    let (some (dst, a, fl), some (src, b, _)) := (← ReflectliteValue.parts v, ← ReflectliteValue.parts x)
      | unsupported (.noEntry "extern/(internal/reflectlite.Value).Set.zeroValue")
    if fl / ReflectliteValue.flagAddr % 2 == 0 then unsupported (.noEntry "extern/(internal/reflectlite.Value).Set.unaddressable")
    let val ← loadVar src b
    if ← Rtype.directlyAssignable dst src then storeVar dst a val
    else if ← Rtype.implements dst src then
      if (← Rtype.kind src) == 20 then
        match val with
        | .nilIface => unsupported (.noEntry "extern/reflectlite: a nil value of one interface type handed on as a value of another")
        | _ => storeVar dst a val
      else storeVar dst a (.iface src val)
    else panicString ("reflectlite.Set: value of type " ++ (← Rtype.spelt src) ++ " is not assignable to type " ++ (← Rtype.spelt dst))
    pure (.tuple #[])) := rfl
theorem fx_partsA (a : Addr) (w : World) : (ReflectliteValue.parts (.agg #[.pointer (some ⟨5, 128, none⟩), .pointer (some a), .int .u64 406])).run Tryd.prog w = .ok (some (128, a, 406)) w := by kernel_rfl
theorem fx_partsP (a : Addr) (w : World) : (ReflectliteValue.parts (.agg #[.pointer (some ⟨5, 128, none⟩), .pointer (some a), .int .u64 150])).run Tryd.prog w = .ok (some (128, a, 150)) w := by kernel_rfl
theorem fx_direct (w : World) : (Rtype.directlyAssignable 128 128).run Tryd.prog w = .ok true w := by kernel_rfl
theorem fx_set (ta b e : Addr) (old : Value) (W : World) (hb : W.cell? b = some (.pointer (some e))) (ht : W.cell? ta = some old) (hf : W.frozen? ta = false) :
    (ReflectliteValue.set #[.agg #[.pointer (some ⟨5, 128, none⟩), .pointer (some ta), .int .u64 406], .agg #[.pointer (some ⟨5, 128, none⟩), .pointer (some b), .int .u64 150]]).run Tryd.prog W
      = .ok (.tuple #[]) (W.setCell ta (.pointer (some e))) := by
  rw [rls]
  simp only [Sem.run_bind, fx_partsA, fx_partsP, Result.andThen]
  simp [ReflectliteValue.flagAddr, loadVar, isAgg, underlying, Tryd.underlying128, hb, Result.andThen, fx_direct, storeVar, Value.cells, storeCells, Addr.add]
  rw [run_store Tryd.prog W ta _ _ (by rfl)]
  simp [ht, hf]


/-- errors.as at an error whose own type is *api.Fault: the target is set. -/
theorem as_in (e t b : Addr) (old : Value) (w : World) (hb0 : w.cell? b = some (.pointer (some t))) (ht0 : w.cell? t = some old) (hf0 : w.frozen? t = false) :
    Calls Tryd.prog 111 #[.iface 128 (.pointer (some e)), .iface 162 (.pointer (some t)), .agg #[.pointer (some ⟨5, 162, none⟩), .pointer (some b), .int .u64 150], .iface 195 (.agg #[.pointer (some ⟨5, 128, none⟩)])] w
      fun ev w' => ev = .returned (.bool true) ∧ ((w.alloc (.cells #[.pointer (some ⟨5, 162, none⟩), .pointer (some b), .int .u64 150] 173)).alloc (.cells #[.pointer (some e)] 128)).setCell t (.pointer (some e)) = w' := by
  have h83 := @run_callFunc_extern Tryd.prog 108 _ (fun args => ReflectliteValue.unpack (args.getD 0 (.tuple #[]))) Tryd.func108 (by kernel_rfl) (by kernel_rfl) (by kernel_rfl) (by kernel_rfl)
  have h87 := @run_callFunc_extern Tryd.prog 127 _ ReflectliteType.typeOf Tryd.func127 (by kernel_rfl) (by kernel_rfl) (by kernel_rfl) (by kernel_rfl)
  have h125 := @run_callFunc_extern Tryd.prog 177 _ (ReflectliteType.relation "AssignableTo" ReflectliteType.assignableTo) Tryd.func177 (by kernel_rfl) (by kernel_rfl) (by kernel_rfl) (by kernel_rfl)
  have h95 := @run_callFunc_extern Tryd.prog 128 _ (ReflectliteValue.method (ReflectliteValue.valueError "reflectlite.Value.Elem" 0) ReflectliteValue.elem) Tryd.func128 (by kernel_rfl) (by kernel_rfl) (by kernel_rfl) (by kernel_rfl)
  have h96 := @run_callFunc_extern Tryd.prog 129 _ ReflectliteValue.set Tryd.func129 (by kernel_rfl) (by kernel_rfl) (by kernel_rfl) (by kernel_rfl)
  have tO := fx_typeOf
  have mA := fx_methodAssignableTo
  have aP := fx_assignable
  have vP := fx_valueOfP
  have htl := World.block_lt_of_cell? w t ht0
  have hbl := World.block_lt_of_cell? w b hb0
  have el := fx_elemV b t (w.alloc (.cells #[.pointer (some ⟨5, 162, none⟩), .pointer (some b), .int .u64 150] 173)) (by rw [World.cell?_alloc_lt _ _ b hbl]; exact hb0)
  have st := fx_set t ⟨w.heap.size + 1, 0, none⟩ e old ((w.alloc (.cells #[.pointer (some ⟨5, 162, none⟩), .pointer (some b), .int .u64 150] 173)).alloc (.cells #[.pointer (some e)] 128))
    (by rw [World.cell?_alloc_at _ _ _ _ (by simp)]; rfl)
    (by rw [World.cell?_alloc_lt _ _ t (by simp; omega), World.cell?_alloc_lt _ _ t htl]; exact ht0)
    (by rw [World.frozen?_alloc_old _ _ t (by simp; omega), World.frozen?_alloc_old _ _ t (Nat.ne_of_lt htl)]; exact hf0)
  go_enter Tryd.func111, Tryd.ntmps111
  go_wp2
  refine wp_loop_rounds 1 ?_
  rw [rounds_succ]
  go_wp2
  go_ret
  exact ⟨rfl, rfl⟩
/-- errors.As(a fault, target): the target is set. -/
theorem as_hit (e t : Addr) (old : Value) (w : World) (hg : w.cell? ⟨0, 0, none⟩ = some (.iface 195 (.agg #[.pointer (some ⟨5, 33, none⟩)]))) (ht0 : w.cell? t = some old) (hf0 : w.frozen? t = false) :
    Calls Tryd.prog 95 #[.iface 128 (.pointer (some e)), .iface 162 (.pointer (some t))] w fun ev w' => ev = .returned (.bool true) ∧
      ((((w.alloc (.cells #[.pointer (some t)] 162)).alloc (.cells #[.pointer (some ⟨5, 162, none⟩), .pointer (some ⟨w.heap.size, 0, none⟩), .int .u64 150] 173)).alloc (.cells #[.pointer (some ⟨5, 162, none⟩), .pointer (some ⟨w.heap.size, 0, none⟩), .int .u64 150] 173)).alloc (.cells #[.pointer (some e)] 128)).setCell t (.pointer (some e)) = w' := by
  have h83 := @run_callFunc_extern Tryd.prog 108 _ (fun args => ReflectliteValue.unpack (args.getD 0 (.tuple #[]))) Tryd.func108 (by kernel_rfl) (by kernel_rfl) (by kernel_rfl) (by kernel_rfl)
  have h84 := @run_callFunc_extern Tryd.prog 109 _ (ReflectliteValue.methodAny (ReflectliteValue.valueError "reflectlite.Value.Type" 0) (fun t _ _ _ => ReflectliteType.toType t)) Tryd.func109 (by kernel_rfl) (by kernel_rfl) (by kernel_rfl) (by kernel_rfl)
  have h85 := @run_callFunc_extern Tryd.prog 110 _ (ReflectliteValue.method (ReflectliteValue.valueError "reflectlite.Value.IsNil" 0) ReflectliteValue.isNil) Tryd.func110 (by kernel_rfl) (by kernel_rfl) (by kernel_rfl) (by kernel_rfl)
  have h112 := @run_callFunc_extern Tryd.prog 168 _ (ReflectliteType.abiMethod fun t => do pure (.int .u8 (← Rtype.kind t))) Tryd.func168 (by kernel_rfl) (by kernel_rfl) (by kernel_rfl) (by kernel_rfl)
  have h127 := @run_callFunc_extern Tryd.prog 179 _ (ReflectliteType.method ReflectliteType.elem) Tryd.func179 (by kernel_rfl) (by kernel_rfl) (by kernel_rfl) (by kernel_rfl)
  have h128 := @run_callFunc_extern Tryd.prog 180 _ (ReflectliteType.relation "Implements" ReflectliteType.implements_) Tryd.func180 (by kernel_rfl) (by kernel_rfl) (by kernel_rfl) (by kernel_rfl)
  have f83 := fx_valueOf
  have f84 := fx_type
  have mK := fx_methodKind
  have mE := fx_methodElem
  have mI := fx_methodImplements
  have kPP := fx_kindPP
  have kP := fx_kindP
  have eP := fx_elem
  have iP := fx_implements
  have hlt : 0 < w.heap.size := World.block_lt_of_cell? w _ hg
  have htl := World.block_lt_of_cell? w t ht0
  have n8 := fx_isNil ⟨w.heap.size, 0, none⟩ t ((w.alloc (.cells #[.pointer (some t)] 162)).alloc (.cells #[.pointer (some ⟨5, 162, none⟩), .pointer (some ⟨w.heap.size, 0, none⟩), .int .u64 150] 173)) (by simp)
  have hg2 : ((w.alloc (.cells #[.pointer (some t)] 162)).alloc (.cells #[.pointer (some ⟨5, 162, none⟩), .pointer (some ⟨w.heap.size, 0, none⟩), .int .u64 150] 173)).cell? ⟨0, 0, none⟩ = some (.iface 195 (.agg #[.pointer (some ⟨5, 33, none⟩)])) := by
    rw [World.cell?_alloc_lt _ _ ⟨0, 0, none⟩ (by simp <;> omega), World.cell?_alloc_lt _ _ ⟨0, 0, none⟩ hlt]; exact hg
  have hin := as_in e t ⟨w.heap.size, 0, none⟩ old ((w.alloc (.cells #[.pointer (some t)] 162)).alloc (.cells #[.pointer (some ⟨5, 162, none⟩), .pointer (some ⟨w.heap.size, 0, none⟩), .int .u64 150] 173))
    (by rw [World.cell?_alloc_lt _ _ ⟨w.heap.size, 0, none⟩ (by simp)]; simp)
    (by rw [World.cell?_alloc_lt _ _ t (by simp; omega), World.cell?_alloc_lt _ _ t htl]; exact ht0)
    (by rw [World.frozen?_alloc_old _ _ t (by simp; omega), World.frozen?_alloc_old _ _ t (Nat.ne_of_lt htl)]; exact hf0)
  have HIN := Lib.hid hin
  clear hin
  go_enter Tryd.func95, Tryd.ntmps95
  go_wp2_with (go_at_call 111; refine HIN.out.mono ?_; rintro ev w' ⟨rfl, rfl⟩)
  go_ret
  exact ⟨rfl, rfl⟩
end Go.Proofs.YtmonepclhbappaaDoor
