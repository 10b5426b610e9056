/-
  Part 1 of the proof of LoadMore: Fault, Words, Err, Frame.
-/
import Derived.Test.YtbbmgcdocolakaaGreatDoorProg
import Derived.WalkKit
import Derived.LaidEql
import Derived.Stop.Asserts
import Derived.RowKitTokens
import Derived.Deep.Draws
import Derived.Lib.Hide
import Derived.WalkSmall
import Derived.Test.YtbbmgcdocolakaaGreatDoorCards
import Derived.Test.YtbbmgcdocolakaaGreatDoorTie
import Derived.ProofKit
import Derived.OpenShut
import Derived.ShutString
import Derived.ChangeOld
import Derived.Deep.DeepHandedRow
import Derived.Deep.Slices
import Derived.Deep.Strs
import Derived.LaidHandle
import Derived.SevenTiedAt
set_option linter.unusedVariables false
/-
  Contracts of the errors' package (fault.New, fault.fault, fault.Code, fault.At, errors.As at *api.Fault) over this seat's translation; for faults without steps, and nil.
-/
namespace Go.Proofs.YtbbmgcdocolakaaGreatDoor
open Go.RowKit Go.Extern.Stop Go.Stop Go.Extern

/-- errors.As(nil, target). -/
theorem as_nil (t : Value) (w : World) :
    Calls Tryz.prog 66 #[.nilIface, t] w fun e w' => e = .returned (.bool false) ∧ w = w' := by
  go_enter Tryz.func66, Tryz.ntmps66
  go_wp2
  go_ret
  exact ⟨rfl, rfl⟩

theorem fx_valueOf (t : Addr) (w : World) : (ReflectliteValue.unpack (.iface 117 (.pointer (some t)))).run Tryz.prog w
    = .ok (.agg #[.pointer (some ⟨7, 117, none⟩), .pointer (some ⟨w.heap.size, 0, none⟩), .int .u64 150]) (w.alloc (.cells #[.pointer (some t)] 117)) := by kernel_rfl
theorem fx_type (a : Addr) (w : World) : (ReflectliteValue.methodAny (ReflectliteValue.valueError "reflectlite.Value.Type" 0) (fun t _ _ _ => ReflectliteType.toType t) #[.agg #[.pointer (some ⟨7, 117, none⟩), .pointer (some a), .int .u64 150]]).run Tryz.prog w
    = .ok (.iface 178 (.agg #[.pointer (some ⟨7, 117, none⟩)])) w := by kernel_rfl
theorem fx_methodKind (h : Value) (w : World) : (Go.method 343 178 (.agg #[h]) "Kind").run Tryz.prog w = .ok (157, h) w := by kernel_rfl
theorem fx_kindPP (w : World) : ((ReflectliteType.abiMethod fun t => (fun a : Nat => Value.int IntKind.u8 (a : Int)) <$> Rtype.kind t) #[.pointer (some ⟨7, 117, none⟩)]).run Tryz.prog w = .ok (.int .u8 22) w := by kernel_rfl
theorem fx_kindP (w : World) : ((ReflectliteType.abiMethod fun t => (fun a : Nat => Value.int IntKind.u8 (a : Int)) <$> Rtype.kind t) #[.pointer (some ⟨7, 78, none⟩)]).run Tryz.prog w = .ok (.int .u8 22) w := by kernel_rfl
theorem rlm (z : Sem Value) (f : TypeId → Addr → Nat → Nat → Sem Value) (v : Value) :
    ReflectliteValue.method z f #[v] = (do match ← ReflectliteValue.parts v with | none => z | some (t, a, fl) => f t a fl (fl % 32)) := rfl
theorem fx_partsPP (a : Addr) (w : World) : (ReflectliteValue.parts (.agg #[.pointer (some ⟨7, 117, none⟩), .pointer (some a), .int .u64 150])).run Tryz.prog w = .ok (some (117, a, 150)) w := by kernel_rfl
theorem fx_isNil (a p : Addr) (W : World) (ha : W.cell? a = some (.pointer (some p))) :
    (ReflectliteValue.method (ReflectliteValue.valueError "reflectlite.Value.IsNil" 0) ReflectliteValue.isNil #[.agg #[.pointer (some ⟨7, 117, none⟩), .pointer (some a), .int .u64 150]]).run Tryz.prog W = .ok (.bool false) W := by
  rw [rlm]
  simp only [Sem.run_bind, fx_partsPP, Result.andThen]
  simp [ReflectliteValue.isNil, loadVar, isAgg, underlying, Tryz.underlying117, ha, Result.andThen]
theorem fx_methodElem (h : Value) (w : World) : (Go.method 343 178 (.agg #[h]) "Elem").run Tryz.prog w = .ok (171, .agg #[h]) w := by kernel_rfl
theorem fx_methodImplements (h : Value) (w : World) : (Go.method 343 178 (.agg #[h]) "Implements").run Tryz.prog w = .ok (172, .agg #[h]) w := by kernel_rfl
theorem fx_methodAssignableTo (h : Value) (w : World) : (Go.method 343 178 (.agg #[h]) "AssignableTo").run Tryz.prog w = .ok (169, .agg #[h]) w := by kernel_rfl
theorem fx_elem (w : World) : (ReflectliteType.method ReflectliteType.elem #[.agg #[.pointer (some ⟨7, 117, none⟩)]]).run Tryz.prog w = .ok (.iface 178 (.agg #[.pointer (some ⟨7, 78, none⟩)])) w := by kernel_rfl
theorem fx_implements (w : World) : (ReflectliteType.relation "Implements" ReflectliteType.implements_ #[.agg #[.pointer (some ⟨7, 78, none⟩)], .iface 178 (.agg #[.pointer (some ⟨7, 34, none⟩)])]).run Tryz.prog w = .ok (.bool true) w := by kernel_rfl
theorem fx_typeOf (v : Value) (w : World) : (ReflectliteType.typeOf #[.iface 78 v]).run Tryz.prog w = .ok (.iface 178 (.agg #[.pointer (some ⟨7, 78, none⟩)])) w := by kernel_rfl
theorem fx_assignable (w : World) : (ReflectliteType.relation "AssignableTo" ReflectliteType.assignableTo #[.agg #[.pointer (some ⟨7, 78, none⟩)], .iface 178 (.agg #[.pointer (some ⟨7, 78, none⟩)])]).run Tryz.prog w = .ok (.bool true) w := by kernel_rfl
theorem fx_valueOfP (e : Addr) (w : World) : (ReflectliteValue.unpack (.iface 78 (.pointer (some e)))).run Tryz.prog w
    = .ok (.agg #[.pointer (some ⟨7, 78, none⟩), .pointer (some ⟨w.heap.size, 0, none⟩), .int .u64 150]) (w.alloc (.cells #[.pointer (some e)] 78)) := by kernel_rfl
theorem fx_elemOf (w : World) : (Rtype.elem? 117).run Tryz.prog w = .ok (some 78) w := by kernel_rfl
theorem fx_mk (p : Addr) (w : World) : (ReflectliteValue.mk 78 p ReflectliteValue.flagAddr).run Tryz.prog w = .ok (.agg #[.pointer (some ⟨7, 78, none⟩), .pointer (some p), .int .u64 406]) w := by kernel_rfl
theorem fx_elemV (a p : Addr) (W : World) (ha : W.cell? a = some (.pointer (some p))) :
    (ReflectliteValue.method (ReflectliteValue.valueError "reflectlite.Value.Elem" 0) ReflectliteValue.elem #[.agg #[.pointer (some ⟨7, 117, none⟩), .pointer (some a), .int .u64 150]]).run Tryz.prog W
      = .ok (.agg #[.pointer (some ⟨7, 78, none⟩), .pointer (some p), .int .u64 406]) W := by
  rw [rlm]
  simp only [Sem.run_bind, fx_partsPP, Result.andThen]
  simp [ReflectliteValue.elem, loadVar, isAgg, underlying, Tryz.underlying117, ha, Result.andThen, fx_elemOf, fx_mk]
theorem rls (v x : Value) : ReflectliteValue.set #[v, x] = (do
    let (some (dst, a, fl), some (src, b, _)) := (← ReflectliteValue.parts v, ← ReflectliteValue.parts x)
      | unsupported (.noEntry "extern/(internal/reflectlite.Value).Set.zeroValue")
    if fl / ReflectliteValue.flagAddr % 2 == 0 then unsupported (.noEntry "extern/(internal/reflectlite.Value).Set.unaddressable")
    let val ← loadVar src b
    if ← Rtype.directlyAssignable dst src then storeVar dst a val
    else if ← Rtype.implements dst src then
      if (← Rtype.kind src) == 20 then
        match val with
        | .nilIface => unsupported (.noEntry "extern/reflectlite: a nil value of one interface type handed on as a value of another")
        | _ => storeVar dst a val
      else storeVar dst a (.iface src val)
    else panicString ("reflectlite.Set: value of type " ++ (← Rtype.spelt src) ++ " is not assignable to type " ++ (← Rtype.spelt dst))
    pure (.tuple #[])) := rfl
theorem fx_partsA (a : Addr) (w : World) : (ReflectliteValue.parts (.agg #[.pointer (some ⟨7, 78, none⟩), .pointer (some a), .int .u64 406])).run Tryz.prog w = .ok (some (78, a, 406)) w := by kernel_rfl
theorem fx_partsP (a : Addr) (w : World) : (ReflectliteValue.parts (.agg #[.pointer (some ⟨7, 78, none⟩), .pointer (some a), .int .u64 150])).run Tryz.prog w = .ok (some (78, a, 150)) w := by kernel_rfl
theorem fx_direct (w : World) : (Rtype.directlyAssignable 78 78).run Tryz.prog w = .ok true w := by kernel_rfl
theorem fx_set (ta b e : Addr) (old : Value) (W : World) (hb : W.cell? b = some (.pointer (some e))) (ht : W.cell? ta = some old) (hf : W.frozen? ta = false) :
    (ReflectliteValue.set #[.agg #[.pointer (some ⟨7, 78, none⟩), .pointer (some ta), .int .u64 406], .agg #[.pointer (some ⟨7, 78, none⟩), .pointer (some b), .int .u64 150]]).run Tryz.prog W
      = .ok (.tuple #[]) (W.setCell ta (.pointer (some e))) := by
  rw [rls]
  simp only [Sem.run_bind, fx_partsA, fx_partsP, Result.andThen]
  simp [ReflectliteValue.flagAddr, loadVar, isAgg, underlying, Tryz.underlying78, hb, Result.andThen, fx_direct, storeVar, Value.cells, storeCells, Addr.add]
  rw [run_store Tryz.prog W ta _ _ (by rfl)]
  simp [ht, hf]


/-- errors.as at an error whose own type is *api.Fault: the target is set. -/
theorem as_in (e t b : Addr) (old : Value) (w : World) (hb0 : w.cell? b = some (.pointer (some t))) (ht0 : w.cell? t = some old) (hf0 : w.frozen? t = false) :
    Calls Tryz.prog 92 #[.iface 78 (.pointer (some e)), .iface 117 (.pointer (some t)), .agg #[.pointer (some ⟨7, 117, none⟩), .pointer (some b), .int .u64 150], .iface 178 (.agg #[.pointer (some ⟨7, 78, none⟩)])] w
      fun ev w' => ev = .returned (.bool true) ∧ ((w.alloc (.cells #[.pointer (some ⟨7, 117, none⟩), .pointer (some b), .int .u64 150] 148)).alloc (.cells #[.pointer (some e)] 78)).setCell t (.pointer (some e)) = w' := by
  have h83 := @run_callFunc_extern Tryz.prog 89 _ (fun args => ReflectliteValue.unpack (args.getD 0 (.tuple #[]))) Tryz.func89 (by kernel_rfl) (by kernel_rfl) (by kernel_rfl) (by kernel_rfl)
  have h87 := @run_callFunc_extern Tryz.prog 118 _ ReflectliteType.typeOf Tryz.func118 (by kernel_rfl) (by kernel_rfl) (by kernel_rfl) (by kernel_rfl)
  have h125 := @run_callFunc_extern Tryz.prog 169 _ (ReflectliteType.relation "AssignableTo" ReflectliteType.assignableTo) Tryz.func169 (by kernel_rfl) (by kernel_rfl) (by kernel_rfl) (by kernel_rfl)
  have h95 := @run_callFunc_extern Tryz.prog 119 _ (ReflectliteValue.method (ReflectliteValue.valueError "reflectlite.Value.Elem" 0) ReflectliteValue.elem) Tryz.func119 (by kernel_rfl) (by kernel_rfl) (by kernel_rfl) (by kernel_rfl)
  have h96 := @run_callFunc_extern Tryz.prog 120 _ ReflectliteValue.set Tryz.func120 (by kernel_rfl) (by kernel_rfl) (by kernel_rfl) (by kernel_rfl)
  have tO := fx_typeOf
  have mA := fx_methodAssignableTo
  have aP := fx_assignable
  have vP := fx_valueOfP
  have htl := World.block_lt_of_cell? w t ht0
  have hbl := World.block_lt_of_cell? w b hb0
  have el := fx_elemV b t (w.alloc (.cells #[.pointer (some ⟨7, 117, none⟩), .pointer (some b), .int .u64 150] 148)) (by rw [World.cell?_alloc_lt _ _ b hbl]; exact hb0)
  have st := fx_set t ⟨w.heap.size + 1, 0, none⟩ e old ((w.alloc (.cells #[.pointer (some ⟨7, 117, none⟩), .pointer (some b), .int .u64 150] 148)).alloc (.cells #[.pointer (some e)] 78))
    (by rw [World.cell?_alloc_at _ _ _ _ (by simp)]; rfl)
    (by rw [World.cell?_alloc_lt _ _ t (by simp; omega), World.cell?_alloc_lt _ _ t htl]; exact ht0)
    (by rw [World.frozen?_alloc_old _ _ t (by simp; omega), World.frozen?_alloc_old _ _ t (Nat.ne_of_lt htl)]; exact hf0)
  go_enter Tryz.func92, Tryz.ntmps92
  go_wp2
  refine wp_loop_rounds 1 ?_
  rw [rounds_succ]
  go_wp2
  go_ret
  exact ⟨rfl, rfl⟩
/-- errors.As(a fault, target): the target is set. -/
theorem as_hit (e t : Addr) (old : Value) (w : World) (hg : w.cell? ⟨0, 0, none⟩ = some (.iface 178 (.agg #[.pointer (some ⟨7, 34, none⟩)]))) (ht0 : w.cell? t = some old) (hf0 : w.frozen? t = false) :
    Calls Tryz.prog 66 #[.iface 78 (.pointer (some e)), .iface 117 (.pointer (some t))] w fun ev w' => ev = .returned (.bool true) ∧
      ((((w.alloc (.cells #[.pointer (some t)] 117)).alloc (.cells #[.pointer (some ⟨7, 117, none⟩), .pointer (some ⟨w.heap.size, 0, none⟩), .int .u64 150] 148)).alloc (.cells #[.pointer (some ⟨7, 117, none⟩), .pointer (some ⟨w.heap.size, 0, none⟩), .int .u64 150] 148)).alloc (.cells #[.pointer (some e)] 78)).setCell t (.pointer (some e)) = w' := by
  have h83 := @run_callFunc_extern Tryz.prog 89 _ (fun args => ReflectliteValue.unpack (args.getD 0 (.tuple #[]))) Tryz.func89 (by kernel_rfl) (by kernel_rfl) (by kernel_rfl) (by kernel_rfl)
  have h84 := @run_callFunc_extern Tryz.prog 90 _ (ReflectliteValue.methodAny (ReflectliteValue.valueError "reflectlite.Value.Type" 0) (fun t _ _ _ => ReflectliteType.toType t)) Tryz.func90 (by kernel_rfl) (by kernel_rfl) (by kernel_rfl) (by kernel_rfl)
  have h85 := @run_callFunc_extern Tryz.prog 91 _ (ReflectliteValue.method (ReflectliteValue.valueError "reflectlite.Value.IsNil" 0) ReflectliteValue.isNil) Tryz.func91 (by kernel_rfl) (by kernel_rfl) (by kernel_rfl) (by kernel_rfl)
  have h112 := @run_callFunc_extern Tryz.prog 157 _ (ReflectliteType.abiMethod fun t => do pure (.int .u8 (← Rtype.kind t))) Tryz.func157 (by kernel_rfl) (by kernel_rfl) (by kernel_rfl) (by kernel_rfl)
  have h127 := @run_callFunc_extern Tryz.prog 171 _ (ReflectliteType.method ReflectliteType.elem) Tryz.func171 (by kernel_rfl) (by kernel_rfl) (by kernel_rfl) (by kernel_rfl)
  have h128 := @run_callFunc_extern Tryz.prog 172 _ (ReflectliteType.relation "Implements" ReflectliteType.implements_) Tryz.func172 (by kernel_rfl) (by kernel_rfl) (by kernel_rfl) (by kernel_rfl)
  have f83 := fx_valueOf
  have f84 := fx_type
  have mK := fx_methodKind
  have mE := fx_methodElem
  have mI := fx_methodImplements
  have kPP := fx_kindPP
  have kP := fx_kindP
  have eP := fx_elem
  have iP := fx_implements
  have hlt : 0 < w.heap.size := World.block_lt_of_cell? w _ hg
  have htl := World.block_lt_of_cell? w t ht0
  have n8 := fx_isNil ⟨w.heap.size, 0, none⟩ t ((w.alloc (.cells #[.pointer (some t)] 117)).alloc (.cells #[.pointer (some ⟨7, 117, none⟩), .pointer (some ⟨w.heap.size, 0, none⟩), .int .u64 150] 148)) (by simp)
  have hg2 : ((w.alloc (.cells #[.pointer (some t)] 117)).alloc (.cells #[.pointer (some ⟨7, 117, none⟩), .pointer (some ⟨w.heap.size, 0, none⟩), .int .u64 150] 148)).cell? ⟨0, 0, none⟩ = some (.iface 178 (.agg #[.pointer (some ⟨7, 34, none⟩)])) := by
    rw [World.cell?_alloc_lt _ _ ⟨0, 0, none⟩ (by simp <;> omega), World.cell?_alloc_lt _ _ ⟨0, 0, none⟩ hlt]; exact hg
  have hin := as_in e t ⟨w.heap.size, 0, none⟩ old ((w.alloc (.cells #[.pointer (some t)] 117)).alloc (.cells #[.pointer (some ⟨7, 117, none⟩), .pointer (some ⟨w.heap.size, 0, none⟩), .int .u64 150] 148))
    (by rw [World.cell?_alloc_lt _ _ ⟨w.heap.size, 0, none⟩ (by simp)]; simp)
    (by rw [World.cell?_alloc_lt _ _ t (by simp; omega), World.cell?_alloc_lt _ _ t htl]; exact ht0)
    (by rw [World.frozen?_alloc_old _ _ t (by simp; omega), World.frozen?_alloc_old _ _ t (Nat.ne_of_lt htl)]; exact hf0)
  have HIN := Lib.hid hin
  clear hin
  go_enter Tryz.func66, Tryz.ntmps66
  go_wp2_with (go_at_call 92; refine HIN.out.mono ?_; rintro ev w' ⟨rfl, rfl⟩)
  go_ret
  exact ⟨rfl, rfl⟩
end Go.Proofs.YtbbmgcdocolakaaGreatDoor
/-
  Words for memory that name no function of the program: a slice that reads as cells (Sl), the law of append in one step (wpList_push, wpList_cat), blocks known whole (Blk).
-/
namespace Go.Proofs.YtbbmgcdocolakaaGreatDoor
open Go.RowKit

theorem bel_alloc {B : Nat} {w w1 : World} (h : Below B w w1) (hB : B ≤ w.heap.size) (o : Obj) : Below B w (w1.alloc o) := h.alloc (Nat.le_trans hB h.size) o
theorem bel_al {w w1 : World} (h : Below w.heap.size w w1) (o : Obj) : Below w.heap.size w (w1.alloc o) := h.alloc h.size o
theorem bel_set {B : Nat} {w w1 : World} (h : Below B w w1) {p : Addr} (hp : B ≤ p.block) (u : Value) : Below B w (w1.setCell p u) := h.setCell hp u
theorem bel_drewN {B : Nat} {w w1 : World} (h : Below B w w1) (n : Nat) : Below B w (w1.drewN n) := below_drewN h n

theorem _root_.Go.RowKit.Below.andThen {w w1 w2 : World} (h : Below w.heap.size w w1) (k : Below w1.heap.size w1 w2) : Below w.heap.size w w2 := h.trans (k.mono h.size)

/-- Block g is just the cells cs of element type t, none frozen. -/
def Blk (w : World) (g : Nat) (t : TypeId) (cs : Array Value) : Prop := w.heap[g]? = some (.cells cs t (0, 0))

section
variable {w w' : World} {g : Nat} {t : TypeId} {cs : Array Value}
theorem Blk.lt (h : Blk w g t cs) : g < w.heap.size := by
  rcases Nat.lt_or_ge g w.heap.size with hlt | hge
  · exact hlt
  · unfold Blk at h; rw [Array.getElem?_eq_none hge] at h; cases h
theorem Blk.cell (h : Blk w g t cs) (i : Nat) : w.cell? ⟨g, i, none⟩ = cs[i]? := cell_of_row w g i cs t (0, 0) h
theorem Blk.frozen (h : Blk w g t cs) (i : Nat) : w.frozen? ⟨g, i, none⟩ = false := by
  unfold Blk at h
  simp [World.frozen?, h]
theorem Blk.new (w : World) (t : TypeId) (cs : Array Value) : Blk (w.alloc (.cells cs t)) w.heap.size t cs := heap_alloc_new w _
theorem Blk.drew (h : Blk w g t cs) : Blk w.drew g t cs := h
theorem Blk.drewN (h : Blk w g t cs) (n : Nat) : Blk (w.drewN n) g t cs := h
theorem Blk.alloc (h : Blk w g t cs) (o : Obj) : Blk (w.alloc o) g t cs := (Below.heap_alloc w o g h.lt).trans h
theorem Blk.set_ (h : Blk w g t cs) (i : Nat) (u : Value) : Blk (w.setCell ⟨g, i, none⟩ u) g t (cs.setIfInBounds i u) := by
  unfold Blk at h ⊢
  simp [World.setCell, Array.getElem?_modify, h]
theorem Blk.far (h : Blk w g t cs) {p : Addr} (hp : g ≠ p.block) (u : Value) : Blk (w.setCell p u) g t cs := (Below.heap_setCell w p u g hp).trans h
theorem Blk.below {B : Nat} (h : Blk w g t cs) (hb : Below B w w') (hg : g < B) : Blk w' g t cs := (hb.block g hg).trans h
theorem Blk.grown {row : Option Nat} (h : Blk w g t cs) (hb : w.grownBy w' row) (hg : some g ≠ row) : Blk w' g t cs := (hb.block g h.lt hg).trans h
theorem Blk.keep (h : Blk w g t cs) (hb : Below w.heap.size w w') : Blk w' g t cs := h.below hb h.lt
end

/-- The slice that begins at A and has n elements of s cells each reads as the cells xs. -/
def Sl (w : World) (s : Nat) (A : Option Addr) (n : Nat) (xs : List Value) : Prop :=
  xs.length = n * s ∧ (0 < n → ∃ b off, A = some ⟨b, off, none⟩ ∧ ∀ j u, xs[j]? = some u → w.cell? ⟨b, off + j, none⟩ = some u)

section
variable {w w' : World} {s n : Nat} {A : Option Addr} {xs : List Value}
theorem Sl.nil (w : World) (s : Nat) (A : Option Addr) : Sl w s A 0 [] := ⟨by simp, fun h => absurd h (by omega)⟩
theorem Sl.keep (h : Sl w s A n xs) (hb : Below w.heap.size w w') : Sl w' s A n xs :=
  ⟨h.1, fun hn => by
    obtain ⟨b, off, hA, hc⟩ := h.2 hn
    exact ⟨b, off, hA, fun j u hu => (hb.cell (World.block_lt_of_cell? w _ (hc j u hu))).trans (hc j u hu)⟩⟩
theorem Sl.alloc (h : Sl w s A n xs) (o : Obj) : Sl (w.alloc o) s A n xs := h.keep ((Below.refl _ _).alloc (Nat.le_refl _) o)
theorem Sl.drew (h : Sl w s A n xs) : Sl w.drew s A n xs := h
theorem Sl.drewN (h : Sl w s A n xs) (k : Nat) : Sl (w.drewN k) s A n xs := h
theorem Sl.at_ {k : Nat} (h : Sl w s A n xs) (hk : k < n) : ∃ b off, A = some ⟨b, off, none⟩ ∧ ∀ j, j < s → ∃ u, xs[k * s + j]? = some u ∧ w.cell? ⟨b, off + (k * s + j), none⟩ = some u := by
  obtain ⟨b, off, hA, hc⟩ := h.2 (by omega)
  refine ⟨b, off, hA, fun j hj => ?_⟩
  have hl : k * s + j < xs.length := by
    rw [h.1]
    have : (k + 1) * s ≤ n * s := Nat.mul_le_mul_right _ hk
    rw [Nat.add_mul] at this
    omega
  exact ⟨xs[k * s + j], List.getElem?_eq_getElem hl, hc _ _ (List.getElem?_eq_getElem hl)⟩
theorem Sl.one {k : Nat} (h : Sl w 1 A n xs) (hk : k < n) : ∃ b off u, A = some ⟨b, off, none⟩ ∧ xs[k]? = some u ∧ w.cell? ⟨b, off + k, none⟩ = some u := by
  obtain ⟨b, off, hA, hc⟩ := h.at_ hk
  obtain ⟨u, h1, h2⟩ := hc 0 (by omega)
  simp at h1 h2
  exact ⟨b, off, u, hA, h1, h2⟩
theorem Sl.of_own {base : Nat} {e : TypeId} {c : Nat} (h : w.ownsRow base e s (.slice A n c) n xs) : Sl w s A n xs := by
  refine ⟨h.1, fun hn => ?_⟩
  rcases h.2 with ⟨h1, h2⟩ | ⟨g, cap, cur, hv, _, hg, _, _, _, htake⟩
  · omega
  · injection hv with hv1 hv2 hv3
    refine ⟨g, 0, hv1, fun j u hu => ?_⟩
    rw [Nat.zero_add, cell_of_row w g j cur e (0, 0) hg]
    rw [← htake, List.getElem?_take] at hu
    split at hu
    · simpa using hu
    · cases hu
theorem Sl.own {base : Nat} {e : TypeId} {v : Value} (h : w.ownsRow base e s v n xs) : ∃ A c, v = .slice A n c ∧ Sl w s A n xs := by
  rcases h.2 with ⟨rfl, rfl⟩ | ⟨g, cap, cur, rfl, _⟩
  · exact ⟨none, 0, rfl, Sl.of_own (c := 0) h⟩
  · exact ⟨_, cap, rfl, Sl.of_own h⟩
end

theorem Sl.new (w : World) (cs : Array Value) (e : TypeId) : Sl (w.alloc (.cells cs e)) 1 (some ⟨w.heap.size, 0, none⟩) cs.size cs.toList :=
  ⟨by simp, fun _ => ⟨_, _, rfl, fun j u hu => by rw [Nat.zero_add, World.cell?_alloc_new]; simpa using hu⟩⟩

/-- A slice type t of elements e: its element's zero value, cells and bytes. -/
structure Elem (P : Program) (t e : TypeId) (z : Value) (size bytes : Nat) : Prop where
  ht : P.underlying t = some (.slice e)
  hi : (P.info? e).map (fun i => (i.zero, i.size, i.bytes)) = some (some z, size, bytes)
  hzs : z.cells.size = size
  hsz : 0 < size

/-- A block of other cells than a row's stays while that row grows. -/
theorem Blk.others {w w' : World} {g B size n : Nat} {t e : TypeId} {cs : Array Value} {v : Value} {xs : List Value} (h : Blk w g t cs) (hown : w.ownsRow B e size v n xs) (hg : w.grownBy w' v.ownBlock) (hne : t ≠ e) : Blk w' g t cs := by
  refine h.grown hg ?_
  rcases hown.2 with ⟨rfl, _⟩ | ⟨g', cap, cur, rfl, _, hgg, _⟩
  · intro hc; simp [Value.ownBlock] at hc
  · intro hc
    obtain rfl : g = g' := by simpa [Value.ownBlock] using hc
    unfold Blk at h
    rw [h] at hgg
    injection hgg with hgg
    injection hgg with _ ht
    exact hne ht

/-- The length below which no append ever stops for want of room. -/
def lim : Nat := 140737488355328
theorem lim_eq : lim = 140737488355328 := rfl

theorem cells_of_new (w : World) (cs : Array Value) (e : TypeId) : ∀ j u, cs.toList[j]? = some u → (w.alloc (.cells cs e)).cell? ((⟨w.heap.size, 0, none⟩ : Addr).add j) = some u := by
  intro j u hu
  have hadd : (⟨w.heap.size, 0, none⟩ : Addr).add j = ⟨w.heap.size, j, none⟩ := by unfold Addr.add; split <;> simp_all
  rw [hadd, World.cell?_alloc_new]
  simpa using hu

section
variable {P : Program} {ops : Array Oper} {rest : List Oper} {o : Oper} {a : Act} {Q : Exit → Act → World → Prop}
/-- append(s, x): one element more, onto a slice that the call owns. The element's cells cs lie in the block that was just made. What changes of the world W: the row alone. -/
theorem wpList_push_g {t e : TypeId} {z : Value} {size bytes : Nat} (E : Elem P t e z size bytes) {B : Nat} {W w0 : World} {cs : Array Value} (s x : Operand)
    (hgd : o.guard = none) (ho : o.op = .call { callee := .builtin .append, args := #[s, x], argTypes := #[t, t] })
    {v : Value} {n : Nat} {xs : List Value} (hown : W.ownsRow B e size v n xs) (hbel : Below B w0 W) (hB : B ≤ w0.heap.size)
    (hs : a.eval s = v) (hx : a.eval x = .slice (some ⟨W.heap.size, 0, none⟩) 1 1) (hl : cs.size = size) (h1 : ∀ u ∈ cs.toList, u.oneCell' = true)
    (hlim : (n + 1) * bytes ≤ lim) (hlim' : n + 1 ≤ lim)
    (h : ∀ v' w', w'.ownsRow B e size v' (n + 1) (xs ++ cs.toList) → Below B w0 w' → W.grownBy w' v.ownBlock → wpList P ops Q rest (a.put o.dst v') w') : wpList P ops Q (o :: rest) a (W.alloc (.cells cs e)) := by
  obtain ⟨i, hi, hz, hsize, hby⟩ := info_parts E.hi
  unfold lim at hlim hlim'
  refine wpList_append_own (W.alloc (.cells cs e)) hgd s x t ho B e i z size bytes E.ht hi hz hsize hby E.hzs E.hsz v n xs hs (hown.alloc _) ⟨W.heap.size, 0, none⟩ 1 1 cs.toList hx (by simp [hl]) (cells_of_new W cs e) h1 (by unfold maxLen; omega) hlim (by have := hbel.size; simp; omega) ?_
  intro v' w' h2 h3 _
  refine h v' w' h2 ((bel_alloc hbel hB _).grown h3 (by have := hbel.size; simp; omega) (fun k hk => (hown.lt k hk).1)) ⟨h3.os, h3.tape, h3.output, by have := h3.size; simp at this; omega, fun k hk hne => ?_⟩
  exact (h3.block k (by simp; omega) hne).trans (Below.heap_alloc _ _ _ hk)
theorem wpList_push {t e : TypeId} {z : Value} {size bytes : Nat} (E : Elem P t e z size bytes) {B : Nat} {W w0 : World} {cs : Array Value} (s x : Operand)
    (hgd : o.guard = none) (ho : o.op = .call { callee := .builtin .append, args := #[s, x], argTypes := #[t, t] })
    {v : Value} {n : Nat} {xs : List Value} (hown : W.ownsRow B e size v n xs) (hbel : Below B w0 W) (hB : B ≤ w0.heap.size)
    (hs : a.eval s = v) (hx : a.eval x = .slice (some ⟨W.heap.size, 0, none⟩) 1 1) (hl : cs.size = size) (h1 : ∀ u ∈ cs.toList, u.oneCell' = true)
    (hlim : (n + 1) * bytes ≤ lim) (hlim' : n + 1 ≤ lim)
    (h : ∀ v' w', w'.ownsRow B e size v' (n + 1) (xs ++ cs.toList) → Below B w0 w' → wpList P ops Q rest (a.put o.dst v') w') : wpList P ops Q (o :: rest) a (W.alloc (.cells cs e)) :=
  wpList_push_g E s x hgd ho hown hbel hB hs hx hl h1 hlim hlim' fun v' w' h1 h2 _ => h v' w' h1 h2

/-- append(s, x...): onto a slice that the call owns, what a slice holds that reads. -/
theorem wpList_cat {t e : TypeId} {z : Value} {size bytes : Nat} (E : Elem P t e z size bytes) {B : Nat} {W w0 : World} (s x : Operand)
    (hgd : o.guard = none) (ho : o.op = .call { callee := .builtin .append, args := #[s, x], argTypes := #[t, t] })
    {v : Value} {n : Nat} {xs : List Value} (hown : W.ownsRow B e size v n xs) (hbel : Below B w0 W) (hB : B ≤ w0.heap.size)
    {A : Option Addr} {m c : Nat} {ys : List Value} (hy : Sl W size A m ys)
    (hs : a.eval s = v) (hx : a.eval x = .slice A m c) (h1 : ∀ u ∈ ys, u.oneCell' = true)
    (hlim : (n + m) * bytes ≤ lim) (hlim' : n + m ≤ lim)
    (h : ∀ v' w', w'.ownsRow B e size v' (n + m) (xs ++ ys) → Below B w0 w' → (v' = .slice none 0 0 ↔ v = .slice none 0 0 ∧ m = 0) → wpList P ops Q rest (a.put o.dst v') w') : wpList P ops Q (o :: rest) a W := by
  obtain ⟨i, hi, hz, hsize, hby⟩ := info_parts E.hi
  unfold lim at hlim hlim'
  rcases Nat.eq_zero_or_pos m with hm | hm
  · subst hm
    have hys : ys = [] := List.eq_nil_of_length_eq_zero (by simpa using hy.1)
    subst hys
    rw [List.append_nil] at h
    refine wpList_plain hgd fun K hK => ?_
    have hrun : (Builtin.append_ #[t, t] o.type #[v, .slice A 0 c]).run P W = .ok v W := by
      have ht := E.ht
      rcases hown.2 with ⟨rfl, rfl⟩ | ⟨g, cap, cur, rfl, _, _, hnc, _⟩
      · cases A <;> simp [Builtin.append_, run_underlying ht, sizeOf, typeInfo, hi, Builtin.lenOf, Builtin.firstCells, loadCells, loadCellsFrom]
      · cases A <;> simp [Builtin.append_, run_underlying ht, sizeOf, typeInfo, hi, Builtin.lenOf, Builtin.firstCells, loadCells, loadCellsFrom, hnc, storeCells]
    unfold Oper.wp execOp
    simp only [ho, resolve, invoke, builtin, Sem.run_bind, Sem.run_pure, Result.andThen_ok, List.map_toArray, List.map_cons, List.map_nil, hs, hx, hrun]
    exact hK _ _ (h v W hown hbel (by simp))
  · obtain ⟨b, off, rfl, hc⟩ := hy.2 hm
    refine wpList_append_own W hgd s x t ho B e i z size bytes E.ht hi hz hsize hby E.hzs E.hsz v n xs hs hown ⟨b, off, none⟩ m c ys hx hy.1 (fun j u hu => ?_) h1 (by unfold maxLen; omega) hlim (Nat.le_trans hB hbel.size) ?_
    · have hadd : (⟨b, off, none⟩ : Addr).add j = ⟨b, off + j, none⟩ := by unfold Addr.add; split <;> simp_all
      rw [hadd]; exact hc j u hu
    · intro v' w' h2 h3 h4
      exact h v' w' h2 (hbel.grown h3 (Nat.le_trans hB hbel.size) (fun k hk => (hown.lt k hk).1)) h4
end

theorem wf_i64 {z : Int} (h : (Lit.int .i64 z).wf = true) : -9223372036854775808 ≤ z ∧ z ≤ 9223372036854775807 := by
  simpa [Lit.wf, IntKind.min, IntKind.max, IntKind.bits, IntKind.signed] using h
theorem wf_u8 {z : Int} (h : (Lit.int .u8 z).wf = true) : 0 ≤ z ∧ z ≤ 255 := by
  simpa [Lit.wf, IntKind.min, IntKind.max, IntKind.bits, IntKind.signed] using h
theorem wf_u16 {z : Int} (h : (Lit.int .u16 z).wf = true) : 0 ≤ z ∧ z ≤ 65535 := by
  simpa [Lit.wf, IntKind.min, IntKind.max, IntKind.bits, IntKind.signed] using h

theorem ret_eq {v v' : Value} (h : v = v') : Ending.returned v = Ending.returned v' := by rw [h]
theorem ret_int {k : IntKind} {a b : Int} (h : a = b) : Ending.returned (.int k a) = .returned (.int k b) := by rw [h]
theorem ret_bool {a b : Bool} (h : a = b) : Ending.returned (.bool a) = .returned (.bool b) := by rw [h]
end Go.Proofs.YtbbmgcdocolakaaGreatDoor
/-
  Errors as values in memory, and contracts of fault.New, fault.fault, fault.Code, fault.At for nil and plain faults.
-/
namespace Go.Proofs.YtbbmgcdocolakaaGreatDoor
open Go.RowKit

/-- The one package-level variable that errors.As reads. -/
def ErrT (w : World) : Prop := w.cell? ⟨0, 0, none⟩ = some (.iface 178 (.agg #[.pointer (some ⟨7, 34, none⟩)]))
theorem ErrT.out {w : World} (h : ErrT w) : w.cell? ⟨0, 0, none⟩ = some (.iface 178 (.agg #[.pointer (some ⟨7, 34, none⟩)])) := h
theorem ErrT.lt {w : World} (h : ErrT w) : 0 < w.heap.size := World.block_lt_of_cell? w _ h
theorem ErrT.keep {w w' : World} (h : ErrT w) (hb : Below w.heap.size w w') : ErrT w' := by
  unfold ErrT
  rw [hb.cell (p := ⟨0, 0, none⟩) h.lt]; exact h

/-- What an error is: nothing, a fault, a step around an error, or a text. -/
inductive Err where
  | nil
  | flt (c a : Int) (s : ByteArray)
  | step (word : ByteArray) (e : Err)
  | txt (s : ByteArray)

def Err.code : Err → Int
  | .nil => 0
  | .flt c _ _ => c
  | .step _ e => e.code
  | .txt _ => -1
def Err.at_ : Err → Int
  | .nil => 0
  | .flt _ a _ => a
  | .step _ e => e.at_
  | .txt _ => 0

/-- The value v in the world w is the error E. -/
def Err.At (w : World) : Err → Value → Prop
  | .nil, v => v = .nilIface
  | .flt c a s, v => ∃ g, v = .iface 78 (.pointer (some ⟨g, 0, none⟩)) ∧ Blk w g 81 #[.int .i64 c, .int .i64 a, .string s]
  | .step word e, v => ∃ g v', v = .iface 125 (.pointer (some ⟨g, 0, none⟩)) ∧ Blk w g 127 #[.string word, v'] ∧ e.At w v' ∧ e ≠ .nil
  | .txt _, _ => False

theorem Err.At.keep {w w' : World} (hb : Below w.heap.size w w') : ∀ {E : Err} {v : Value}, E.At w v → E.At w' v
  | .nil, _, h => h
  | .flt _ _ _, _, ⟨g, h1, h2⟩ => ⟨g, h1, h2.keep hb⟩
  | .step _ _, _, ⟨g, v', h1, h2, h3, h4⟩ => ⟨g, v', h1, h2.keep hb, Err.At.keep hb h3, h4⟩

theorem New_calls (c a : Int) (s : ByteArray) (w : World) :
    Calls Tryz.prog 29 #[.int .i64 c, .int .i64 a, .string s] w fun e w' =>
      e = .returned (.iface 78 (.pointer (some ⟨w.heap.size, 0, none⟩))) ∧ w.alloc (.cells #[.int .i64 c, .int .i64 a, .string s] 81) = w' := by
  go_enter Tryz.func29, Tryz.ntmps29
  go_wp2
  go_ret
  exact ⟨rfl, rfl⟩

/-- fault.New: a new fault; what was there stands. -/
theorem New_err (c a : Int) (s : ByteArray) (w : World) :
    Calls Tryz.prog 29 #[.int .i64 c, .int .i64 a, .string s] w fun e w' =>
      ∃ v, e = .returned v ∧ (Err.flt c a s).At w' v ∧ Below w.heap.size w w' :=
  (New_calls c a s w).mono fun e w' ⟨h1, h2⟩ => ⟨_, h1, ⟨_, rfl, by rw [← h2]; exact Blk.new _ _ _⟩, by rw [← h2]; exact (Below.refl _ _).alloc (Nat.le_refl _) _⟩

theorem fault_nil (w : World) : Calls Tryz.prog 37 #[.nilIface] w fun e w' => e = .returned (.pointer none) ∧ Below w.heap.size w w' := by
  go_enter Tryz.func37, Tryz.ntmps37
  go_wp2_with (go_at_call 66; refine (as_nil _ _).mono ?_; rintro e w' ⟨rfl, rfl⟩)
  go_ret
  exact ⟨rfl, (Below.refl _ _).alloc (Nat.le_refl _) _⟩

theorem fault_flt (g : Nat) (w : World) (hg : ErrT w) (_hlt : g < w.heap.size) : Calls Tryz.prog 37 #[.iface 78 (.pointer (some ⟨g, 0, none⟩))] w fun e w' =>
    e = .returned (.pointer (some ⟨g, 0, none⟩)) ∧ Below w.heap.size w w' := by
  have hA := as_hit ⟨g, 0, none⟩ ⟨w.heap.size, 0, none⟩ (.pointer none) (w.alloc (.cells #[.pointer none] 78))
    (by rw [World.cell?_alloc_lt _ _ ⟨0, 0, none⟩ hg.lt]; exact hg) (by simp) (by simp)
  have HA := Lib.hid hA
  clear hA
  go_enter Tryz.func37, Tryz.ntmps37
  go_wp2_with (go_at_call 66; refine HA.out.mono ?_; rintro e w' ⟨rfl, rfl⟩)
  go_ret
  refine ⟨rfl, ?_⟩
  repeat (first | exact Below.refl _ _ | refine bel_alloc ?_ (Nat.le_refl _) _ | refine Below.setCell ?_ (by simp) _)

theorem Code_nil (w : World) : Calls Tryz.prog 15 #[.nilIface] w fun e w' => e = .returned (.int .i64 0) ∧ w = w' := by
  go_enter Tryz.func15, Tryz.ntmps15
  go_wp2
  go_ret
  exact ⟨rfl, rfl⟩

theorem Code_flt (g : Nat) (c a : Int) (s : ByteArray) (w : World) (hg : ErrT w) (hb : Blk w g 81 #[.int .i64 c, .int .i64 a, .string s]) :
    Calls Tryz.prog 15 #[.iface 78 (.pointer (some ⟨g, 0, none⟩))] w fun e w' => e = .returned (.int .i64 c) ∧ Below w.heap.size w w' := by
  have HA := Lib.hid (fault_flt g w hg hb.lt)
  go_enter Tryz.func15, Tryz.ntmps15
  go_wp2_with fail
  refine HA.out.mono ?_
  rintro e w1 ⟨rfl, hb1⟩
  have hc0 := (hb.keep hb1).cell 0
  simp at hc0
  go_wp2
  go_ret
  exact ⟨rfl, hb1⟩

theorem At_flt (g : Nat) (c a : Int) (s : ByteArray) (w : World) (hg : ErrT w) (hb : Blk w g 81 #[.int .i64 c, .int .i64 a, .string s]) :
    Calls Tryz.prog 16 #[.iface 78 (.pointer (some ⟨g, 0, none⟩))] w fun e w' => e = .returned (.int .i64 a) ∧ Below w.heap.size w w' := by
  have HA := Lib.hid (fault_flt g w hg hb.lt)
  go_enter Tryz.func16, Tryz.ntmps16
  go_wp2_with fail
  refine HA.out.mono ?_
  rintro e w1 ⟨rfl, hb1⟩
  have hc0 := (hb.keep hb1).cell 1
  simp at hc0
  go_wp2
  go_ret
  exact ⟨rfl, hb1⟩
end Go.Proofs.YtbbmgcdocolakaaGreatDoor
/-
  What a row's condition gives a walk: arguments that read as data, the listed variable; and the frame around a walk.
-/
namespace Go.Proofs.YtbbmgcdocolakaaGreatDoor
open Go.ChangeShapes Go.WideShapes Go.ChangeAt Go.RowKit

theorem fr_own : ownKnob Tryz.prog.godebug = none := by kernel_rfl
theorem fr_laidOut : laidOutB Tryz.prog = true := by kernel_rfl
theorem fr_et : Tryz.prog.globalNamed "errors.errorType" = some 0 := by kernel_rfl
theorem fr_rt : (Tryz.prog.cutTypes.find? (·.1 == "internal/reflectlite.rtype")).map (·.2) = some 178 := by kernel_rfl
theorem fr_oneRow : ((List.range 243).filter fun t => Tryz.prog.rowNamed t [101, 114, 114, 111, 114]) = [34] := by kernel_rfl
theorem fr_size : Tryz.prog.types.size = 243 := by kernel_rfl
def errLaid : List (String × DataW Unit) := [("errors.errorType", Rows.laid_errors_errorType)]

/-- What the condition gives a walk: the variable's one cell. -/
theorem errT_of_laid {W : World} (h : laidMetH Tryz.prog errLaid W) : ErrT W := by
  have h' : laidMet Tryz.prog [] W ∧ handlesMet Tryz.prog errLaid W := h
  obtain ⟨name, u, ty, e1, e2, e3, e4, e5⟩ := h'.2 _ (List.mem_singleton.2 rfl)
  have en : name = [101, 114, 114, 111, 114] := (Option.some.inj e1).symm
  subst en
  obtain rfl := Option.some.inj (fr_rt.symm.trans e2)
  have hm : ty ∈ (List.range 243).filter fun t => Tryz.prog.rowNamed t [101, 114, 114, 111, 114] := List.mem_filter.2 ⟨List.mem_range.2 (by rw [← fr_size]; exact e3), e4⟩
  rw [fr_oneRow] at hm
  obtain rfl := List.mem_singleton.1 hm
  have hh : typeHandle Tryz.prog 34 = .pointer (some ⟨7, 34, none⟩) := by kernel_rfl
  rw [hh] at e5
  have h0 := World.var?_cell fr_et e5 0
  simp at h0
  exact h0

/-- A world that meets the condition: the settled one, the variable's cell laid. -/
noncomputable def laidWorld (os : Os) : World :=
  { World.holding Tryz.prog os ⟨#[], #[], []⟩ with heap := (World.holding Tryz.prog os ⟨#[], #[], []⟩).heap.modify 0 fun
      | .cells _ t frozen => .cells #[.iface 178 (.agg #[.pointer (some ⟨7, 34, none⟩)])] t frozen
      | o => o }
theorem cap_ok {P : Program} {w : World} {r : Reach} {base : Nat} {t e : TypeId} (ht : P.underlying t = some (.slice e)) {a : Option Addr} {n c : Nat} (h : Value.okWide P w r base t (.slice a n c)) : n ≤ c ∧ c ≤ 9223372036854775807 := by
  simp only [Value.okWide, ht, Cell.okWide, Cell.ok] at h
  cases a with
  | none =>
    split at h
    · simp_all
    · simp_all
    all_goals simp_all
  | some a =>
    obtain ⟨h1, h2, _⟩ := h
    have h3 : (c : Int) ≤ 9223372036854775807 := by simpa [IntKind.max, IntKind.bits, IntKind.signed] using h2
    exact ⟨h1, by omega⟩
theorem laid_met (os : Os) (args : Array Value) : laidMetH Tryz.prog errLaid ((laidWorld os).forCall (fun _ _ => 0) ⟨#[], args, []⟩).memory :=
  laidMetH_of_parts (laidMet_nil _ _) (by kernel_rfl)

theorem flat_at {s : Nat} (F : Nat → List Value) : ∀ n, (∀ i, i < n → (F i).length = s) → ((List.range n).flatMap F).length = n * s ∧ ∀ i j, i < n → j < s → ((List.range n).flatMap F)[i * s + j]? = (F i)[j]?
  | 0, _ => ⟨by simp, fun i j h => absurd h (by omega)⟩
  | n + 1, h => by
    obtain ⟨h1, h2⟩ := flat_at F n (fun i hi => h i (by omega))
    have hn := h n (by omega)
    rw [List.range_succ, List.flatMap_append]
    simp only [List.flatMap_cons, List.flatMap_nil, List.append_nil]
    refine ⟨by rw [List.length_append, h1, hn, Nat.add_mul]; omega, fun i j hi hj => ?_⟩
    by_cases hin : i < n
    · have : i * s + j < n * s := by
        have : (i + 1) * s ≤ n * s := Nat.mul_le_mul_right _ hin
        rw [Nat.add_mul] at this
        omega
      rw [List.getElem?_append_left (by omega)]
      exact h2 i j hin hj
    · obtain rfl : i = n := by omega
      rw [List.getElem?_append_right (by omega), h1]
      congr 1
      omega

theorem exists_map {α β : Type} (f : β → α) : ∀ (l : List α), (∀ x ∈ l, ∃ y, x = f y) → ∃ l' : List β, l = l'.map f
  | [], _ => ⟨[], rfl⟩
  | x :: l, h => by
    obtain ⟨y, rfl⟩ := h x (List.mem_cons_self ..)
    obtain ⟨l', rfl⟩ := exists_map f l (fun z hz => h z (List.mem_cons_of_mem _ hz))
    exact ⟨y :: l', rfl⟩

theorem flat_one {α : Type} (f : α → Value) : ∀ zs : List α, (zs.map fun z => [f z]).flatten = zs.map f
  | [] => rfl
  | z :: zs => by rw [List.map_cons, List.flatten_cons, flat_one f zs]; rfl

section
variable {H : Type} {enc : TypeId × Value → H} {P : Program} {w : World} {base : Nat} {spare : Nat → Bool} {held : Bool}
/-- A slice that came in: it reads as the cells of its elements, and each element reads as data. -/
theorem open_sl {t e : TypeId} {s fuel n c : Nat} {A : Option Addr} {x : DataW H × List MemPlace} (hs : P.cellsOf e = s) (hs0 : 0 < s) (ht : P.underlying t = some (.slice e))
    (h : DataW.trod enc P w base spare held fuel t [.slice A n c] = some x) :
    n ≤ maxLen ∧ ∃ css : List (List Value), css.length = n ∧ Sl w s A n css.flatten ∧ ∀ cs ∈ css, cs.length = s ∧ ∃ fuel' y, DataW.trod enc P w base spare held fuel' e cs = some y := by
  rcases Deep.open_slice ht h with ⟨h0, _⟩ | ⟨a, len, cap, m, f', D, Pl, hv, _, hl, hm, hmm, _, hx⟩
  · injection h0 with h0 _
    injection h0 with h1 h2 h3
    subst h1 h2
    exact ⟨Nat.zero_le _, [], rfl, Sl.nil _ _ _, fun cs hc => by cases hc⟩
  · injection hv with hv _
    injection hv with h1 h2 h3
    subst h1 h2 h3
    have hle : n ≤ m := by rw [hmm]; split <;> omega
    rw [hs] at hx
    obtain ⟨F, hF⟩ := Deep.choose_lt (α := List Value) (p := fun i cs' => w.cells? base (a.add (i * s)) s = some cs' ∧ DataW.trod enc P w base spare held f' e cs' = some (D i, Pl i)) (fun i hi => hx i hi)
    have hlen : ∀ i, i < n → (F i).length = s := fun i hi => (World.cells?_some (hF i (by omega)).1).2.1
    obtain ⟨f1, f2⟩ := flat_at F n hlen
    refine ⟨by omega, (List.range n).map F, by simp, ?_, ?_⟩
    · rw [← List.flatMap_def]
      refine ⟨f1, fun hn => ?_⟩
      have hsp : a.spot = none := by
        obtain ⟨_, h2, h3⟩ := World.cells?_some (hF 0 (by omega)).1
        have h4 := h3 0 hs0
        rw [List.getElem?_eq_getElem (by omega)] at h4
        simpa [Addr.add] using World.cell?_spot h4
      obtain ⟨b, off, spot⟩ := a
      simp only at hsp
      subst hsp
      refine ⟨b, off, rfl, fun j u hu => ?_⟩
      have hj : j < n * s := by
        rcases Nat.lt_or_ge j (n * s) with h | h
        · exact h
        · rw [List.getElem?_eq_none (by rw [f1]; exact h)] at hu; cases hu
      have hi : j / s < n := Nat.div_lt_of_lt_mul (by rw [Nat.mul_comm]; exact hj)
      have hr : j % s < s := Nat.mod_lt _ hs0
      have hd : j / s * s + j % s = j := by rw [Nat.mul_comm]; exact Nat.div_add_mod j s
      have h5 := f2 (j / s) (j % s) hi hr
      rw [hd, hu] at h5
      obtain ⟨_, _, h3⟩ := World.cells?_some (hF (j / s) (by omega)).1
      have h6 := h3 (j % s) hr
      rw [← h5] at h6
      have hadd : ((⟨b, off, none⟩ : Addr).add (j / s * s)).add (j % s) = ⟨b, off + j, none⟩ := by
        have : ∀ k, (⟨b, off, none⟩ : Addr).add k = ⟨b, off + k, none⟩ := by intro k; unfold Addr.add; split <;> simp_all
        rw [this]
        unfold Addr.add
        split
        · simp only [Addr.mk.injEq, true_and, and_true]; omega
        · simp only [Addr.mk.injEq, true_and, and_true]; omega
      rw [hadd] at h6
      exact h6
    · intro cs hcs
      obtain ⟨i, hi, rfl⟩ := List.mem_map.1 hcs
      have hi' := List.mem_range.1 hi
      exact ⟨hlen i hi', f', _, (hF i (by omega)).2⟩

/-- A slice of integers that came in. -/
theorem open_sl_ints {t e : TypeId} {k : IntKind} {fuel n c : Nat} {A : Option Addr} {x : DataW H × List MemPlace} (ht : P.underlying t = some (.slice e)) (he : P.underlying e = some (.int k)) (hs : P.cellsOf e = 1)
    (h : DataW.trod enc P w base spare held fuel t [.slice A n c] = some x) :
    n ≤ maxLen ∧ ∃ zs : List Int, zs.length = n ∧ Sl w 1 A n (zs.map (Value.int k)) ∧ ∀ z ∈ zs, (Lit.int k z).wf = true := by
  obtain ⟨hm, css, hl, hsl, hc⟩ := open_sl hs (by omega) ht h
  obtain ⟨zs, rfl⟩ := exists_map (fun z : { z : Int // (Lit.int k z).wf = true } => [Value.int k z.1]) css (fun cs hcs => by
    obtain ⟨_, f', y, hy⟩ := hc cs hcs
    obtain ⟨z, rfl, _, hz⟩ := DataW.trod_int he hy
    exact ⟨⟨z, hz⟩, rfl⟩)
  refine ⟨hm, zs.map (·.1), by simpa using hl, ?_, ?_⟩
  · rw [flat_one (fun z => Value.int k z.1) zs] at hsl
    rw [List.map_map]; exact hsl
  · intro z hz
    obtain ⟨z', _, rfl⟩ := List.mem_map.1 hz
    exact z'.2

/-- A slice of strings that came in. -/
theorem open_sl_strs {t e : TypeId} {fuel n c : Nat} {A : Option Addr} {x : DataW H × List MemPlace} (ht : P.underlying t = some (.slice e)) (he : P.underlying e = some .string) (hs : P.cellsOf e = 1)
    (h : DataW.trod enc P w base spare held fuel t [.slice A n c] = some x) :
    n ≤ maxLen ∧ ∃ zs : List ByteArray, zs.length = n ∧ Sl w 1 A n (zs.map Value.string) ∧ ∀ z ∈ zs, z.size ≤ maxLen := by
  obtain ⟨hm, css, hl, hsl, hc⟩ := open_sl hs (by omega) ht h
  obtain ⟨zs, rfl⟩ := exists_map (fun z : { z : ByteArray // z.size ≤ maxLen } => [Value.string z.1]) css (fun cs hcs => by
    obtain ⟨_, f', y, hy⟩ := hc cs hcs
    obtain ⟨z, rfl, _, hz⟩ := DataW.trod_string he hy
    exact ⟨⟨z, hz⟩, rfl⟩)
  refine ⟨hm, zs.map (·.1), by simpa using hl, ?_, ?_⟩
  · rw [flat_one (fun z => Value.string z.1) zs] at hsl
    rw [List.map_map]; exact hsl
  · intro z hz
    obtain ⟨z', _, rfl⟩ := List.mem_map.1 hz
    exact z'.2

/-- A slice of structs of two integers that came in. -/
theorem open_sl_pairs {t e : TypeId} {f0 f1 : Field} {k0 k1 : IntKind} {fuel n c : Nat} {A : Option Addr} {x : DataW H × List MemPlace} (ht : P.underlying t = some (.slice e)) (he : P.underlying e = some (.struct #[f0, f1]))
    (hs : P.cellsOf e = 2) (o0 : f0.offset = 0) (o1 : f1.offset = 1) (c0 : P.cellsOf f0.type = 1) (c1 : P.cellsOf f1.type = 1) (u0 : P.underlying f0.type = some (.int k0)) (u1 : P.underlying f1.type = some (.int k1))
    (h : DataW.trod enc P w base spare held fuel t [.slice A n c] = some x) :
    n ≤ maxLen ∧ ∃ l : List (Int × Int), l.length = n ∧ Sl w 2 A n (l.flatMap fun p => [.int k0 p.1, .int k1 p.2]) ∧ ∀ p ∈ l, (Lit.int k0 p.1).wf = true ∧ (Lit.int k1 p.2).wf = true := by
  obtain ⟨hm, css, hl, hsl, hc⟩ := open_sl hs (by omega) ht h
  obtain ⟨zs, rfl⟩ := exists_map (fun z : { z : Int × Int // (Lit.int k0 z.1).wf = true ∧ (Lit.int k1 z.2).wf = true } => [Value.int k0 z.1.1, Value.int k1 z.1.2]) css (fun cs hcs => by
    obtain ⟨hlen, f', y, hy⟩ := hc cs hcs
    obtain ⟨y0, y1, m, _, _, h0, h1⟩ := trod_struct2 he hy
    rw [o0, c0] at h0
    rw [o1, c1] at h1
    match cs, hlen with
    | [a, b], _ =>
      simp only [List.drop_zero, List.take_succ_cons, List.take_zero, List.drop_succ_cons] at h0 h1
      obtain ⟨z0, e0, _, w0⟩ := DataW.trod_int u0 h0
      obtain ⟨z1, e1, _, w1⟩ := DataW.trod_int u1 h1
      injection e0 with e0 _
      injection e1 with e1 _
      exact ⟨⟨(z0, z1), w0, w1⟩, by rw [e0, e1]⟩)
  refine ⟨hm, zs.map (·.1), by simpa using hl, ?_, ?_⟩
  · have : (zs.map (fun z => [Value.int k0 z.1.1, Value.int k1 z.1.2])).flatten = (zs.map (·.1)).flatMap fun p => [.int k0 p.1, .int k1 p.2] := by
      rw [← List.flatMap_def, List.flatMap_map]
    rw [← this]; exact hsl
  · intro z hz
    obtain ⟨z', _, rfl⟩ := List.mem_map.1 hz
    exact z'.2
end
end Go.Proofs.YtbbmgcdocolakaaGreatDoor
