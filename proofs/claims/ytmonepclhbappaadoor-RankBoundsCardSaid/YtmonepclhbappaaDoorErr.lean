/-
  Errors as values in memory, and contracts of fault.New, fault.fault, fault.Code, fault.At for nil and plain faults.
-/
import Derived.Test.YtmonepclhbappaaDoorFault
import Derived.Test.YtmonepclhbappaaDoorWords
namespace Go.Proofs.YtmonepclhbappaaDoor
open Go.RowKit

/-- The one package-level variable that errors.As reads. -/
def ErrT (w : World) : Prop := w.cell? ⟨0, 0, none⟩ = some (.iface 195 (.agg #[.pointer (some ⟨5, 33, none⟩)]))
theorem ErrT.out {w : World} (h : ErrT w) : w.cell? ⟨0, 0, none⟩ = some (.iface 195 (.agg #[.pointer (some ⟨5, 33, none⟩)])) := h
theorem ErrT.lt {w : World} (h : ErrT w) : 0 < w.heap.size := World.block_lt_of_cell? w _ h
theorem ErrT.keep {w w' : World} (h : ErrT w) (hb : Below w.heap.size w w') : ErrT w' := by
  unfold ErrT
  rw [hb.cell (p := ⟨0, 0, none⟩) h.lt]; exact h

/-- What an error is: nothing, a fault, a step around an error, or a text. -/
inductive Err where
  | nil
  | flt (c a : Int) (s : ByteArray)
  | step (word : ByteArray) (e : Err)
  | txt (s : ByteArray)

def Err.code : Err → Int
  | .nil => 0
  | .flt c _ _ => c
  | .step _ e => e.code
  | .txt _ => -1
def Err.at_ : Err → Int
  | .nil => 0
  | .flt _ a _ => a
  | .step _ e => e.at_
  | .txt _ => 0

/-- The value v in the world w is the error E. -/
def Err.At (w : World) : Err → Value → Prop
  | .nil, v => v = .nilIface
  | .flt c a s, v => ∃ g, v = .iface 128 (.pointer (some ⟨g, 0, none⟩)) ∧ Blk w g 131 #[.int .i64 c, .int .i64 a, .string s]
  | .step _ _, _ => False
  | .txt _, _ => False

theorem Err.At.keep {w w' : World} (hb : Below w.heap.size w w') : ∀ {E : Err} {v : Value}, E.At w v → E.At w' v
  | .nil, _, h => h
  | .flt _ _ _, _, ⟨g, h1, h2⟩ => ⟨g, h1, h2.keep hb⟩

theorem New_calls (c a : Int) (s : ByteArray) (w : World) :
    Calls Tryd.prog 44 #[.int .i64 c, .int .i64 a, .string s] w fun e w' =>
      e = .returned (.iface 128 (.pointer (some ⟨w.heap.size, 0, none⟩))) ∧ w.alloc (.cells #[.int .i64 c, .int .i64 a, .string s] 131) = w' := by
  go_enter Tryd.func44, Tryd.ntmps44
  go_wp2
  go_ret
  exact ⟨rfl, rfl⟩

/-- fault.New: a new fault; what was there stands. -/
theorem New_err (c a : Int) (s : ByteArray) (w : World) :
    Calls Tryd.prog 44 #[.int .i64 c, .int .i64 a, .string s] w fun e w' =>
      ∃ v, e = .returned v ∧ (Err.flt c a s).At w' v ∧ Below w.heap.size w w' :=
  (New_calls c a s w).mono fun e w' ⟨h1, h2⟩ => ⟨_, h1, ⟨_, rfl, by rw [← h2]; exact Blk.new _ _ _⟩, by rw [← h2]; exact (Below.refl _ _).alloc (Nat.le_refl _) _⟩

theorem fault_nil (w : World) : Calls Tryd.prog 72 #[.nilIface] w fun e w' => e = .returned (.pointer none) ∧ Below w.heap.size w w' := by
  go_enter Tryd.func72, Tryd.ntmps72
  go_wp2_with (go_at_call 95; refine (as_nil _ _).mono ?_; rintro e w' ⟨rfl, rfl⟩)
  go_ret
  exact ⟨rfl, (Below.refl _ _).alloc (Nat.le_refl _) _⟩

theorem fault_flt (g : Nat) (w : World) (hg : ErrT w) (_hlt : g < w.heap.size) : Calls Tryd.prog 72 #[.iface 128 (.pointer (some ⟨g, 0, none⟩))] w fun e w' =>
    e = .returned (.pointer (some ⟨g, 0, none⟩)) ∧ Below w.heap.size w w' := by
  have hA := as_hit ⟨g, 0, none⟩ ⟨w.heap.size, 0, none⟩ (.pointer none) (w.alloc (.cells #[.pointer none] 128))
    (by rw [World.cell?_alloc_lt _ _ ⟨0, 0, none⟩ hg.lt]; exact hg) (by simp) (by simp)
  have HA := Lib.hid hA
  clear hA
  go_enter Tryd.func72, Tryd.ntmps72
  go_wp2_with (go_at_call 95; refine HA.out.mono ?_; rintro e w' ⟨rfl, rfl⟩)
  go_ret
  refine ⟨rfl, ?_⟩
  repeat (first | exact Below.refl _ _ | refine bel_alloc ?_ (Nat.le_refl _) _ | refine Below.setCell ?_ (by simp) _)

theorem Code_nil (w : World) : Calls Tryd.prog 35 #[.nilIface] w fun e w' => e = .returned (.int .i64 0) ∧ w = w' := by
  go_enter Tryd.func35, Tryd.ntmps35
  go_wp2
  go_ret
  exact ⟨rfl, rfl⟩

theorem Code_flt (g : Nat) (c a : Int) (s : ByteArray) (w : World) (hg : ErrT w) (hb : Blk w g 131 #[.int .i64 c, .int .i64 a, .string s]) :
    Calls Tryd.prog 35 #[.iface 128 (.pointer (some ⟨g, 0, none⟩))] w fun e w' => e = .returned (.int .i64 c) ∧ Below w.heap.size w w' := by
  have HA := Lib.hid (fault_flt g w hg hb.lt)
  go_enter Tryd.func35, Tryd.ntmps35
  go_wp2_with fail
  refine HA.out.mono ?_
  rintro e w1 ⟨rfl, hb1⟩
  have hc0 := (hb.keep hb1).cell 0
  simp at hc0
  go_wp2
  go_ret
  exact ⟨rfl, hb1⟩

end Go.Proofs.YtmonepclhbappaaDoor
