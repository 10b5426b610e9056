/-
  The counts of ranks in memory: a map whose keys are structs of two ints; words for it.
-/
import Derived.DeepKeys4
import Derived.Test.YtmonepclhbappaaDoorFrame
import Derived.Test.YtmonepclhbappaaDoorMapW
import Derived.Test.YtmonepclhbappaaDoorOdM
namespace Go.Proofs.YtmonepclhbappaaDoor
open Go.RowKit Go.Maps Go.WideMaps
set_option maxRecDepth 100000
set_option linter.unusedVariables false

theorem spot_wide : (match Tryd.prog.underlying 125 with | some (.array _ _) | some (.struct _) => true | _ => false) = true := by kernel_rfl
theorem spot_row : (125 : TypeId) < Tryd.prog.types.size := of_decide_eq_true (by kernel_rfl)
theorem spot_law : KeyLaw Tryd.prog 125 := deep_law_laid fr_laidOut (m := 2) (by omega) spot_row (by kernel_rfl) spot_wide
theorem spot_keyed : Keyed Tryd.prog 125 := Keyed.of_law spot_law
theorem spot_keyType : Tryd.prog.keyType 125 = true := by kernel_rfl
def i64ok (x : Int) : Prop := -9223372036854775808 ≤ x ∧ x ≤ 9223372036854775807
def kS (i a : Int) : Lit := .string (keyBytes [.int .i64 i, .int .i64 a])
theorem spot_size : ∃ m, Tryd.prog.types.size = m + 1 := by
  have h := spot_row
  generalize Tryd.prog.types.size = m at h
  cases m with
  | zero => exact absurd h (Nat.not_lt_zero _)
  | succ m => exact ⟨m, rfl⟩
theorem keyOf_spot {i a : Int} (hi : i64ok i) (ha : i64ok a) : keyOf Tryd.prog 125 (.agg #[.int .i64 i, .int .i64 a]) = some (kS i a) := by
  have wi := lit_i64 hi.1 hi.2
  have wa := lit_i64 ha.1 ha.2
  have hkt := spot_keyType
  obtain ⟨m, hm⟩ := spot_size
  have hu := Tryd.underlying125
  have hc : Tryd.prog.cellsOf 125 = 2 := by kernel_rfl
  have hi2 : Tryd.prog.cellsOf 3 = 1 := by kernel_rfl
  unfold keyOf
  simp only [hu]
  rw [if_pos (by simp [hkt, Value.formed, hu, hc]), hm]
  unfold Program.keyLits
  simp only [hu, Value.cells]
  rw [if_pos ⟨by rw [hc]; rfl, by simp⟩, List.mapM_cons, List.mapM_cons, List.mapM_nil]
  simp [hi2, Program.keyLits, wi, wa, kS]
theorem kS_inj {i a j b : Int} (hi : i64ok i) (ha : i64ok a) (hj : i64ok j) (hb : i64ok b) (h : kS i a = kS j b) : i = j ∧ a = b := by
  have := spot_law.inj (keyOf_spot hi ha) (h ▸ keyOf_spot hj hb)
  simpa using this

/-- Block b is a map of counts: what it answers at each number of a row. -/
def OnMap (w : World) (b n : Nat) (f : Int → Int → Int) : Prop := ∃ D, w.ownsMap Tryd.prog 125 rawR b n D ∧ ∀ i a, i64ok i → i64ok a → D.atKey (kS i a) (.held (.int .i64 0)) = .held (.int .i64 (f i a))
def updF (f : Int → Int → Int) (i a v : Int) : Int → Int → Int := fun j b => if j = i ∧ b = a then v else f j b
section
variable {w w' : World} {b n : Nat} {f : Int → Int → Int}
theorem OnMap.made (w : World) : OnMap (w.alloc (.map #[] 0)) w.heap.size 0 fun _ _ => 0 := ⟨_, World.ownsMap_made w Tryd.prog _ rawR, fun i a _ _ => rfl⟩
theorem OnMap.lt (h : OnMap w b n f) : b < w.heap.size := by
  obtain ⟨D, h1, _⟩ := h
  exact World.ownsMap.lt h1
theorem OnMap.keep (h : OnMap w b n f) (hb : Below w.heap.size w w') : OnMap w' b n f := by
  obtain ⟨D, h1, h2⟩ := h
  have hlt := World.ownsMap.lt h1
  obtain ⟨es', clock, h3, F, hs, hD⟩ := h1
  exact ⟨D, ⟨es', clock, (hb.block b hlt).trans h3, F, hs, hD⟩, h2⟩
theorem OnMap.isMap (h : OnMap w b n f) : NC w b := by
  obtain ⟨D, ⟨es', clock, h3, _⟩, _⟩ := h
  exact NC.of_map h3
end
section
variable (w : World) {ops : Array Oper} {rest : List Oper} {o : Oper} {a : Act} {Q : Exit → Act → World → Prop}
theorem wpList_lookS (hg : o.guard = none) (m x : Operand) (hop : o.op = Op.lookup 119 m x false) (b n : Nat) (f : Int → Int → Int) (hm : a.eval m = .map (some b)) (hown : OnMap w b n f) (i y : Int) (hx : a.eval x = .agg #[.int .i64 i, .int .i64 y]) (hi : i64ok i) (hy : i64ok y)
    (hK : wpList Tryd.prog ops Q rest (a.put o.dst (.int .i64 (f i y))) w) :
    wpList Tryd.prog ops Q (o :: rest) a w := by
  refine wpList_plain hg fun K' hK' => ?_
  obtain ⟨D, h1, h2⟩ := hown
  obtain ⟨v, ps, hrun, hv⟩ := World.ownsMap.lookup h1 spot_keyed Tryd.underlying119 (show (zeroValue 2).run Tryd.prog w = .ok (.int .i64 0) w from by kernel_rfl) (zd := .held (.int .i64 0)) (zp := []) rfl (keyOf_spot hi hy)
  rw [h2 i y hi hy] at hv
  obtain rfl : v = .int .i64 (f i y) := by
    have := (Prod.mk.inj (Option.some.inj hv)).1
    exact DataW.held.inj this
  unfold Oper.wp
  simp [execOp, hop, hm, hx, hrun, Result.andThen]
  exact hK' _ _ hK
theorem wpList_putS (hg : o.guard = none) (m x v : Operand) (hop : o.op = Op.mapUpdate 119 m x v) (b n : Nat) (f : Int → Int → Int) (hm : a.eval m = .map (some b)) (hown : OnMap w b n f) (hn : n < maxLen) (i y z : Int) (hx : a.eval x = .agg #[.int .i64 i, .int .i64 y]) (hv : a.eval v = .int .i64 z) (hi : i64ok i) (hy : i64ok y)
    (hK : ∀ w', OnMap w' b (n + 1) (updF f i y z) → w.grownBy w' (some b) → wpList Tryd.prog ops Q rest (a.put o.dst undef) w') :
    wpList Tryd.prog ops Q (o :: rest) a w := by
  obtain ⟨D, h1, h2⟩ := hown
  refine wpList_mapUpdate_own w hg m x v _ hop 125 2 spot_keyed Tryd.underlying119 rawR b n D hm h1 hn _ _ _ hx hv (keyOf_spot hi hy) (.held (.int .i64 z)) [] rfl fun w' hw' hgr => hK w' ⟨_, hw', fun j c hj hc => ?_⟩ hgr
  unfold updF
  by_cases h : j = i ∧ c = y
  · obtain ⟨rfl, rfl⟩ := h
    rw [if_pos ⟨rfl, rfl⟩, atKey_put_same (World.ownsMap.isMap h1) (spot_keyed.key (keyOf_spot hi hy))]
  · rw [if_neg h, atKey_put_other (fun e => h (kS_inj hj hc hi hy e)), h2 j c hj hc]
end
end Go.Proofs.YtmonepclhbappaaDoor
