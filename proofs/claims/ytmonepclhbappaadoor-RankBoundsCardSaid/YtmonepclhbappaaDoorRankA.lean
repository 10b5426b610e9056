/-
  The walk of RankSplit (and of its package's alive).
-/
import Derived.Test.YtmonepclhbappaaDoorRankS
import Derived.Deep.DeepCutAuto
namespace Go.Proofs.YtmonepclhbappaaDoor
open Go.RowKit

set_option maxHeartbeats 1000000 in
theorem alive14 (w : World) (hg : ErrT w) : Calls Tryd.prog 29 #[] w fun e w' => e = .returned (.bool true) ∧ Below w.heap.size w w' := by
  go_enter Tryd.func29, Tryd.ntmps29
  go_wp2_with fail
  refine (Split_good 7 3 w (by omega) (by omega) (by omega) (by omega)).mono ?_
  rintro e w1 ⟨A, c, rfl, hsl, hb1⟩
  obtain ⟨b, off, rfl, hc⟩ := hsl.2 (by omega)
  have c0 := hc 0 (.int .i64 0) rfl
  have c1 := hc 1 (.int .i64 3) rfl
  have c2 := hc 2 (.int .i64 3) rfl
  have c3 := hc 3 (.int .i64 5) rfl
  clear hc hsl
  go_wp2_with fail
  refine (Split_bad 1 65 w1 (by omega)).mono ?_
  rintro e w2 ⟨v, rfl, ⟨g, rfl, hbk⟩, hb2⟩
  have d0 := (hb2.cell (World.block_lt_of_cell? w1 _ c0)).trans c0
  rw [Nat.add_zero] at d0
  have d1 := (hb2.cell (World.block_lt_of_cell? w1 _ c1)).trans c1
  have d2 := (hb2.cell (World.block_lt_of_cell? w1 _ c2)).trans c2
  have d3 := (hb2.cell (World.block_lt_of_cell? w1 _ c3)).trans c3
  have hC := Code_flt g 1 0 _ w2 ((hg.keep hb1).keep (hb2.mono (Nat.le_refl _))) hbk
  have HC := Lib.hid hC
  clear hC c0 c1 c2 c3 hbk
  go_wp2_with (go_at_call 35; refine HC.out.mono ?_; rintro e w3 ⟨rfl, hb3⟩)
  go_ret
  exact ⟨rfl, (hb1.andThen hb2).andThen hb3⟩

theorem eq_part_ne (a b c d : Int) (h : (a, b) = (c, d)) : a = c ∧ b = d := by simpa using h

end Go.Proofs.YtmonepclhbappaaDoor
