/-
  perm.Of where there is no such order.
-/
import Derived.Test.YtakkdpnaoahpcaaDoorPermD
import Derived.Test.YtakkdpnaoahpcaaDoorPermG
namespace Go.Proofs.YtakkdpnaoahpcaaDoor
open Go.RowKit Go.Extern.Stop Go.Stop Go.Extern
set_option maxRecDepth 100000
set_option linter.unusedVariables false

set_option maxHeartbeats 2000000 in
theorem Of_bad (n r : Int) (w : World) (h : ¬ (0 ≤ n ∧ n ≤ 8 ∧ 0 ≤ r ∧ r < (fac n.toNat : Int))) :
    Calls Tryd.prog 7 #[.int .i64 n, .int .i64 r] w fun e w' => ∃ ev, e = .returned (.tuple #[.slice none 0 0, ev]) ∧ (Err.flt 1 0 order).At w' ev ∧ Below w.heap.size w w' := by
  have HW := Lib.hid (wrong_any 0 w)
  have key : ∀ (hz : n < 0 ∨ (¬ n < 0 ∧ 8 < n) ∨ (¬ n < 0 ∧ ¬ 8 < n ∧ r < 0)), Calls Tryd.prog 7 #[.int .i64 n, .int .i64 r] w fun e w' => ∃ ev, e = .returned (.tuple #[.slice none 0 0, ev]) ∧ (Err.flt 1 0 order).At w' ev ∧ Below w.heap.size w w' := by
    intro hz
    rcases hz with hz | ⟨h1, hz⟩ | ⟨h1, h2, hz⟩
    all_goals (
      go_enter Tryd.func7, Tryd.ntmps7
      go_wp2_with fail
      refine HW.out.mono ?_
      rintro e w' ⟨v, rfl, he, hb⟩
      go_wp2_with fail
      go_ret2
      exact ⟨_, rfl, he, hb⟩)
  by_cases h1 : n < 0
  · exact key (.inl h1)
  by_cases h2 : 8 < n
  · exact key (.inr (.inl ⟨h1, h2⟩))
  by_cases h3 : r < 0
  · exact key (.inr (.inr ⟨h1, h2, h3⟩))
  clear key
  obtain ⟨m, rfl⟩ : ∃ m : Nat, n = (m : Int) := ⟨n.toNat, by omega⟩
  have h4 : (fac m : Int) ≤ r := by
    rw [Int.toNat_natCast] at h
    omega
  have HT := Lib.hid (times_any m w (by omega))
  generalize fac m = F at HT h4
  clear h
  go_enter Tryd.func7, Tryd.ntmps7
  go_wp2_with fail
  refine HT.out.mono ?_
  rintro e w1 ⟨rfl, rfl⟩
  go_wp2_with fail
  refine HW.out.mono ?_
  rintro e w' ⟨v, rfl, he, hb⟩
  go_wp2_with fail
  go_ret2
  exact ⟨_, rfl, he, hb⟩
end Go.Proofs.YtakkdpnaoahpcaaDoor
