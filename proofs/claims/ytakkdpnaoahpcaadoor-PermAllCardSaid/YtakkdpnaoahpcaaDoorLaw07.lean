/-
  Chapter 07's statements: alive; the product of all below.
-/
import Derived.Test.YtakkdpnaoahpcaaDoorPermC
namespace Go.Proofs.YtakkdpnaoahpcaaDoor
open Go.RowKit Go.Extern.Stop Go.Stop Go.Extern
set_option maxRecDepth 100000

theorem sl_ints3 (w : World) (a b c : Int) : Sl (w.alloc (.cells #[.int .i64 a, .int .i64 b, .int .i64 c] 3)) 1 (some ⟨w.heap.size, 0, none⟩) 3 ([a, b, c].map (Value.int .i64)) := Sl.new _ _ _
theorem sl_ints2 (w : World) (a b : Int) : Sl (w.alloc (.cells #[.int .i64 a, .int .i64 b] 3)) 1 (some ⟨w.heap.size, 0, none⟩) 2 ([a, b].map (Value.int .i64)) := Sl.new _ _ _

set_option maxHeartbeats 1000000 in
theorem alive07 (w : World) (hg : ErrT w) : Calls Tryd.prog 4 #[] w fun e w' => e = .returned (.bool true) ∧ Below w.heap.size w w' := by
  go_enter Tryd.func4, Tryd.ntmps4
  have hb1 := bel_al (Below.refl w.heap.size w) (.cells #[.int .i64 1, .int .i64 0, .int .i64 2] 3)
  have hb2 := bel_al hb1 (.cells #[.int .i64 2, .int .i64 0, .int .i64 1] 3)
  have hs1 := (sl_ints3 w 1 0 2).alloc (.cells #[.int .i64 2, .int .i64 0, .int .i64 1] 3)
  have hs2 := sl_ints3 (w.alloc (.cells #[.int .i64 1, .int .i64 0, .int .i64 2] 3)) 2 0 1
  rw [World.size_alloc] at hs2
  have HT := Lib.hid (Then_ok [1, 0, 2] [2, 0, 1] _ _ 3 3 3 _ (by decide) (by decide) rfl rfl hs1 hs2)
  have HB2 := Lib.hid hb2
  clear hb1 hb2 hs1 hs2
  go_wp2_with fail
  refine HT.out.mono ?_
  rintro e w3 ⟨C, k, rfl, hs3, hb3⟩
  rw [show thenL [1, 0, 2] [2, 0, 1] = [0, 2, 1] from by decide] at hs3
  have HS3 := Lib.hid hs3
  have HB3 := Lib.hid (HB2.out.andThen hb3)
  clear hs3 hb3 HT HB2
  have hb4 := bel_al (Below.refl w3.heap.size w3) (.cells #[.int .i64 1, .int .i64 1] 3)
  have HK := Lib.hid (Back_bad [1, 1] _ 2 2 _ (by decide) rfl (sl_ints2 w3 1 1))
  have HB4 := Lib.hid hb4
  clear hb4
  go_wp2_with fail
  refine HK.out.mono ?_
  rintro e w5 ⟨ev, rfl, hev, hb5⟩
  have HE := Lib.hid hev
  have HB5 := Lib.hid (HB4.out.andThen hb5)
  clear hev hb5 HK HB4
  have hb6 := bel_al (Below.refl w5.heap.size w5) (.cells #[.int .i64 0, .int .i64 2, .int .i64 1] 3)
  have HQ := Lib.hid (SameInts_same [0, 2, 1] _ _ 3 k 3 _ rfl ((HS3.out.keep HB5.out).keep hb6) (sl_ints3 w5 0 2 1) (by omega))
  have HB6 := Lib.hid hb6
  clear hb6
  go_wp2_with fail
  refine HQ.out.mono ?_
  rintro e w7 ⟨rfl, hb7⟩
  have HB7 := Lib.hid (HB6.out.andThen hb7)
  clear hb7 HQ HB6
  go_wp2_with fail
  refine (Code_any _ _ w7 (HE.out.keep HB7.out) (((hg.keep HB3.out).keep HB5.out).keep HB7.out)).mono ?_
  rintro e w8 ⟨rfl, hb8⟩
  go_wp2_with fail
  go_ret
  exact ⟨rfl, HB3.out.andThen (HB5.out.andThen (HB7.out.andThen hb8))⟩
end Go.Proofs.YtakkdpnaoahpcaaDoor
