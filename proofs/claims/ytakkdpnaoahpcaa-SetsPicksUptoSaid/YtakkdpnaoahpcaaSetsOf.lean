/-
  slices.Sorted, slices.Compact, sets.Of.
-/
import Derived.Shelf.Sort.Plain
import Derived.Shelf.Slices.In.SortNone
import Derived.Shelf.Slices.CompactI
import Derived.Sort.OwnSortedInts
import Derived.Lib.RowBridge
import Derived.Test.YtakkdpnaoahpcaaSetsIter
import Derived.Test.YtakkdpnaoahpcaaSetsP
namespace Go.Proofs.Ytakkdpnaoahpcaa
open Go.RowKit Go.Shelf
set_option maxRecDepth 100000
set_option linter.unusedVariables false

def sort_ren : Go.Shelf.Ren := ⟨fun | 125 => 56 | 128 => 67 | 129 => 68 | 189 => 43 | 215 => 57 | 216 => 46 | 257 => 55 | 294 => 59 | 295 => 60 | 296 => 61 | 297 => 62 | 298 => 63 | 299 => 64 | 300 => 65 | 301 => 66 | 328 => 69 | 329 => 70 | 330 => 71 | 331 => 72 | 332 => 73 | 343 => 74 | n => n, fun | 0 => 0 | 3 => 3 | 4 => 4 | 5 => 5 | 9 => 9 | 28 => 22 | 46 => 52 | 51 => 81 | 53 => 61 | 131 => 46 | 182 => 74 | 183 => 75 | 218 => 82 | 222 => 86 | 228 => 88 | 229 => 89 | n => n, fun | n => n⟩
theorem sort_lays : Go.Proofs.Lays.n189 Try.prog sort_ren := {
  mixed := by kernel_rfl
  f125 := Try.func56.trans (congrArg some (by kernel_rfl))
  f128 := Try.func67.trans (congrArg some (by kernel_rfl))
  f129 := Try.func68.trans (congrArg some (by kernel_rfl))
  f189 := Try.func43.trans (congrArg some (by kernel_rfl))
  f215 := Try.func57.trans (congrArg some (by kernel_rfl))
  f216 := Try.func46.trans (congrArg some (by kernel_rfl))
  f257 := Try.func55.trans (congrArg some (by kernel_rfl))
  f294 := Try.func59.trans (congrArg some (by kernel_rfl))
  f295 := Try.func60.trans (congrArg some (by kernel_rfl))
  f296 := Try.func61.trans (congrArg some (by kernel_rfl))
  f297 := Try.func62.trans (congrArg some (by kernel_rfl))
  f298 := Try.func63.trans (congrArg some (by kernel_rfl))
  f299 := Try.func64.trans (congrArg some (by kernel_rfl))
  f300 := Try.func65.trans (congrArg some (by kernel_rfl))
  f301 := Try.func66.trans (congrArg some (by kernel_rfl))
  f328 := Try.func69.trans (congrArg some (by kernel_rfl))
  f329 := Try.func70.trans (congrArg some (by kernel_rfl))
  f330 := Try.func71.trans (congrArg some (by kernel_rfl))
  f331 := Try.func72.trans (congrArg some (by kernel_rfl))
  f332 := Try.func73.trans (congrArg some (by kernel_rfl))
  f343 := Try.func74.trans (congrArg some (by kernel_rfl))
  t0 := Try.underlying0
  a0 := Try.isAgg0
  z0 := Try.sizeOf0
  v0 := Try.zeroValue0
  t3 := Try.underlying3
  a3 := Try.isAgg3
  z3 := Try.sizeOf3
  v3 := Try.zeroValue3
  t4 := Try.underlying4
  a4 := Try.isAgg4
  z4 := Try.sizeOf4
  v4 := Try.zeroValue4
  t5 := Try.underlying5
  a5 := Try.isAgg5
  z5 := Try.sizeOf5
  v5 := Try.zeroValue5
  t9 := Try.underlying9
  a9 := Try.isAgg9
  z9 := Try.sizeOf9
  v9 := Try.zeroValue9
  t28 := Try.underlying22
  a28 := Try.isAgg22
  z28 := Try.sizeOf22
  v28 := Try.zeroValue22
  t46 := Try.underlying52
  a46 := Try.isAgg52
  z46 := Try.sizeOf52
  v46 := Try.zeroValue52
  t51 := Try.underlying81
  a51 := Try.isAgg81
  z51 := Try.sizeOf81
  v51 := Try.zeroValue81
  t53 := Try.underlying61
  a53 := Try.isAgg61
  z53 := Try.sizeOf61
  v53 := Try.zeroValue61
  t131 := Try.underlying46
  a131 := Try.isAgg46
  z131 := Try.sizeOf46
  v131 := Try.zeroValue46
  t182 := Try.underlying74
  a182 := Try.isAgg74
  z182 := Try.sizeOf74
  v182 := Try.zeroValue74
  t183 := Try.underlying75
  a183 := Try.isAgg75
  z183 := Try.sizeOf75
  v183 := Try.zeroValue75
  t218 := Try.underlying82
  a218 := Try.isAgg82
  z218 := Try.sizeOf82
  v218 := Try.zeroValue82
  t222 := Try.underlying86
  a222 := Try.isAgg86
  z222 := Try.sizeOf86
  v222 := Try.zeroValue86
  t228 := Try.underlying88
  a228 := Try.isAgg88
  z228 := Try.sizeOf88
  v228 := Try.zeroValue88
  t229 := Try.underlying89
  a229 := Try.isAgg89
  z229 := Try.sizeOf89
  v229 := Try.zeroValue89 }

def comp_ren : Go.Shelf.Ren := ⟨fun | 20 => 28 | n => n, fun | 0 => 0 | 3 => 3 | 4 => 4 | 22 => 22 | n => n, fun | n => n⟩
theorem comp_lays : Go.Proofs.Lays2.n20 Try.prog comp_ren := {
  mixed := by kernel_rfl
  f20 := Try.func28.trans (congrArg some (by kernel_rfl))
  t0 := Try.underlying0
  a0 := Try.isAgg0
  z0 := Try.sizeOf0
  v0 := Try.zeroValue0
  t3 := Try.underlying3
  a3 := Try.isAgg3
  z3 := Try.sizeOf3
  v3 := Try.zeroValue3
  t4 := Try.underlying4
  a4 := Try.isAgg4
  z4 := Try.sizeOf4
  v4 := Try.zeroValue4
  t22 := Try.underlying22
  a22 := Try.isAgg22
  z22 := Try.sizeOf22
  v22 := Try.zeroValue22
  i3 := by kernel_rfl }

/-- The head of an own row. -/
theorem own_head {w : World} {B g n k c : Nat} {e : TypeId} {xs : List Value} (h : w.ownsRow B e 1 (.slice (some ⟨g, 0, none⟩) n c) n xs) (hk : k ≤ n) : w.ownsRow B e 1 (.slice (some ⟨g, 0, none⟩) k c) k (xs.take k) := by
  rcases h.2 with ⟨h0, _⟩ | ⟨g', cap', cur, hv, hg, hgb, hn, hcap, hsz, ht⟩
  · cases h0
  cases hv
  have hx := h.1
  refine ⟨by rw [List.length_take]; omega, .inr ⟨g, c, cur, rfl, hg, hgb, by omega, hcap, hsz, ?_⟩⟩
  rw [Nat.mul_one] at ht ⊢
  rw [← ht, List.take_take, Nat.min_eq_left hk]

set_option maxHeartbeats 2000000 in
theorem Sorted_any (l : List Int) (A : Option Addr) (n c : Nat) (Bs : Nat) (w : World) (hsB : w.cell? ⟨Bs, 0, none⟩ = some (.slice A n c)) (hBs : Bs < w.heap.size)
    (hl : l.length = n) (hn : n ≤ 1048576) (hA : Sl w 1 A n (l.map (Value.int .i64))) (hAQ : 0 < n → ∀ x : Addr, A = some x → x.block < w.heap.size) :
    Calls Try.prog 29 #[.func (.func 44) #[] #[.pointer (some ⟨Bs, 0, none⟩)]] w fun e w' => ∃ v, e = .returned v ∧ w'.ownsRow w.heap.size 3 1 v n ((l.mergeSort fun x y => decide (x ≤ y)).map (Value.int .i64)) ∧ Below w.heap.size w w' := by
  have HC := Lib.hid (Collect_any l A n c Bs w hsB hBs hl hn hA hAQ)
  clear hsB hBs hA hAQ
  go_enter Try.func29, Try.ntmps29
  go_wp2_with fail
  refine HC.out.mono ?_
  rintro e W ⟨v, rfl, hrow, hb⟩
  have hlm : (l.mergeSort fun x y => decide (x ≤ y)).length = l.length := List.length_mergeSort _
  rcases hrow.2 with ⟨rfl, hz⟩ | ⟨gb, cap, cur, rfl, hbase, hgb, r1, r2, r3, r4⟩
  · subst hz
    have hle : l = [] := List.eq_nil_of_length_eq_zero hl
    have HO := Lib.hid hrow
    have HB := Lib.hid hb
    have HS := Lib.hid (Go.Proofs.Any.slices_Sort_int_none sort_lays none 0 W)
    clear hrow hb HC
    go_wp2_with fail
    refine HS.out.mono ?_
    rintro e w' ⟨rfl, rfl⟩
    go_wp2_with fail
    go_ret
    refine ⟨_, rfl, ?_, HB.out⟩
    rw [hle, List.mergeSort_nil]
    exact World.ownsRow_nil _ _ _ _
  · have hH : Go.Sort.Holds (Value.int .i64) W gb 0 l.toArray := holds_of_blockI hgb (by rw [hl]; simpa using r4)
    have hgl : gb < W.heap.size := (Array.getElem?_eq_some_iff.1 hgb).1
    have hs := Go.Proofs.Any.slices_Sort_int sort_lays gb 0 cap l W hH hgl (by omega)
    rw [hl] at hs
    have HS := Lib.hid hs
    have HO := Lib.hid (fun (nn : Nat) (os : Array Obj) => ownsRow_sortedI (n := nn) (os := os) (ss := l) (ts := l.mergeSort fun x y => decide (x ≤ y)) hlm hbase hgb (by omega) r2 r3)
    have HB := Lib.hid hb
    have HH := Lib.hid hbase
    clear hs hH hrow hb HC hgb r1 r2 r3 r4 hgl hbase
    go_wp2_with fail
    refine HS.out.mono ?_
    rintro e w' ⟨rfl, nn, os, hw'⟩
    have HW := Lib.hid hw'
    clear hw'
    go_wp2_with fail
    go_ret
    have ho := HO.out nn os
    rw [hl] at ho
    rw [HW.out]
    exact ⟨_, rfl, ho, HB.out.grown (grownBy_sortedI _) HB.out.size (fun j hj => by cases hj; exact HH.out)⟩

set_option maxHeartbeats 2000000 in
theorem CompactI_any (l : List Int) (v : Value) (n B : Nat) (w : World) (hl : l.length = n) (hn : n ≤ 1048576) (hrow : w.ownsRow B 3 1 v n (l.map (Value.int .i64))) (hB : B ≤ w.heap.size) :
    Calls Try.prog 28 #[v] w fun e w' => ∃ v', e = .returned v' ∧ w'.ownsRow B 3 1 v' (Go.Lib.compact l).length ((Go.Lib.compact l).map (Value.int .i64)) ∧ Below B w w' := by
  rcases hrow.2 with ⟨rfl, hz⟩ | ⟨gb, cap, cur, rfl, hbase, hgb, r1, r2, r3, r4⟩
  · subst hz
    have hle : l = [] := List.eq_nil_of_length_eq_zero hl
    subst hle
    refine (Go.Proofs.Any.slices_Compact_int_empty comp_lays none 0 w).mono ?_
    rintro e w' ⟨rfl, rfl⟩
    exact ⟨_, rfl, World.ownsRow_nil _ _ _ _, Below.refl _ _⟩
  · have hH : Go.Sort.Holds (Value.int .i64) w gb 0 l.toArray := holds_of_blockI hgb (by rw [hl]; simpa using r4)
    have hs := Go.Proofs.Any.slices_Compact_int comp_lays gb 0 cap l w hH (by omega) (by omega)
    rw [hl] at hs
    refine hs.mono ?_
    rintro e w' ⟨rfl, q, rfl⟩
    have hle := Go.Lib.compact_length_le l
    generalize Go.Lib.compact l = ts at *
    have ho := ownsRow_sortedI (n := q) (os := #[]) (ss := l) (ts := ts ++ List.replicate (n - ts.length) 0) (by simp; omega) hbase hgb (by omega) r2 r3
    rw [Go.Sort.grow_empty, hl] at ho
    have hg := grownBy_sortedI (w := w) (g := gb) (n := q) (os := #[]) (ts ++ List.replicate (n - ts.length) 0).toArray
    rw [Go.Sort.grow_empty] at hg
    have h2 := own_head ho (k := ts.length) (by omega)
    rw [← List.map_take, List.take_left' rfl] at h2
    exact ⟨_, rfl, h2, (Below.refl B w).grown hg hB (fun j hj => by cases hj; exact hbase)⟩

set_option maxHeartbeats 2000000 in
/-- sets.Of: the document's set, in a new row. -/
theorem Of_any (l : List Int) (A : Option Addr) (n c : Nat) (w : World) (hl : l.length = n) (hn : n ≤ 1048576) (hA : Sl w 1 A n (l.map (Value.int .i64))) (hAQ : 0 < n → ∀ x : Addr, A = some x → x.block < w.heap.size) :
    Calls Try.prog 9 #[.slice A n c] w fun e w' => ∃ v, e = .returned v ∧ w'.ownsRow w.heap.size 3 1 v (setL l).length ((setL l).map (Value.int .i64)) ∧ Below w.heap.size w w' := by
  have hb0 := bel_al (Below.refl w.heap.size w) (.cells #[.slice A n c] 22)
  have hbx := Boxed.new w 22 (.slice A n c)
  have hsz : (w.alloc (.cells #[.slice A n c] 22)).heap.size = w.heap.size + 1 := by simp
  have HV := Lib.hid (Values_any A n c w)
  have HS := Lib.hid (Sorted_any l A n c w.heap.size (w.alloc (.cells #[.slice A n c] 22)) hbx.cell hbx.lt hl hn (hA.keep hb0) (fun h x hx => by rw [hsz]; have := hAQ h x hx; omega))
  have HB0 := Lib.hid hb0
  have HZ := Lib.hid hsz
  clear hA hAQ hbx hb0 hsz
  go_enter Try.func9, Try.ntmps9
  go_wp2_with fail
  refine HV.out.mono ?_
  rintro e w1 ⟨rfl, rfl⟩
  clear HV
  go_wp2_with fail
  refine HS.out.mono ?_
  rintro e w2 ⟨v, rfl, hrow, hb⟩
  have hrow' := own_mono hrow (show w.heap.size ≤ _ from by rw [HZ.out]; omega)
  have hb2 := HB0.out.andThen hb
  have HC := Lib.hid (CompactI_any (l.mergeSort fun x y => decide (x ≤ y)) v n w.heap.size w2 ((List.length_mergeSort _).trans hl) hn hrow' hb2.size)
  rw [compact_sorted] at HC
  have HB := Lib.hid hb2
  clear hrow hrow' hb hb2 HS
  go_wp2_with fail
  refine HC.out.mono ?_
  rintro e w3 ⟨v', rfl, hrow3, hb3⟩
  have HR := Lib.hid hrow3
  have HB3 := Lib.hid (HB.out.trans hb3)
  clear hrow3 hb3 HC
  go_wp2_with fail
  go_ret
  exact ⟨_, rfl, HR.out, HB3.out⟩
end Go.Proofs.Ytakkdpnaoahpcaa
