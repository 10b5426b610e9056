/-
  slices.Sorted, slices.Compact, sets.Of.
-/
import Derived.Shelf.Sort.Plain
import Derived.Shelf.Slices.In.SortNone
import Derived.Shelf.Slices.CompactI
import Derived.Sort.OwnSortedInts
import Derived.Lib.RowBridge
import Derived.Test.YtmonepclhbappaaDoorSetsIter
import Derived.Test.YtmonepclhbappaaDoorSetsP
namespace Go.Proofs.YtmonepclhbappaaDoor
open Go.RowKit Go.Shelf
set_option maxRecDepth 100000
set_option linter.unusedVariables false

def sort_ren : Go.Shelf.Ren := ⟨fun | 125 => 126 | 128 => 145 | 129 => 132 | 189 => 105 | 215 => 80 | 216 => 112 | 257 => 125 | 294 => 137 | 295 => 138 | 296 => 139 | 297 => 140 | 298 => 141 | 299 => 142 | 300 => 143 | 301 => 144 | 328 => 148 | 329 => 149 | 330 => 150 | 331 => 151 | 332 => 152 | 343 => 153 | n => n, fun | 0 => 0 | 3 => 3 | 4 => 4 | 5 => 5 | 9 => 9 | 28 => 22 | 46 => 151 | 51 => 212 | 53 => 79 | 131 => 135 | 182 => 215 | 183 => 216 | 218 => 222 | 222 => 226 | 228 => 230 | 229 => 231 | n => n, fun | n => n⟩
theorem sort_lays : Go.Proofs.Lays.n189 Tryd.prog sort_ren := {
  mixed := by kernel_rfl
  f125 := Tryd.func126.trans (congrArg some (by kernel_rfl))
  f128 := Tryd.func145.trans (congrArg some (by kernel_rfl))
  f129 := Tryd.func132.trans (congrArg some (by kernel_rfl))
  f189 := Tryd.func105.trans (congrArg some (by kernel_rfl))
  f215 := Tryd.func80.trans (congrArg some (by kernel_rfl))
  f216 := Tryd.func112.trans (congrArg some (by kernel_rfl))
  f257 := Tryd.func125.trans (congrArg some (by kernel_rfl))
  f294 := Tryd.func137.trans (congrArg some (by kernel_rfl))
  f295 := Tryd.func138.trans (congrArg some (by kernel_rfl))
  f296 := Tryd.func139.trans (congrArg some (by kernel_rfl))
  f297 := Tryd.func140.trans (congrArg some (by kernel_rfl))
  f298 := Tryd.func141.trans (congrArg some (by kernel_rfl))
  f299 := Tryd.func142.trans (congrArg some (by kernel_rfl))
  f300 := Tryd.func143.trans (congrArg some (by kernel_rfl))
  f301 := Tryd.func144.trans (congrArg some (by kernel_rfl))
  f328 := Tryd.func148.trans (congrArg some (by kernel_rfl))
  f329 := Tryd.func149.trans (congrArg some (by kernel_rfl))
  f330 := Tryd.func150.trans (congrArg some (by kernel_rfl))
  f331 := Tryd.func151.trans (congrArg some (by kernel_rfl))
  f332 := Tryd.func152.trans (congrArg some (by kernel_rfl))
  f343 := Tryd.func153.trans (congrArg some (by kernel_rfl))
  t0 := Tryd.underlying0
  a0 := Tryd.isAgg0
  z0 := Tryd.sizeOf0
  v0 := Tryd.zeroValue0
  t3 := Tryd.underlying3
  a3 := Tryd.isAgg3
  z3 := Tryd.sizeOf3
  v3 := Tryd.zeroValue3
  t4 := Tryd.underlying4
  a4 := Tryd.isAgg4
  z4 := Tryd.sizeOf4
  v4 := Tryd.zeroValue4
  t5 := Tryd.underlying5
  a5 := Tryd.isAgg5
  z5 := Tryd.sizeOf5
  v5 := Tryd.zeroValue5
  t9 := Tryd.underlying9
  a9 := Tryd.isAgg9
  z9 := Tryd.sizeOf9
  v9 := Tryd.zeroValue9
  t28 := Tryd.underlying22
  a28 := Tryd.isAgg22
  z28 := Tryd.sizeOf22
  v28 := Tryd.zeroValue22
  t46 := Tryd.underlying151
  a46 := Tryd.isAgg151
  z46 := Tryd.sizeOf151
  v46 := Tryd.zeroValue151
  t51 := Tryd.underlying212
  a51 := Tryd.isAgg212
  z51 := Tryd.sizeOf212
  v51 := Tryd.zeroValue212
  t53 := Tryd.underlying79
  a53 := Tryd.isAgg79
  z53 := Tryd.sizeOf79
  v53 := Tryd.zeroValue79
  t131 := Tryd.underlying135
  a131 := Tryd.isAgg135
  z131 := Tryd.sizeOf135
  v131 := Tryd.zeroValue135
  t182 := Tryd.underlying215
  a182 := Tryd.isAgg215
  z182 := Tryd.sizeOf215
  v182 := Tryd.zeroValue215
  t183 := Tryd.underlying216
  a183 := Tryd.isAgg216
  z183 := Tryd.sizeOf216
  v183 := Tryd.zeroValue216
  t218 := Tryd.underlying222
  a218 := Tryd.isAgg222
  z218 := Tryd.sizeOf222
  v218 := Tryd.zeroValue222
  t222 := Tryd.underlying226
  a222 := Tryd.isAgg226
  z222 := Tryd.sizeOf226
  v222 := Tryd.zeroValue226
  t228 := Tryd.underlying230
  a228 := Tryd.isAgg230
  z228 := Tryd.sizeOf230
  v228 := Tryd.zeroValue230
  t229 := Tryd.underlying231
  a229 := Tryd.isAgg231
  z229 := Tryd.sizeOf231
  v229 := Tryd.zeroValue231 }

def comp_ren : Go.Shelf.Ren := ⟨fun | 20 => 121 | n => n, fun | 0 => 0 | 3 => 3 | 4 => 4 | 22 => 22 | n => n, fun | n => n⟩
theorem comp_lays : Go.Proofs.Lays2.n20 Tryd.prog comp_ren := {
  mixed := by kernel_rfl
  f20 := Tryd.func121.trans (congrArg some (by kernel_rfl))
  t0 := Tryd.underlying0
  a0 := Tryd.isAgg0
  z0 := Tryd.sizeOf0
  v0 := Tryd.zeroValue0
  t3 := Tryd.underlying3
  a3 := Tryd.isAgg3
  z3 := Tryd.sizeOf3
  v3 := Tryd.zeroValue3
  t4 := Tryd.underlying4
  a4 := Tryd.isAgg4
  z4 := Tryd.sizeOf4
  v4 := Tryd.zeroValue4
  t22 := Tryd.underlying22
  a22 := Tryd.isAgg22
  z22 := Tryd.sizeOf22
  v22 := Tryd.zeroValue22
  i3 := by kernel_rfl }

/-- The head of an own row. -/
theorem own_head {w : World} {B g n k c : Nat} {e : TypeId} {xs : List Value} (h : w.ownsRow B e 1 (.slice (some ⟨g, 0, none⟩) n c) n xs) (hk : k ≤ n) : w.ownsRow B e 1 (.slice (some ⟨g, 0, none⟩) k c) k (xs.take k) := by
  rcases h.2 with ⟨h0, _⟩ | ⟨g', cap', cur, hv, hg, hgb, hn, hcap, hsz, ht⟩
  · cases h0
  cases hv
  have hx := h.1
  refine ⟨by rw [List.length_take]; omega, .inr ⟨g, c, cur, rfl, hg, hgb, by omega, hcap, hsz, ?_⟩⟩
  rw [Nat.mul_one] at ht ⊢
  rw [← ht, List.take_take, Nat.min_eq_left hk]

set_option maxHeartbeats 2000000 in
theorem Sorted_any (l : List Int) (A : Option Addr) (n c : Nat) (Bs : Nat) (w : World) (hsB : w.cell? ⟨Bs, 0, none⟩ = some (.slice A n c)) (hBs : Bs < w.heap.size)
    (hl : l.length = n) (hn : n ≤ 1048576) (hA : Sl w 1 A n (l.map (Value.int .i64))) (hAQ : 0 < n → ∀ x : Addr, A = some x → x.block < w.heap.size) :
    Calls Tryd.prog 92 #[.func (.func 136) #[] #[.pointer (some ⟨Bs, 0, none⟩)]] w fun e w' => ∃ v, e = .returned v ∧ w'.ownsRow w.heap.size 3 1 v n ((l.mergeSort fun x y => decide (x ≤ y)).map (Value.int .i64)) ∧ Below w.heap.size w w' := by
  have HC := Lib.hid (Collect_any l A n c Bs w hsB hBs hl hn hA hAQ)
  clear hsB hBs hA hAQ
  go_enter Tryd.func92, Tryd.ntmps92
  go_wp2_with fail
  refine HC.out.mono ?_
  rintro e W ⟨v, rfl, hrow, hb⟩
  have hlm : (l.mergeSort fun x y => decide (x ≤ y)).length = l.length := List.length_mergeSort _
  rcases hrow.2 with ⟨rfl, hz⟩ | ⟨gb, cap, cur, rfl, hbase, hgb, r1, r2, r3, r4⟩
  · subst hz
    have hle : l = [] := List.eq_nil_of_length_eq_zero hl
    have HO := Lib.hid hrow
    have HB := Lib.hid hb
    have HS := Lib.hid (Go.Proofs.Any.slices_Sort_int_none sort_lays none 0 W)
    clear hrow hb HC
    go_wp2_with fail
    refine HS.out.mono ?_
    rintro e w' ⟨rfl, rfl⟩
    go_wp2_with fail
    go_ret
    refine ⟨_, rfl, ?_, HB.out⟩
    rw [hle, List.mergeSort_nil]
    exact World.ownsRow_nil _ _ _ _
  · have hH : Go.Sort.Holds (Value.int .i64) W gb 0 l.toArray := holds_of_blockI hgb (by rw [hl]; simpa using r4)
    have hgl : gb < W.heap.size := (Array.getElem?_eq_some_iff.1 hgb).1
    have hs := Go.Proofs.Any.slices_Sort_int sort_lays gb 0 cap l W hH hgl (by omega)
    rw [hl] at hs
    have HS := Lib.hid hs
    have HO := Lib.hid (fun (nn : Nat) (os : Array Obj) => ownsRow_sortedI (n := nn) (os := os) (ss := l) (ts := l.mergeSort fun x y => decide (x ≤ y)) hlm hbase hgb (by omega) r2 r3)
    have HB := Lib.hid hb
    have HH := Lib.hid hbase
    clear hs hH hrow hb HC hgb r1 r2 r3 r4 hgl hbase
    go_wp2_with fail
    refine HS.out.mono ?_
    rintro e w' ⟨rfl, nn, os, hw'⟩
    have HW := Lib.hid hw'
    clear hw'
    go_wp2_with fail
    go_ret
    have ho := HO.out nn os
    rw [hl] at ho
    rw [HW.out]
    exact ⟨_, rfl, ho, HB.out.grown (grownBy_sortedI _) HB.out.size (fun j hj => by cases hj; exact HH.out)⟩

set_option maxHeartbeats 2000000 in
theorem CompactI_any (l : List Int) (v : Value) (n B : Nat) (w : World) (hl : l.length = n) (hn : n ≤ 1048576) (hrow : w.ownsRow B 3 1 v n (l.map (Value.int .i64))) (hB : B ≤ w.heap.size) :
    Calls Tryd.prog 121 #[v] w fun e w' => ∃ v', e = .returned v' ∧ w'.ownsRow B 3 1 v' (Go.Lib.compact l).length ((Go.Lib.compact l).map (Value.int .i64)) ∧ Below B w w' := by
  rcases hrow.2 with ⟨rfl, hz⟩ | ⟨gb, cap, cur, rfl, hbase, hgb, r1, r2, r3, r4⟩
  · subst hz
    have hle : l = [] := List.eq_nil_of_length_eq_zero hl
    subst hle
    refine (Go.Proofs.Any.slices_Compact_int_empty comp_lays none 0 w).mono ?_
    rintro e w' ⟨rfl, rfl⟩
    exact ⟨_, rfl, World.ownsRow_nil _ _ _ _, Below.refl _ _⟩
  · have hH : Go.Sort.Holds (Value.int .i64) w gb 0 l.toArray := holds_of_blockI hgb (by rw [hl]; simpa using r4)
    have hs := Go.Proofs.Any.slices_Compact_int comp_lays gb 0 cap l w hH (by omega) (by omega)
    rw [hl] at hs
    refine hs.mono ?_
    rintro e w' ⟨rfl, q, rfl⟩
    have hle := Go.Lib.compact_length_le l
    generalize Go.Lib.compact l = ts at *
    have ho := ownsRow_sortedI (n := q) (os := #[]) (ss := l) (ts := ts ++ List.replicate (n - ts.length) 0) (by simp; omega) hbase hgb (by omega) r2 r3
    rw [Go.Sort.grow_empty, hl] at ho
    have hg := grownBy_sortedI (w := w) (g := gb) (n := q) (os := #[]) (ts ++ List.replicate (n - ts.length) 0).toArray
    rw [Go.Sort.grow_empty] at hg
    have h2 := own_head ho (k := ts.length) (by omega)
    rw [← List.map_take, List.take_left' rfl] at h2
    exact ⟨_, rfl, h2, (Below.refl B w).grown hg hB (fun j hj => by cases hj; exact hbase)⟩

set_option maxHeartbeats 2000000 in
/-- sets.Of: the document's set, in a new row. -/
theorem Of_any (l : List Int) (A : Option Addr) (n c : Nat) (w : World) (hl : l.length = n) (hn : n ≤ 1048576) (hA : Sl w 1 A n (l.map (Value.int .i64))) (hAQ : 0 < n → ∀ x : Addr, A = some x → x.block < w.heap.size) :
    Calls Tryd.prog 102 #[.slice A n c] w fun e w' => ∃ v, e = .returned v ∧ w'.ownsRow w.heap.size 3 1 v (setL l).length ((setL l).map (Value.int .i64)) ∧ Below w.heap.size w w' := by
  have hb0 := bel_al (Below.refl w.heap.size w) (.cells #[.slice A n c] 22)
  have hbx := Boxed.new w 22 (.slice A n c)
  have hsz : (w.alloc (.cells #[.slice A n c] 22)).heap.size = w.heap.size + 1 := by simp
  have HV := Lib.hid (Values_any A n c w)
  have HS := Lib.hid (Sorted_any l A n c w.heap.size (w.alloc (.cells #[.slice A n c] 22)) hbx.cell hbx.lt hl hn (hA.keep hb0) (fun h x hx => by rw [hsz]; have := hAQ h x hx; omega))
  have HB0 := Lib.hid hb0
  have HZ := Lib.hid hsz
  clear hA hAQ hbx hb0 hsz
  go_enter Tryd.func102, Tryd.ntmps102
  go_wp2_with fail
  refine HV.out.mono ?_
  rintro e w1 ⟨rfl, rfl⟩
  clear HV
  go_wp2_with fail
  refine HS.out.mono ?_
  rintro e w2 ⟨v, rfl, hrow, hb⟩
  have hrow' := own_mono hrow (show w.heap.size ≤ _ from by rw [HZ.out]; omega)
  have hb2 := HB0.out.andThen hb
  have HC := Lib.hid (CompactI_any (l.mergeSort fun x y => decide (x ≤ y)) v n w.heap.size w2 ((List.length_mergeSort _).trans hl) hn hrow' hb2.size)
  rw [compact_sorted] at HC
  have HB := Lib.hid hb2
  clear hrow hrow' hb hb2 HS
  go_wp2_with fail
  refine HC.out.mono ?_
  rintro e w3 ⟨v', rfl, hrow3, hb3⟩
  have HR := Lib.hid hrow3
  have HB3 := Lib.hid (HB.out.trans hb3)
  clear hrow3 hb3 HC
  go_wp2_with fail
  go_ret
  exact ⟨_, rfl, HR.out, HB3.out⟩
end Go.Proofs.YtmonepclhbappaaDoor
