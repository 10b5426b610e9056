/-
  Part 5 of the proof of OdagMerge: SetsOf, CmpS, SetsC, SetsD, SetsE.
-/
import Derived.Shelf.Sort.Plain
import Derived.Shelf.Slices.In.SortNone
import Derived.Shelf.Slices.CompactI
import Derived.Sort.OwnSortedInts
import Derived.Lib.RowBridge
import Derived.Test.YtmonepclhbappaaGreatDoorOdagMergeM4
import Derived.Test.YtmonepclhbappaaGreatDoorOdagMergeM2
import Derived.Shelf.Slices.SearchI
import Derived.Deep.RegionLaw
/-
  slices.Sorted, slices.Compact, sets.Of.
-/
namespace Go.Proofs.YtmonepclhbappaaGreatDoor
open Go.RowKit Go.Shelf
set_option maxRecDepth 100000
set_option linter.unusedVariables false

def sort_ren : Go.Shelf.Ren := ⟨fun | 125 => 128 | 128 => 154 | 129 => 155 | 189 => 111 | 215 => 90 | 216 => 151 | 257 => 127 | 294 => 145 | 295 => 146 | 296 => 147 | 297 => 148 | 298 => 149 | 299 => 150 | 300 => 152 | 301 => 153 | 328 => 163 | 329 => 164 | 330 => 165 | 331 => 166 | 332 => 167 | 343 => 171 | n => n, fun | 0 => 0 | 3 => 3 | 4 => 4 | 5 => 5 | 9 => 9 | 28 => 22 | 46 => 171 | 51 => 153 | 53 => 160 | 131 => 138 | 182 => 220 | 183 => 221 | 218 => 233 | 222 => 237 | 228 => 239 | 229 => 33 | n => n, fun | n => n⟩
theorem sort_lays : Go.Proofs.Lays.n189 Tryz.prog sort_ren := {
  mixed := by kernel_rfl
  f125 := Tryz.func128.trans (congrArg some (by kernel_rfl))
  f128 := Tryz.func154.trans (congrArg some (by kernel_rfl))
  f129 := Tryz.func155.trans (congrArg some (by kernel_rfl))
  f189 := Tryz.func111.trans (congrArg some (by kernel_rfl))
  f215 := Tryz.func90.trans (congrArg some (by kernel_rfl))
  f216 := Tryz.func151.trans (congrArg some (by kernel_rfl))
  f257 := Tryz.func127.trans (congrArg some (by kernel_rfl))
  f294 := Tryz.func145.trans (congrArg some (by kernel_rfl))
  f295 := Tryz.func146.trans (congrArg some (by kernel_rfl))
  f296 := Tryz.func147.trans (congrArg some (by kernel_rfl))
  f297 := Tryz.func148.trans (congrArg some (by kernel_rfl))
  f298 := Tryz.func149.trans (congrArg some (by kernel_rfl))
  f299 := Tryz.func150.trans (congrArg some (by kernel_rfl))
  f300 := Tryz.func152.trans (congrArg some (by kernel_rfl))
  f301 := Tryz.func153.trans (congrArg some (by kernel_rfl))
  f328 := Tryz.func163.trans (congrArg some (by kernel_rfl))
  f329 := Tryz.func164.trans (congrArg some (by kernel_rfl))
  f330 := Tryz.func165.trans (congrArg some (by kernel_rfl))
  f331 := Tryz.func166.trans (congrArg some (by kernel_rfl))
  f332 := Tryz.func167.trans (congrArg some (by kernel_rfl))
  f343 := Tryz.func171.trans (congrArg some (by kernel_rfl))
  t0 := Tryz.underlying0
  a0 := Tryz.isAgg0
  z0 := Tryz.sizeOf0
  v0 := Tryz.zeroValue0
  t3 := Tryz.underlying3
  a3 := Tryz.isAgg3
  z3 := Tryz.sizeOf3
  v3 := Tryz.zeroValue3
  t4 := Tryz.underlying4
  a4 := Tryz.isAgg4
  z4 := Tryz.sizeOf4
  v4 := Tryz.zeroValue4
  t5 := Tryz.underlying5
  a5 := Tryz.isAgg5
  z5 := Tryz.sizeOf5
  v5 := Tryz.zeroValue5
  t9 := Tryz.underlying9
  a9 := Tryz.isAgg9
  z9 := Tryz.sizeOf9
  v9 := Tryz.zeroValue9
  t28 := Tryz.underlying22
  a28 := Tryz.isAgg22
  z28 := Tryz.sizeOf22
  v28 := Tryz.zeroValue22
  t46 := Tryz.underlying171
  a46 := Tryz.isAgg171
  z46 := Tryz.sizeOf171
  v46 := Tryz.zeroValue171
  t51 := Tryz.underlying153
  a51 := Tryz.isAgg153
  z51 := Tryz.sizeOf153
  v51 := Tryz.zeroValue153
  t53 := Tryz.underlying160
  a53 := Tryz.isAgg160
  z53 := Tryz.sizeOf160
  v53 := Tryz.zeroValue160
  t131 := Tryz.underlying138
  a131 := Tryz.isAgg138
  z131 := Tryz.sizeOf138
  v131 := Tryz.zeroValue138
  t182 := Tryz.underlying220
  a182 := Tryz.isAgg220
  z182 := Tryz.sizeOf220
  v182 := Tryz.zeroValue220
  t183 := Tryz.underlying221
  a183 := Tryz.isAgg221
  z183 := Tryz.sizeOf221
  v183 := Tryz.zeroValue221
  t218 := Tryz.underlying233
  a218 := Tryz.isAgg233
  z218 := Tryz.sizeOf233
  v218 := Tryz.zeroValue233
  t222 := Tryz.underlying237
  a222 := Tryz.isAgg237
  z222 := Tryz.sizeOf237
  v222 := Tryz.zeroValue237
  t228 := Tryz.underlying239
  a228 := Tryz.isAgg239
  z228 := Tryz.sizeOf239
  v228 := Tryz.zeroValue239
  t229 := Tryz.underlying33
  a229 := Tryz.isAgg33
  z229 := Tryz.sizeOf33
  v229 := Tryz.zeroValue33 }

def comp_ren : Go.Shelf.Ren := ⟨fun | 20 => 142 | n => n, fun | 0 => 0 | 3 => 3 | 4 => 4 | 22 => 22 | n => n, fun | n => n⟩
theorem comp_lays : Go.Proofs.Lays2.n20 Tryz.prog comp_ren := {
  mixed := by kernel_rfl
  f20 := Tryz.func142.trans (congrArg some (by kernel_rfl))
  t0 := Tryz.underlying0
  a0 := Tryz.isAgg0
  z0 := Tryz.sizeOf0
  v0 := Tryz.zeroValue0
  t3 := Tryz.underlying3
  a3 := Tryz.isAgg3
  z3 := Tryz.sizeOf3
  v3 := Tryz.zeroValue3
  t4 := Tryz.underlying4
  a4 := Tryz.isAgg4
  z4 := Tryz.sizeOf4
  v4 := Tryz.zeroValue4
  t22 := Tryz.underlying22
  a22 := Tryz.isAgg22
  z22 := Tryz.sizeOf22
  v22 := Tryz.zeroValue22
  i3 := by kernel_rfl }

/-- The head of an own row. -/
theorem own_head {w : World} {B g n k c : Nat} {e : TypeId} {xs : List Value} (h : w.ownsRow B e 1 (.slice (some ⟨g, 0, none⟩) n c) n xs) (hk : k ≤ n) : w.ownsRow B e 1 (.slice (some ⟨g, 0, none⟩) k c) k (xs.take k) := by
  rcases h.2 with ⟨h0, _⟩ | ⟨g', cap', cur, hv, hg, hgb, hn, hcap, hsz, ht⟩
  · cases h0
  cases hv
  have hx := h.1
  refine ⟨by rw [List.length_take]; omega, .inr ⟨g, c, cur, rfl, hg, hgb, by omega, hcap, hsz, ?_⟩⟩
  rw [Nat.mul_one] at ht ⊢
  rw [← ht, List.take_take, Nat.min_eq_left hk]

set_option maxHeartbeats 2000000 in
theorem Sorted_any (l : List Int) (A : Option Addr) (n c : Nat) (Bs : Nat) (w : World) (hsB : w.cell? ⟨Bs, 0, none⟩ = some (.slice A n c)) (hBs : Bs < w.heap.size)
    (hl : l.length = n) (hn : n ≤ 1048576) (hA : Sl w 1 A n (l.map (Value.int .i64))) (hAQ : 0 < n → ∀ x : Addr, A = some x → x.block < w.heap.size) :
    Calls Tryz.prog 79 #[.func (.func 162) #[] #[.pointer (some ⟨Bs, 0, none⟩)]] w fun e w' => ∃ v, e = .returned v ∧ w'.ownsRow w.heap.size 3 1 v n ((l.mergeSort fun x y => decide (x ≤ y)).map (Value.int .i64)) ∧ Below w.heap.size w w' := by
  have HC := Lib.hid (Collect_any l A n c Bs w hsB hBs hl hn hA hAQ)
  clear hsB hBs hA hAQ
  go_enter Tryz.func79, Tryz.ntmps79
  go_wp2_with fail
  refine HC.out.mono ?_
  rintro e W ⟨v, rfl, hrow, hb⟩
  have hlm : (l.mergeSort fun x y => decide (x ≤ y)).length = l.length := List.length_mergeSort _
  rcases hrow.2 with ⟨rfl, hz⟩ | ⟨gb, cap, cur, rfl, hbase, hgb, r1, r2, r3, r4⟩
  · subst hz
    have hle : l = [] := List.eq_nil_of_length_eq_zero hl
    have HO := Lib.hid hrow
    have HB := Lib.hid hb
    have HS := Lib.hid (Go.Proofs.Any.slices_Sort_int_none sort_lays none 0 W)
    clear hrow hb HC
    go_wp2_with fail
    refine HS.out.mono ?_
    rintro e w' ⟨rfl, rfl⟩
    go_wp2_with fail
    go_ret
    refine ⟨_, rfl, ?_, HB.out⟩
    rw [hle, List.mergeSort_nil]
    exact World.ownsRow_nil _ _ _ _
  · have hH : Go.Sort.Holds (Value.int .i64) W gb 0 l.toArray := holds_of_blockI hgb (by rw [hl]; simpa using r4)
    have hgl : gb < W.heap.size := (Array.getElem?_eq_some_iff.1 hgb).1
    have hs := Go.Proofs.Any.slices_Sort_int sort_lays gb 0 cap l W hH hgl (by omega)
    rw [hl] at hs
    have HS := Lib.hid hs
    have HO := Lib.hid (fun (nn : Nat) (os : Array Obj) => ownsRow_sortedI (n := nn) (os := os) (ss := l) (ts := l.mergeSort fun x y => decide (x ≤ y)) hlm hbase hgb (by omega) r2 r3)
    have HB := Lib.hid hb
    have HH := Lib.hid hbase
    clear hs hH hrow hb HC hgb r1 r2 r3 r4 hgl hbase
    go_wp2_with fail
    refine HS.out.mono ?_
    rintro e w' ⟨rfl, nn, os, hw'⟩
    have HW := Lib.hid hw'
    clear hw'
    go_wp2_with fail
    go_ret
    have ho := HO.out nn os
    rw [hl] at ho
    rw [HW.out]
    exact ⟨_, rfl, ho, HB.out.grown (grownBy_sortedI _) HB.out.size (fun j hj => by cases hj; exact HH.out)⟩

set_option maxHeartbeats 2000000 in
theorem CompactI_any (l : List Int) (v : Value) (n B : Nat) (w : World) (hl : l.length = n) (hn : n ≤ 1048576) (hrow : w.ownsRow B 3 1 v n (l.map (Value.int .i64))) (hB : B ≤ w.heap.size) :
    Calls Tryz.prog 142 #[v] w fun e w' => ∃ v', e = .returned v' ∧ w'.ownsRow B 3 1 v' (Go.Lib.compact l).length ((Go.Lib.compact l).map (Value.int .i64)) ∧ Below B w w' := by
  rcases hrow.2 with ⟨rfl, hz⟩ | ⟨gb, cap, cur, rfl, hbase, hgb, r1, r2, r3, r4⟩
  · subst hz
    have hle : l = [] := List.eq_nil_of_length_eq_zero hl
    subst hle
    refine (Go.Proofs.Any.slices_Compact_int_empty comp_lays none 0 w).mono ?_
    rintro e w' ⟨rfl, rfl⟩
    exact ⟨_, rfl, World.ownsRow_nil _ _ _ _, Below.refl _ _⟩
  · have hH : Go.Sort.Holds (Value.int .i64) w gb 0 l.toArray := holds_of_blockI hgb (by rw [hl]; simpa using r4)
    have hs := Go.Proofs.Any.slices_Compact_int comp_lays gb 0 cap l w hH (by omega) (by omega)
    rw [hl] at hs
    refine hs.mono ?_
    rintro e w' ⟨rfl, q, rfl⟩
    have hle := Go.Lib.compact_length_le l
    generalize Go.Lib.compact l = ts at *
    have ho := ownsRow_sortedI (n := q) (os := #[]) (ss := l) (ts := ts ++ List.replicate (n - ts.length) 0) (by simp; omega) hbase hgb (by omega) r2 r3
    rw [Go.Sort.grow_empty, hl] at ho
    have hg := grownBy_sortedI (w := w) (g := gb) (n := q) (os := #[]) (ts ++ List.replicate (n - ts.length) 0).toArray
    rw [Go.Sort.grow_empty] at hg
    have h2 := own_head ho (k := ts.length) (by omega)
    rw [← List.map_take, List.take_left' rfl] at h2
    exact ⟨_, rfl, h2, (Below.refl B w).grown hg hB (fun j hj => by cases hj; exact hbase)⟩

set_option maxHeartbeats 2000000 in
/-- sets.Of: the document's set, in a new row. -/
theorem Of_any (l : List Int) (A : Option Addr) (n c : Nat) (w : World) (hl : l.length = n) (hn : n ≤ 1048576) (hA : Sl w 1 A n (l.map (Value.int .i64))) (hAQ : 0 < n → ∀ x : Addr, A = some x → x.block < w.heap.size) :
    Calls Tryz.prog 124 #[.slice A n c] w fun e w' => ∃ v, e = .returned v ∧ w'.ownsRow w.heap.size 3 1 v (setL l).length ((setL l).map (Value.int .i64)) ∧ Below w.heap.size w w' := by
  have hb0 := bel_al (Below.refl w.heap.size w) (.cells #[.slice A n c] 22)
  have hbx := Boxed.new w 22 (.slice A n c)
  have hsz : (w.alloc (.cells #[.slice A n c] 22)).heap.size = w.heap.size + 1 := by simp
  have HV := Lib.hid (Values_any A n c w)
  have HS := Lib.hid (Sorted_any l A n c w.heap.size (w.alloc (.cells #[.slice A n c] 22)) hbx.cell hbx.lt hl hn (hA.keep hb0) (fun h x hx => by rw [hsz]; have := hAQ h x hx; omega))
  have HB0 := Lib.hid hb0
  have HZ := Lib.hid hsz
  clear hA hAQ hbx hb0 hsz
  go_enter Tryz.func124, Tryz.ntmps124
  go_wp2_with fail
  refine HV.out.mono ?_
  rintro e w1 ⟨rfl, rfl⟩
  clear HV
  go_wp2_with fail
  refine HS.out.mono ?_
  rintro e w2 ⟨v, rfl, hrow, hb⟩
  have hrow' := own_mono hrow (show w.heap.size ≤ _ from by rw [HZ.out]; omega)
  have hb2 := HB0.out.andThen hb
  have HC := Lib.hid (CompactI_any (l.mergeSort fun x y => decide (x ≤ y)) v n w.heap.size w2 ((List.length_mergeSort _).trans hl) hn hrow' hb2.size)
  rw [compact_sorted] at HC
  have HB := Lib.hid hb2
  clear hrow hrow' hb hb2 HS
  go_wp2_with fail
  refine HC.out.mono ?_
  rintro e w3 ⟨v', rfl, hrow3, hb3⟩
  have HR := Lib.hid hrow3
  have HB3 := Lib.hid (HB.out.trans hb3)
  clear hrow3 hb3 HC
  go_wp2_with fail
  go_ret
  exact ⟨_, rfl, HR.out, HB3.out⟩
end Go.Proofs.YtmonepclhbappaaGreatDoor
/-
  cmp.Compare and slices.Compare at ints.
-/
namespace Go.Proofs.YtmonepclhbappaaGreatDoor
open Go.RowKit
set_option maxRecDepth 100000
set_option linter.unusedVariables false

def cmpI (x y : Int) : Int := if x < y then -1 else if y < x then 1 else 0
def cmpL : List Int → List Int → Int
  | [], [] => 0
  | [], _ :: _ => -1
  | _ :: _, [] => 1
  | x :: a, y :: b => if x < y then -1 else if y < x then 1 else cmpL a b
theorem cmpL_range : ∀ a b : List Int, cmpL a b = -1 ∨ cmpL a b = 0 ∨ cmpL a b = 1
  | [], [] => .inr (.inl rfl)
  | [], _ :: _ => .inl rfl
  | _ :: _, [] => .inr (.inr rfl)
  | x :: a, y :: b => by
    rw [cmpL]
    split
    · exact .inl rfl
    · split
      · exact .inr (.inr rfl)
      · exact cmpL_range a b
theorem cmpL_neg : ∀ a b : List Int, cmpL b a = - cmpL a b
  | [], [] => rfl
  | [], _ :: _ => rfl
  | _ :: _, [] => rfl
  | x :: a, y :: b => by
    rw [cmpL, cmpL]
    by_cases h : x < y
    · rw [if_neg (by omega), if_pos h, if_pos h]; rfl
    · by_cases h2 : y < x
      · rw [if_pos h2, if_neg h, if_pos h2]
      · rw [if_neg h2, if_neg h, if_neg h, if_neg h2]
        exact cmpL_neg a b
theorem cmpL_zero : ∀ {a b : List Int}, cmpL a b = 0 ↔ a = b
  | [], [] => by simp [cmpL]
  | [], _ :: _ => by simp [cmpL]
  | _ :: _, [] => by simp [cmpL]
  | x :: a, y :: b => by
    rw [cmpL]
    split
    · rename_i h
      simp
      omega
    · split
      · rename_i h1 h
        simp
        omega
      · rename_i h1 h2
        rw [cmpL_zero]
        simp
        omega
theorem cmpL_drop {a b : List Int} {i : Nat} {x y : Int} (ha : a[i]? = some x) (hb : b[i]? = some y) : cmpL (a.drop i) (b.drop i) = if x < y then -1 else if y < x then 1 else cmpL (a.drop (i + 1)) (b.drop (i + 1)) := by
  obtain ⟨h1, h2⟩ := List.getElem?_eq_some_iff.1 ha
  obtain ⟨h3, h4⟩ := List.getElem?_eq_some_iff.1 hb
  rw [List.drop_eq_getElem_cons h1, List.drop_eq_getElem_cons h3, h2, h4, cmpL]

theorem CmpI_any (x y : Int) (w : World) : Calls Tryz.prog 46 #[.int .i64 x, .int .i64 y] w fun e w' => e = .returned (.int .i64 (cmpI x y)) ∧ w = w' := by
  have HN := Lib.hid (show ∀ (z : Int) W, Calls Tryz.prog 90 #[.int .i64 z] W fun e w' => e = .returned (.bool false) ∧ W = w' from fun z W => by
    go_enter Tryz.func90, Tryz.ntmps90
    have hb : (z != z) = false := by simp
    go_wp2_with fail
    go_ret
    exact ⟨rfl, rfl⟩)
  by_cases h : x < y
  · have hE := Lib.hid (show cmpI x y = -1 from if_pos h)
    go_enter Tryz.func46, Tryz.ntmps46
    go_wp2_with (go_at_call 90; refine (HN.out _ _).mono ?_; rintro e w' ⟨rfl, rfl⟩)
    go_ret
    exact ⟨ret_int hE.out.symm, rfl⟩
  · by_cases h2 : y < x
    · have hE := Lib.hid (show cmpI x y = 1 by unfold cmpI; rw [if_neg h, if_pos h2])
      go_enter Tryz.func46, Tryz.ntmps46
      go_wp2_with (go_at_call 90; refine (HN.out _ _).mono ?_; rintro e w' ⟨rfl, rfl⟩)
      go_ret
      exact ⟨ret_int hE.out.symm, rfl⟩
    · have hE := Lib.hid (show cmpI x y = 0 by unfold cmpI; rw [if_neg h, if_neg h2])
      go_enter Tryz.func46, Tryz.ntmps46
      go_wp2_with (go_at_call 90; refine (HN.out _ _).mono ?_; rintro e w' ⟨rfl, rfl⟩)
      go_ret
      exact ⟨ret_int hE.out.symm, rfl⟩

set_option maxHeartbeats 2000000 in
theorem CompareI_any (a b : List Int) (A B : Option Addr) (n m c d : Nat) (w : World) (hl : a.length = n) (hm : b.length = m) (hs : Sl w 1 A n (a.map (Value.int .i64))) (ht : Sl w 1 B m (b.map (Value.int .i64))) (hn : n ≤ 9223372036854775806) :
    Calls Tryz.prog 47 #[.slice A n c, .slice B m d] w fun e w' => e = .returned (.int .i64 (cmpL a b)) ∧ w = w' := by
  have HS := Lib.hid hs
  have HT := Lib.hid ht
  have HL := Lib.hid hl
  have HM := Lib.hid hm
  clear hs ht hl hm
  go_enter Tryz.func47, Tryz.ntmps47
  go_wp2_with fail
  go_loop [11] (fun i => ∃ k : Nat, k ≤ n ∧ k ≤ m ∧ i = .int .i64 k ∧ cmpL (a.drop k) (b.drop k) = cmpL a b) (fun i => n - (intOf i).toNat)
  case atStart => exact ⟨0, Nat.zero_le _, Nat.zero_le _, rfl, rfl⟩
  case round =>
    obtain ⟨k, hk, hkm, rfl, hd⟩ := hrel
    have HD := Lib.hid hd
    clear hd
    by_cases hlt : k < n
    · have hlt' : (k : Int) < (n : Int) := by omega
      obtain ⟨x, hx⟩ : ∃ x, a[k]? = some x := ⟨_, List.getElem?_eq_getElem (by rw [HL.out]; exact hlt)⟩
      obtain ⟨b1, off1, rfl, _⟩ := HS.out.at_ (show 0 < n by omega)
      have c1 := HS.out.again hlt (show (a.map (Value.int .i64))[k]? = some (.int .i64 x) by rw [List.getElem?_map, hx]; rfl)
      by_cases hlm : k < m
      · have hlm' : (k : Int) < (m : Int) := by omega
        have hlm2 : ¬ (m : Int) ≤ (k : Int) := by omega
        obtain ⟨y, hy⟩ : ∃ y, b[k]? = some y := ⟨_, List.getElem?_eq_getElem (by rw [HM.out]; exact hlm)⟩
        obtain ⟨b2, off2, rfl, _⟩ := HT.out.at_ (show 0 < m by omega)
        have c2 := HT.out.again hlm (show (b.map (Value.int .i64))[k]? = some (.int .i64 y) by rw [List.getElem?_map, hy]; rfl)
        have HE := Lib.hid (HD.out.symm.trans (cmpL_drop hx hy))
        clear hx hy
        by_cases hxy : x < y
        · rw [if_pos hxy] at HE
          have hc : cmpI x y = -1 := if_pos hxy
          have hne : (cmpI x y == 0) = false := by rw [hc]; rfl
          have HC := Lib.hid (hc.trans HE.out.symm)
          clear hc
          go_wp2_with (go_at_call 46; refine (CmpI_any x y _).mono ?_; rintro e w' ⟨rfl, rfl⟩)
          go_ret
          exact ⟨ret_int HC.out, rfl⟩
        · rw [if_neg hxy] at HE
          by_cases hyx : y < x
          · rw [if_pos hyx] at HE
            have hc : cmpI x y = 1 := by unfold cmpI; rw [if_neg hxy, if_pos hyx]
            have hne : (cmpI x y == 0) = false := by rw [hc]; rfl
            have HC := Lib.hid (hc.trans HE.out.symm)
            clear hc
            go_wp2_with (go_at_call 46; refine (CmpI_any x y _).mono ?_; rintro e w' ⟨rfl, rfl⟩)
            go_ret
            exact ⟨ret_int HC.out, rfl⟩
          · rw [if_neg hyx] at HE
            have hc : cmpI x y = 0 := by unfold cmpI; rw [if_neg hxy, if_neg hyx]
            go_wp2_with (go_at_call 46; refine (CmpI_any x y _).mono ?_; rintro e w' ⟨rfl, rfl⟩)
            go_round
            case rel => exact ⟨k + 1, by omega, by omega, by go_num, HE.out.symm⟩
            case measure => simp [intOf]; omega
      · obtain rfl : k = m := by omega
        have hlm2 : (k : Int) ≤ (k : Int) := by omega
        have HE := Lib.hid (show 1 = cmpL a b by
          rw [← HD.out]
          obtain ⟨h1, h2⟩ := List.getElem?_eq_some_iff.1 hx
          rw [List.drop_eq_getElem_cons h1, List.drop_of_length_le (l := b) (by rw [HM.out]; exact Nat.le_refl _)]; rfl)
        clear hx
        go_wp2_with fail
        go_ret
        exact ⟨ret_int HE.out, rfl⟩
    · obtain rfl : k = n := by omega
      have hlt' : ¬ (k : Int) < (k : Int) := by omega
      by_cases hkm' : k < m
      · have hkm2 : (k : Int) < (m : Int) := by omega
        have HE := Lib.hid (show -1 = cmpL a b by
          rw [← HD.out, List.drop_of_length_le (l := a) (by rw [HL.out]; exact Nat.le_refl _), List.drop_eq_getElem_cons (l := b) (by rw [HM.out]; exact hkm')]; rfl)
        go_wp2_with fail
        go_ret
        exact ⟨ret_int HE.out, rfl⟩
      · obtain rfl : k = m := by omega
        have HE := Lib.hid (show 0 = cmpL a b by
          rw [← HD.out, List.drop_of_length_le (l := a) (by rw [HL.out]; exact Nat.le_refl _), List.drop_of_length_le (l := b) (by rw [HM.out]; exact Nat.le_refl _)]; rfl)
        go_wp2_with fail
        go_ret
        exact ⟨ret_int HE.out, rfl⟩
end Go.Proofs.YtmonepclhbappaaGreatDoor
/-
  Lists held against each other; which lists rise: the given program's and the document's.
-/
namespace Go.Proofs.YtmonepclhbappaaGreatDoor
open Go.RowKit
set_option maxRecDepth 100000
set_option linter.unusedVariables false

end Go.Proofs.YtmonepclhbappaaGreatDoor
/-
  sets.Right; the document's Compare.
-/
namespace Go.Proofs.YtmonepclhbappaaGreatDoor
open Go.RowKit
set_option maxRecDepth 100000
set_option linter.unusedVariables false

abbrev Inc (l : List Int) : Prop := l.Pairwise (· < ·)
theorem inc_take {l : List Int} {k : Nat} {x y : Int} (hx : l[k]? = some x) (hy : l[k + 1]? = some y) : Inc (l.take (k + 2)) ↔ Inc (l.take (k + 1)) ∧ x < y := by
  obtain ⟨h1, h2⟩ := List.getElem?_eq_some_iff.1 hx
  obtain ⟨h3, h4⟩ := List.getElem?_eq_some_iff.1 hy
  rw [List.take_succ_eq_append_getElem h3, h4]
  unfold Inc
  rw [List.pairwise_append]
  constructor
  · rintro ⟨ha, _, hb⟩
    refine ⟨ha, hb x ?_ y (by simp)⟩
    rw [List.take_succ_eq_append_getElem h1, h2]; simp
  · rintro ⟨ha, hb⟩
    refine ⟨ha, List.pairwise_singleton _ _, fun a ha' b hb' => ?_⟩
    obtain rfl : b = y := by simpa using hb'
    rw [List.take_succ_eq_append_getElem h1, h2] at ha ha'
    rcases List.mem_append.1 ha' with h | h
    · have := (List.pairwise_append.1 ha).2.2 a h x (by simp)
      omega
    · obtain rfl : a = x := by simpa using h
      exact hb
theorem inc_one (l : List Int) : Inc (l.take 1) := by cases l <;> simp [Inc]
theorem inc_prefix {l : List Int} {k : Nat} (h : Inc l) : Inc (l.take k) := h.sublist (List.take_sublist _ _)

set_option maxHeartbeats 2000000 in
theorem Right_any (l : List Int) (A : Option Addr) (n c : Nat) (w : World) (hl : l.length = n) (hs : Sl w 1 A n (l.map (Value.int .i64))) (hn : n ≤ 9223372036854775806) :
    Calls Tryz.prog 122 #[.slice A n c] w fun e w' => e = .returned (.bool (decide (Inc l))) ∧ Below w.heap.size w w' := by
  have HS := Lib.hid hs
  have HL := Lib.hid hl
  clear hs hl
  go_enter Tryz.func122, Tryz.ntmps122
  go_wp2_with fail
  go_loopw [3] (fun iv wr => ∃ k : Nat, (k + 1 ≤ n ∨ k = 0) ∧ iv = .int .i64 ((k : Int) + 1) ∧ Inc (l.take (k + 1)) ∧ Below w.heap.size w wr) (fun iv _ => n - (intOf iv).toNat)
  case atStart => exact ⟨0, .inr rfl, rfl, inc_one l, Below.refl _ _⟩
  case round =>
    obtain ⟨k, hk, rfl, hI, hb⟩ := hrel
    have HI := Lib.hid hI
    have HB := Lib.hid hb
    clear hI hb
    by_cases hlt : k + 1 < n
    · have hlt' : (k : Int) + 1 < (n : Int) := by omega
      obtain ⟨x, hx⟩ : ∃ x, l[k]? = some x := ⟨_, List.getElem?_eq_getElem (by rw [HL.out]; omega)⟩
      obtain ⟨y, hy⟩ : ∃ y, l[k + 1]? = some y := ⟨_, List.getElem?_eq_getElem (by rw [HL.out]; omega)⟩
      obtain ⟨b1, off1, rfl, _⟩ := HS.out.at_ (show 0 < n by omega)
      have c1 := (HS.out.keep HB.out).again (show k < n by omega) (show (l.map (Value.int .i64))[k]? = some (.int .i64 x) by rw [List.getElem?_map, hx]; rfl)
      have c2 := (HS.out.keep HB.out).again hlt (show (l.map (Value.int .i64))[k + 1]? = some (.int .i64 y) by rw [List.getElem?_map, hy]; rfl)
      have HX := Lib.hid (inc_take hx hy)
      clear hx hy hk
      have hw1 : IntKind.i64.wrap ((k : Int) + 1 - 1) = (k : Int) := by rw [IntKind.wrap_i64]; omega
      have hw1' : IntKind.i64.wrap (k : Int) = (k : Int) := by rw [IntKind.wrap_i64]; omega
      have hw2 : IntKind.i64.wrap ((k : Int) + 1 + 1) = ((k + 1 : Nat) : Int) + 1 := by rw [IntKind.wrap_i64]; omega
      have h0k : (0 : Int) ≤ (k : Int) := by omega
      have hkn : (k : Int) < (n : Int) := by omega
      have h0k1 : (0 : Int) ≤ (k : Int) + 1 := by omega
      have ht1 : ((k : Int) + 1).toNat = k + 1 := by omega
      go_wp2_with fail
      go_quiet (fail)
      by_cases hxy : x < y
      · have hxy' : ¬ y ≤ x := by omega
        go_wp2_with fail
        go_roundw
        case rel => exact ⟨k + 1, .inl (by omega), by go_num, HX.out.2 ⟨HI.out, hxy⟩, bel_drewN HB.out _⟩
        case measure => simp [intOf]; omega
      · have hxy' : y ≤ x := by omega
        have HE := Lib.hid (decide_eq_false (p := Inc l) (fun h => hxy (HX.out.1 (inc_prefix h)).2))
        go_wp2_with fail
        go_ret
        exact ⟨ret_bool HE.out.symm, bel_drewN HB.out _⟩
    · have hlt' : ¬ (k : Int) + 1 < (n : Int) := by omega
      have HE := Lib.hid (decide_eq_true (p := Inc l) (by have h := HI.out; rw [List.take_of_length_le (by rw [HL.out]; omega)] at h; exact h))
      clear hk
      go_wp2_with fail
      go_ret
      exact ⟨ret_bool HE.out.symm, HB.out⟩

end Go.Proofs.YtmonepclhbappaaGreatDoor
/-
  sets.Has, Add, Less, Both, But, Within, Union; the document's Those.
-/
namespace Go.Proofs.YtmonepclhbappaaGreatDoor
open Go.RowKit Go.Shelf
set_option maxRecDepth 100000
set_option linter.unusedVariables false

def bs_ren : Go.Shelf.Ren := ⟨fun | 25 => 161 | 31 => 151 | 32 => 170 | 37 => 90 | n => n, fun | 0 => 0 | 3 => 3 | 4 => 4 | 22 => 22 | 40 => 171 | n => n, fun | n => n⟩
theorem bs_lays : Go.Proofs.Lays2.n25 Tryz.prog bs_ren := {
  mixed := by kernel_rfl
  f25 := Tryz.func161.trans (congrArg some (by kernel_rfl))
  f31 := Tryz.func151.trans (congrArg some (by kernel_rfl))
  f32 := Tryz.func170.trans (congrArg some (by kernel_rfl))
  f37 := Tryz.func90.trans (congrArg some (by kernel_rfl))
  t0 := Tryz.underlying0
  a0 := Tryz.isAgg0
  z0 := Tryz.sizeOf0
  v0 := Tryz.zeroValue0
  t3 := Tryz.underlying3
  a3 := Tryz.isAgg3
  z3 := Tryz.sizeOf3
  v3 := Tryz.zeroValue3
  t4 := Tryz.underlying4
  a4 := Tryz.isAgg4
  z4 := Tryz.sizeOf4
  v4 := Tryz.zeroValue4
  t22 := Tryz.underlying22
  a22 := Tryz.isAgg22
  z22 := Tryz.sizeOf22
  v22 := Tryz.zeroValue22
  t40 := Tryz.underlying171
  a40 := Tryz.isAgg171
  z40 := Tryz.sizeOf171
  v40 := Tryz.zeroValue171 }

theorem sl_lt {w : World} {A : Option Addr} {n : Nat} {xs : List Value} (h : Sl w 1 A n xs) (hn : 0 < n) : ∀ x : Addr, A = some x → x.block < w.heap.size := by
  intro x hx
  obtain ⟨b, off, u, rfl, _, hc⟩ := h.one hn
  cases hx
  by_cases hb : b < w.heap.size
  · exact hb
  · exfalso
    have : w.heap[b]? = none := Array.getElem?_eq_none (by omega)
    simp [World.cell?, this] at hc
theorem rise_count : ∀ (l : List Int) (x : Int), Inc l → rise x l = l.countP (· < x)
  | [], x, _ => rfl
  | y :: l, x, h => by
    have h1 := (List.pairwise_cons.1 h).1
    rw [rise]
    by_cases hy : y < x
    · rw [if_pos hy, List.countP_cons_of_pos (by simpa using hy), rise_count l x (List.pairwise_cons.1 h).2]
    · rw [if_neg hy, List.countP_eq_zero.2]
      intro z hz
      rcases List.mem_cons.1 hz with rfl | hz
      · simpa using hy
      · have := h1 z hz
        simp
        omega

set_option maxHeartbeats 2000000 in
theorem BS_any (l : List Int) (x : Int) (A : Option Addr) (n c : Nat) (w : World) (hl : l.length = n) (hn : n ≤ 1000000) (hI : Inc l) (hs : Sl w 1 A n (l.map (Value.int .i64))) :
    Calls Tryz.prog 161 #[.slice A n c, .int .i64 x] w fun e w' => e = .returned (.tuple #[.int .i64 ((rise x l : Nat) : Int), .bool (decide (x ∈ l))]) ∧ Below w.heap.size w w' := by
  rcases A with _ | A
  · have hn0 : n = 0 := by
      rcases Nat.eq_zero_or_pos n with h | h
      · exact h
      · obtain ⟨_, _, h, _⟩ := hs.2 h; cases h
    subst hn0
    obtain rfl := List.eq_nil_of_length_eq_zero hl
    have HR := Lib.hid (show Ending.returned (.tuple #[.int .i64 0, .bool false]) = .returned (.tuple #[.int .i64 ((rise x [] : Nat) : Int), .bool (decide (x ∈ ([] : List Int)))]) by simp [rise])
    clear hs hI
    go_enter Tryz.func161, Tryz.ntmps161
    go_wp2_with fail
    go_loopw [7, 8] (fun i j wr => i = .int .i64 0 ∧ j = .int .i64 0 ∧ wr = w) (fun _ _ _ => 0)
    case atStart => exact ⟨rfl, rfl, rfl⟩
    case round =>
      obtain ⟨rfl, rfl, rfl⟩ := hrel
      go_wp2_with fail
      go_ret2
      exact ⟨HR.out, Below.refl _ _⟩
  · have hex : ∃ b off, some A = some (⟨b, off, none⟩ : Addr) ∨ n = 0 := by
      rcases Nat.eq_zero_or_pos n with h | h
      · exact ⟨0, 0, .inr h⟩
      · obtain ⟨b, off, h, _⟩ := hs.2 h
        exact ⟨b, off, .inl h⟩
    have fin : ∀ b off, A = ⟨b, off, none⟩ → Calls Tryz.prog 161 #[.slice (some A) n c, .int .i64 x] w fun e w' => e = .returned (.tuple #[.int .i64 ((rise x l : Nat) : Int), .bool (decide (x ∈ l))]) ∧ Below w.heap.size w w' := by
      rintro b off rfl
      refine (Go.Proofs.Any.slices_BinarySearch_int bs_lays b off n c l x w (by omega) (by omega) (fun j hj => ?_) ?_).mono ?_
      · refine hs.again (k := j) (by omega) ?_
        rw [List.getElem?_map, List.getElem?_eq_getElem hj, List.getD_eq_getElem?_getD, List.getElem?_eq_getElem hj]; rfl
      · rw [List.take_of_length_le (by omega)]
        exact hI.imp fun h => Int.le_of_lt h
      · rintro e w' ⟨rfl, q, rfl⟩
        rw [List.take_of_length_le (by omega), ← rise_count l x hI]
        refine ⟨?_, bel_drewN (Below.refl _ _) q⟩
        congr 4
        rw [List.contains_eq_mem]
    obtain ⟨b, off, h | h⟩ := hex
    · cases h
      exact fin b off rfl
    · subst h
      obtain rfl := List.eq_nil_of_length_eq_zero hl
      have HR := Lib.hid (show Ending.returned (.tuple #[.int .i64 0, .bool false]) = .returned (.tuple #[.int .i64 ((rise x [] : Nat) : Int), .bool (decide (x ∈ ([] : List Int)))]) by simp [rise])
      clear hs hI fin
      go_enter Tryz.func161, Tryz.ntmps161
      go_wp2_with fail
      go_loopw [7, 8] (fun i j wr => i = .int .i64 0 ∧ j = .int .i64 0 ∧ wr = w) (fun _ _ _ => 0)
      case atStart => exact ⟨rfl, rfl, rfl⟩
      case round =>
        obtain ⟨rfl, rfl, rfl⟩ := hrel
        go_wp2_with fail
        go_ret2
        exact ⟨HR.out, Below.refl _ _⟩

theorem HasS_any (l : List Int) (x : Int) (A : Option Addr) (n c : Nat) (w : World) (hl : l.length = n) (hn : n ≤ 1000000) (hI : Inc l) (hs : Sl w 1 A n (l.map (Value.int .i64))) :
    Calls Tryz.prog 141 #[.slice A n c, .int .i64 x] w fun e w' => e = .returned (.bool (decide (x ∈ l))) ∧ Below w.heap.size w w' := by
  have HB := Lib.hid (BS_any l x A n c w hl hn hI hs)
  generalize decide (x ∈ l) = q at *
  generalize rise x l = r at *
  clear hl hI hs
  go_enter Tryz.func141, Tryz.ntmps141
  go_wp2_with fail
  refine HB.out.mono ?_
  rintro e w' ⟨rfl, hb⟩
  go_wp2_with fail
  go_ret
  exact ⟨rfl, hb⟩

set_option maxHeartbeats 2000000 in
theorem kept_But (b : List Int) (l : List Int) (A : Option Addr) (n c B : Nat) (w : World) (hl : l.length = n) (hn : n ≤ 1000000) (hs : Sl w 1 A n (l.map (Value.int .i64)))
    (hf : ∀ (y : Int) W, Below w.heap.size w W → Calls Tryz.prog 140 #[.int .i64 y, .pointer (some ⟨B, 0, none⟩)] W fun e w' => e = .returned (.bool (!decide (y ∈ b))) ∧ Below W.heap.size W w') :
    Calls Tryz.prog 139 #[.slice A n c, .func (.func 140) #[] #[.pointer (some ⟨B, 0, none⟩)]] w fun e w' => ∃ v, e = .returned v ∧ w'.ownsRow w.heap.size 3 1 v (l.filter fun y => !decide (y ∈ b)).length ((l.filter fun y => !decide (y ∈ b)).map (Value.int .i64)) ∧ Below w.heap.size w w' := by
  have HS := Lib.hid hs
  have HL := Lib.hid hl
  have HF := Lib.hid hf
  clear hs hl hf
  go_enter Tryz.func139, Tryz.ntmps139
  go_wp2_with fail
  go_loopw [5, 10] (fun ov iv wr => ∃ k : Nat, k ≤ n ∧ iv = .int .i64 (k : Int) ∧ wr.ownsRow w.heap.size 3 1 ov ((l.take k).filter fun y => !decide (y ∈ b)).length (((l.take k).filter fun y => !decide (y ∈ b)).map (Value.int .i64)) ∧ Below w.heap.size w wr) (fun _ iv _ => n - (intOf iv).toNat)
  case atStart => exact ⟨0, Nat.zero_le _, rfl, World.ownsRow_nil _ _ _ _, Below.refl _ _⟩
  case round =>
    obtain ⟨k, hk, rfl, hown, hb⟩ := hrel
    have HO := Lib.hid hown
    have HB := Lib.hid hb
    clear hown hb
    by_cases hlt : k < n
    · have hlt' : (k : Int) < (n : Int) := by omega
      obtain ⟨y, hy⟩ : ∃ y, l[k]? = some y := ⟨_, List.getElem?_eq_getElem (by rw [HL.out]; exact hlt)⟩
      obtain ⟨b1, off1, rfl, _⟩ := HS.out.at_ (show 0 < n by omega)
      have c1 := (HS.out.keep HB.out).again hlt (show (l.map (Value.int .i64))[k]? = some (.int .i64 y) by rw [List.getElem?_map, hy]; rfl)
      have hT : l.take (k + 1) = l.take k ++ [y] := by
        obtain ⟨h1, h2⟩ := List.getElem?_eq_some_iff.1 hy
        rw [List.take_succ_eq_append_getElem h1, h2]
      have hlen : ((l.take k).filter fun y => !decide (y ∈ b)).length ≤ k := Nat.le_trans (List.length_filter_le _ _) (by rw [List.length_take]; omega)
      have HT := Lib.hid hT
      have HLn := Lib.hid hlen
      clear hT hlen hy
      have HC := Lib.hid (HF.out y _ HB.out)
      by_cases hp : (!decide (y ∈ b)) = true
      · rw [hp] at HC
        have HFl := Lib.hid (show (l.take (k + 1)).filter (fun y => !decide (y ∈ b)) = (l.take k).filter (fun y => !decide (y ∈ b)) ++ [y] by rw [HT.out, List.filter_append]; congr 1; rw [List.filter_cons, if_pos hp]; rfl)
        clear hp
        go_wp2_with fail
        refine HC.out.mono ?_
        rintro e w2 ⟨rfl, hb2⟩
        have HO9 := Lib.hid (own_below HO.out (fun g hg => (HO.out.lt g hg).2) hb2)
        have HB2 := Lib.hid (HB.out.andThen hb2)
        clear hb2
        go_wp2_with (at_builtin; refine wpList_push elemInt _ _ rfl rfl HO9.out HB2.out (Nat.le_refl _) rfl rfl rfl (by simp [Value.oneCell']) (by unfold lim; have := HLn.out; omega) (by unfold lim; have := HLn.out; omega) ?_; intro v8 w8 hown8 hb8; have HO8 := Lib.hid hown8; have HB8 := Lib.hid hb8; clear hown8 hb8)
        go_roundw
        case rel => exact ⟨k + 1, by omega, by go_num, by rw [HFl.out, List.length_append, List.map_append]; exact HO8.out, HB8.out⟩
        case measure => simp [intOf]; omega
      · have hp' : (!decide (y ∈ b)) = false := Bool.eq_false_iff.2 hp
        rw [hp'] at HC
        have HFl := Lib.hid (show (l.take (k + 1)).filter (fun y => !decide (y ∈ b)) = (l.take k).filter (fun y => !decide (y ∈ b)) by rw [HT.out, List.filter_append, List.filter_cons, if_neg hp]; simp)
        clear hp hp'
        go_wp2_with fail
        refine HC.out.mono ?_
        rintro e w2 ⟨rfl, hb2⟩
        have HO9 := Lib.hid (own_below HO.out (fun g hg => (HO.out.lt g hg).2) hb2)
        have HB2 := Lib.hid (HB.out.andThen hb2)
        clear hb2
        go_wp2_with fail
        go_roundw
        case rel => exact ⟨k + 1, by omega, by go_num, by rw [HFl.out]; exact HO9.out, HB2.out⟩
        case measure => simp [intOf]; omega
    · obtain rfl : k = n := by omega
      have hlt' : ¬ (k : Int) < (k : Int) := by omega
      rw [List.take_of_length_le (by rw [HL.out]; exact Nat.le_refl _)] at HO
      go_wp2_with fail
      go_ret
      exact ⟨_, rfl, HO.out, HB.out⟩

set_option maxHeartbeats 2000000 in
theorem But_any (l b : List Int) (A B : Option Addr) (n c m d : Nat) (w : World) (hl : l.length = n) (hn : n ≤ 1000000) (hs : Sl w 1 A n (l.map (Value.int .i64))) (hm : b.length = m) (hmn : m ≤ 1000000) (hI : Inc b) (ht : Sl w 1 B m (b.map (Value.int .i64))) :
    Calls Tryz.prog 123 #[.slice A n c, .slice B m d] w fun e w' => ∃ v, e = .returned v ∧ w'.ownsRow w.heap.size 3 1 v (l.filter fun y => !decide (y ∈ b)).length ((l.filter fun y => !decide (y ∈ b)).map (Value.int .i64)) ∧ Below w.heap.size w w' := by
  have hb0 := bel_al (Below.refl w.heap.size w) (.cells #[.slice B m d] 22)
  have hbx := Boxed.new w 22 (.slice B m d)
  have hsz : (w.alloc (.cells #[.slice B m d] 22)).heap.size = w.heap.size + 1 := by simp
  have HK := Lib.hid (kept_But b l A n c w.heap.size _ hl hn (hs.keep hb0) (fun y W hW => by
    have cx := (boxed_keep hbx hW).cell
    have HH := Lib.hid (HasS_any b y B m d W hm hmn hI ((ht.keep hb0).keep hW))
    generalize decide (y ∈ b) = q at *
    clear hbx hs ht hI
    go_enter Tryz.func140, Tryz.ntmps140
    go_wp2_with fail
    refine HH.out.mono ?_
    rintro e w' ⟨rfl, hb⟩
    go_wp2_with fail
    go_ret
    exact ⟨rfl, hb⟩))
  have HB := Lib.hid hb0
  have HZ := Lib.hid hsz
  clear hs ht hb0 hbx hsz hI
  go_enter Tryz.func123, Tryz.ntmps123
  go_wp2_with fail
  refine HK.out.mono ?_
  rintro e w2 ⟨v, rfl, hown, hb⟩
  have HO := Lib.hid (own_mono hown (show w.heap.size ≤ _ from by rw [HZ.out]; omega))
  have HB2 := Lib.hid (HB.out.andThen hb)
  clear hown hb
  go_wp2_with fail
  go_ret
  exact ⟨_, rfl, HO.out, HB2.out⟩

set_option maxHeartbeats 2000000 in
theorem Within_any (l b : List Int) (A B : Option Addr) (n c m d : Nat) (w : World) (hl : l.length = n) (hn : n ≤ 1000000) (hs : Sl w 1 A n (l.map (Value.int .i64))) (hm : b.length = m) (hmn : m ≤ 1000000) (hI : Inc b) (ht : Sl w 1 B m (b.map (Value.int .i64))) :
    Calls Tryz.prog 100 #[.slice A n c, .slice B m d] w fun e w' => e = .returned (.bool (decide (∀ y ∈ l, y ∈ b))) ∧ Below w.heap.size w w' := by
  have HC := Lib.hid (But_any l b A B n c m d w hl hn hs hm hmn hI ht)
  have HE := Lib.hid (show (((l.filter fun y => !decide (y ∈ b)).length : Int) == 0) = decide (∀ y ∈ l, y ∈ b) from by
    by_cases h : ∀ y ∈ l, y ∈ b
    · rw [decide_eq_true h, List.filter_eq_nil_iff.2 (fun y hy => by simp [h y hy])]; rfl
    · rw [decide_eq_false h, beq_eq_false_iff_ne]
      intro h0
      refine h fun y hy => ?_
      have h1 : (l.filter fun y => !decide (y ∈ b)) = [] := List.eq_nil_of_length_eq_zero (by omega)
      have := List.filter_eq_nil_iff.1 h1 y hy
      simpa using this)
  generalize (l.filter fun y => !decide (y ∈ b)) = F at *
  clear hs ht hI
  go_enter Tryz.func100, Tryz.ntmps100
  go_wp2_with fail
  refine HC.out.mono ?_
  rintro e w2 ⟨v, rfl, hown, hb⟩
  obtain ⟨C, k, rfl, _⟩ := Sl.own hown
  clear hown
  go_wp2_with fail
  go_ret
  exact ⟨ret_bool HE.out, hb⟩

set_option maxHeartbeats 2000000 in
theorem Union_any (a b : List Int) (A B : Option Addr) (n c m d : Nat) (w : World) (ha : a.length = n) (hn : n ≤ 100000) (hc : n ≤ c ∧ c ≤ 9223372036854775807) (hs : Sl w 1 A n (a.map (Value.int .i64))) (hm : b.length = m) (hmn : m ≤ 100000) (hd : m ≤ d ∧ d ≤ 9223372036854775807) (ht : Sl w 1 B m (b.map (Value.int .i64))) :
    Calls Tryz.prog 103 #[.slice A n c, .slice B m d] w fun e w' => ∃ v, e = .returned v ∧ w'.ownsRow w.heap.size 3 1 v (setL (a ++ b)).length ((setL (a ++ b)).map (Value.int .i64)) ∧ Below w.heap.size w w' := by
  have hb0 := bel_al (Below.refl w.heap.size w) (.cells #[.slice A n c, .slice B m d] 22)
  have hlr : [(A, c, a), (B, d, b)].map rv = [.slice A n c, .slice B m d] := by simp only [List.map_cons, List.map_nil, rv, ha, hm]
  have hfl : flat [(A, c, a), (B, d, b)] = a ++ b := by simp [flat]
  have hb0 := bel_al (Below.refl w.heap.size w) (.cells #[.slice A n c, .slice B m d] 22)
  have HK := Lib.hid (Concat_any [(A, c, a), (B, d, b)] (some ⟨w.heap.size, 0, none⟩) 2 2 _ rfl (by omega) (by rw [hlr]; exact Sl.newAt w [_, _] 22 2 rfl) (fun t ht' => by
    rcases List.mem_cons.1 ht' with rfl | ht'
    · exact ⟨by show Sl _ 1 A a.length _; rw [ha]; exact hs.keep hb0, by show a.length ≤ c; omega, hc.2⟩
    · obtain rfl := List.mem_singleton.1 ht'
      exact ⟨by show Sl _ 1 B b.length _; rw [hm]; exact ht.keep hb0, by show b.length ≤ d; omega, hd.2⟩) (by rw [hfl, List.length_append]; omega))
  rw [hfl] at HK
  have HB := Lib.hid hb0
  have HLn := Lib.hid (show (a ++ b).length ≤ 1048576 from by rw [List.length_append]; omega)
  have HOf := Lib.hid (fun (C : Option Addr) (k : Nat) w' (hs2 : Sl w' 1 C (a ++ b).length ((a ++ b).map (Value.int .i64))) (h : 0 < (a ++ b).length → ∀ x : Addr, C = some x → x.block < w'.heap.size) => Of_any (a ++ b) C (a ++ b).length k w' rfl HLn.out hs2 h)
  generalize setL (a ++ b) = U at *
  generalize (a ++ b) = ab at *
  clear hs ht hlr hfl hb0
  go_enter Tryz.func103, Tryz.ntmps103
  go_wp2_with fail
  refine HK.out.mono ?_
  rintro e w2 ⟨v, rfl, hown, hb⟩
  have HB2 := Lib.hid (HB.out.andThen hb)
  obtain ⟨C, k, rfl, hs2⟩ := Sl.own hown
  have HO := Lib.hid (HOf.out C k w2 hs2 (fun _ x hx => by subst hx; exact (hown.lt _ rfl).2))
  clear hown hb hs2
  go_wp2_with fail
  refine HO.out.mono ?_
  rintro e w3 ⟨v3, rfl, hown3, hb3⟩
  have HO3 := Lib.hid (own_mono hown3 HB2.out.size)
  have HB3 := Lib.hid (HB2.out.andThen hb3)
  clear hown3 hb3
  go_wp2_with fail
  go_ret
  exact ⟨_, rfl, HO3.out, HB3.out⟩

end Go.Proofs.YtmonepclhbappaaGreatDoor
