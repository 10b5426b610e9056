/-
  Part 20 of the proof of ConfProgs: SetsOf, TsC, TsD, WrK, RdL, EncL, PatY, PatV, PatG.
-/
import Derived.Shelf.Sort.Plain
import Derived.Shelf.Slices.In.SortNone
import Derived.Shelf.Slices.CompactI
import Derived.Sort.OwnSortedInts
import Derived.Lib.RowBridge
import Derived.Test.YtapledphhfiimaaGreatDoorConfProgsM19
import Derived.BigQuiet
import Derived.Deep.QuietTactic
import Derived.Test.YtapledphhfiimaaGreatDoorConfProgsM17
import Derived.Test.YtapledphhfiimaaGreatDoorConfProgsM18
import Derived.Test.YtapledphhfiimaaGreatDoorConfProgsM10
import Derived.Test.YtapledphhfiimaaGreatDoorConfProgsM2
import Derived.Test.YtapledphhfiimaaGreatDoorConfProgsM12
import Derived.Test.YtapledphhfiimaaGreatDoorConfProgsM4
import Derived.Test.YtapledphhfiimaaGreatDoorConfProgsM11
import Derived.Test.YtapledphhfiimaaGreatDoorConfProgsM3
/-
  slices.Sorted, slices.Compact, sets.Of.
-/
namespace Go.Proofs.YtapledphhfiimaaGreatDoor
open Go.RowKit Go.Shelf
set_option maxRecDepth 100000
set_option linter.unusedVariables false

def sort_ren : Go.Shelf.Ren := ⟨fun | 125 => 83 | 128 => 120 | 129 => 121 | 189 => 136 | 215 => 86 | 216 => 186 | 257 => 162 | 294 => 180 | 295 => 181 | 296 => 182 | 297 => 183 | 298 => 184 | 299 => 185 | 300 => 187 | 301 => 188 | 328 => 196 | 329 => 143 | 330 => 144 | 331 => 197 | 332 => 198 | 343 => 201 | n => n, fun | 0 => 0 | 3 => 3 | 4 => 4 | 5 => 5 | 9 => 9 | 28 => 23 | 46 => 134 | 51 => 171 | 53 => 173 | 131 => 125 | 182 => 164 | 183 => 165 | 218 => 195 | 222 => 158 | 228 => 228 | 229 => 84 | n => n, fun | n => n⟩
theorem sort_lays : Go.Proofs.Lays.n189 Tryz.prog sort_ren := {
  mixed := by kernel_rfl
  f125 := Tryz.func83.trans (congrArg some (by kernel_rfl))
  f128 := Tryz.func120.trans (congrArg some (by kernel_rfl))
  f129 := Tryz.func121.trans (congrArg some (by kernel_rfl))
  f189 := Tryz.func136.trans (congrArg some (by kernel_rfl))
  f215 := Tryz.func86.trans (congrArg some (by kernel_rfl))
  f216 := Tryz.func186.trans (congrArg some (by kernel_rfl))
  f257 := Tryz.func162.trans (congrArg some (by kernel_rfl))
  f294 := Tryz.func180.trans (congrArg some (by kernel_rfl))
  f295 := Tryz.func181.trans (congrArg some (by kernel_rfl))
  f296 := Tryz.func182.trans (congrArg some (by kernel_rfl))
  f297 := Tryz.func183.trans (congrArg some (by kernel_rfl))
  f298 := Tryz.func184.trans (congrArg some (by kernel_rfl))
  f299 := Tryz.func185.trans (congrArg some (by kernel_rfl))
  f300 := Tryz.func187.trans (congrArg some (by kernel_rfl))
  f301 := Tryz.func188.trans (congrArg some (by kernel_rfl))
  f328 := Tryz.func196.trans (congrArg some (by kernel_rfl))
  f329 := Tryz.func143.trans (congrArg some (by kernel_rfl))
  f330 := Tryz.func144.trans (congrArg some (by kernel_rfl))
  f331 := Tryz.func197.trans (congrArg some (by kernel_rfl))
  f332 := Tryz.func198.trans (congrArg some (by kernel_rfl))
  f343 := Tryz.func201.trans (congrArg some (by kernel_rfl))
  t0 := Tryz.underlying0
  a0 := Tryz.isAgg0
  z0 := Tryz.sizeOf0
  v0 := Tryz.zeroValue0
  t3 := Tryz.underlying3
  a3 := Tryz.isAgg3
  z3 := Tryz.sizeOf3
  v3 := Tryz.zeroValue3
  t4 := Tryz.underlying4
  a4 := Tryz.isAgg4
  z4 := Tryz.sizeOf4
  v4 := Tryz.zeroValue4
  t5 := Tryz.underlying5
  a5 := Tryz.isAgg5
  z5 := Tryz.sizeOf5
  v5 := Tryz.zeroValue5
  t9 := Tryz.underlying9
  a9 := Tryz.isAgg9
  z9 := Tryz.sizeOf9
  v9 := Tryz.zeroValue9
  t28 := Tryz.underlying23
  a28 := Tryz.isAgg23
  z28 := Tryz.sizeOf23
  v28 := Tryz.zeroValue23
  t46 := Tryz.underlying134
  a46 := Tryz.isAgg134
  z46 := Tryz.sizeOf134
  v46 := Tryz.zeroValue134
  t51 := Tryz.underlying171
  a51 := Tryz.isAgg171
  z51 := Tryz.sizeOf171
  v51 := Tryz.zeroValue171
  t53 := Tryz.underlying173
  a53 := Tryz.isAgg173
  z53 := Tryz.sizeOf173
  v53 := Tryz.zeroValue173
  t131 := Tryz.underlying125
  a131 := Tryz.isAgg125
  z131 := Tryz.sizeOf125
  v131 := Tryz.zeroValue125
  t182 := Tryz.underlying164
  a182 := Tryz.isAgg164
  z182 := Tryz.sizeOf164
  v182 := Tryz.zeroValue164
  t183 := Tryz.underlying165
  a183 := Tryz.isAgg165
  z183 := Tryz.sizeOf165
  v183 := Tryz.zeroValue165
  t218 := Tryz.underlying195
  a218 := Tryz.isAgg195
  z218 := Tryz.sizeOf195
  v218 := Tryz.zeroValue195
  t222 := Tryz.underlying158
  a222 := Tryz.isAgg158
  z222 := Tryz.sizeOf158
  v222 := Tryz.zeroValue158
  t228 := Tryz.underlying228
  a228 := Tryz.isAgg228
  z228 := Tryz.sizeOf228
  v228 := Tryz.zeroValue228
  t229 := Tryz.underlying84
  a229 := Tryz.isAgg84
  z229 := Tryz.sizeOf84
  v229 := Tryz.zeroValue84 }

def comp_ren : Go.Shelf.Ren := ⟨fun | 20 => 99 | n => n, fun | 0 => 0 | 3 => 3 | 4 => 4 | 22 => 23 | n => n, fun | n => n⟩
theorem comp_lays : Go.Proofs.Lays2.n20 Tryz.prog comp_ren := {
  mixed := by kernel_rfl
  f20 := Tryz.func99.trans (congrArg some (by kernel_rfl))
  t0 := Tryz.underlying0
  a0 := Tryz.isAgg0
  z0 := Tryz.sizeOf0
  v0 := Tryz.zeroValue0
  t3 := Tryz.underlying3
  a3 := Tryz.isAgg3
  z3 := Tryz.sizeOf3
  v3 := Tryz.zeroValue3
  t4 := Tryz.underlying4
  a4 := Tryz.isAgg4
  z4 := Tryz.sizeOf4
  v4 := Tryz.zeroValue4
  t22 := Tryz.underlying23
  a22 := Tryz.isAgg23
  z22 := Tryz.sizeOf23
  v22 := Tryz.zeroValue23
  i3 := by kernel_rfl }

/-- The head of an own row. -/
theorem own_head {w : World} {B g n k c : Nat} {e : TypeId} {xs : List Value} (h : w.ownsRow B e 1 (.slice (some ⟨g, 0, none⟩) n c) n xs) (hk : k ≤ n) : w.ownsRow B e 1 (.slice (some ⟨g, 0, none⟩) k c) k (xs.take k) := by
  rcases h.2 with ⟨h0, _⟩ | ⟨g', cap', cur, hv, hg, hgb, hn, hcap, hsz, ht⟩
  · cases h0
  cases hv
  have hx := h.1
  refine ⟨by rw [List.length_take]; omega, .inr ⟨g, c, cur, rfl, hg, hgb, by omega, hcap, hsz, ?_⟩⟩
  rw [Nat.mul_one] at ht ⊢
  rw [← ht, List.take_take, Nat.min_eq_left hk]

set_option maxHeartbeats 2000000 in
theorem Sorted_any (l : List Int) (A : Option Addr) (n c : Nat) (Bs : Nat) (w : World) (hsB : w.cell? ⟨Bs, 0, none⟩ = some (.slice A n c)) (hBs : Bs < w.heap.size)
    (hl : l.length = n) (hn : n ≤ 1048576) (hA : Sl w 1 A n (l.map (Value.int .i64))) (hAQ : 0 < n → ∀ x : Addr, A = some x → x.block < w.heap.size) :
    Calls Tryz.prog 100 #[.func (.func 137) #[] #[.pointer (some ⟨Bs, 0, none⟩)]] w fun e w' => ∃ v, e = .returned v ∧ w'.ownsRow w.heap.size 3 1 v n ((l.mergeSort fun x y => decide (x ≤ y)).map (Value.int .i64)) ∧ Below w.heap.size w w' := by
  have HC := Lib.hid (Collect_any l A n c Bs w hsB hBs hl hn hA hAQ)
  clear hsB hBs hA hAQ
  go_enter Tryz.func100, Tryz.ntmps100
  go_wp2_with fail
  refine HC.out.mono ?_
  rintro e W ⟨v, rfl, hrow, hb⟩
  have hlm : (l.mergeSort fun x y => decide (x ≤ y)).length = l.length := List.length_mergeSort _
  rcases hrow.2 with ⟨rfl, hz⟩ | ⟨gb, cap, cur, rfl, hbase, hgb, r1, r2, r3, r4⟩
  · subst hz
    have hle : l = [] := List.eq_nil_of_length_eq_zero hl
    have HO := Lib.hid hrow
    have HB := Lib.hid hb
    have HS := Lib.hid (Go.Proofs.Any.slices_Sort_int_none sort_lays none 0 W)
    clear hrow hb HC
    go_wp2_with fail
    refine HS.out.mono ?_
    rintro e w' ⟨rfl, rfl⟩
    go_wp2_with fail
    go_ret
    refine ⟨_, rfl, ?_, HB.out⟩
    rw [hle, List.mergeSort_nil]
    exact World.ownsRow_nil _ _ _ _
  · have hH : Go.Sort.Holds (Value.int .i64) W gb 0 l.toArray := holds_of_blockI hgb (by rw [hl]; simpa using r4)
    have hgl : gb < W.heap.size := (Array.getElem?_eq_some_iff.1 hgb).1
    have hs := Go.Proofs.Any.slices_Sort_int sort_lays gb 0 cap l W hH hgl (by omega)
    rw [hl] at hs
    have HS := Lib.hid hs
    have HO := Lib.hid (fun (nn : Nat) (os : Array Obj) => ownsRow_sortedI (n := nn) (os := os) (ss := l) (ts := l.mergeSort fun x y => decide (x ≤ y)) hlm hbase hgb (by omega) r2 r3)
    have HB := Lib.hid hb
    have HH := Lib.hid hbase
    clear hs hH hrow hb HC hgb r1 r2 r3 r4 hgl hbase
    go_wp2_with fail
    refine HS.out.mono ?_
    rintro e w' ⟨rfl, nn, os, hw'⟩
    have HW := Lib.hid hw'
    clear hw'
    go_wp2_with fail
    go_ret
    have ho := HO.out nn os
    rw [hl] at ho
    rw [HW.out]
    exact ⟨_, rfl, ho, HB.out.grown (grownBy_sortedI _) HB.out.size (fun j hj => by cases hj; exact HH.out)⟩

set_option maxHeartbeats 2000000 in
theorem CompactI_any (l : List Int) (v : Value) (n B : Nat) (w : World) (hl : l.length = n) (hn : n ≤ 1048576) (hrow : w.ownsRow B 3 1 v n (l.map (Value.int .i64))) (hB : B ≤ w.heap.size) :
    Calls Tryz.prog 99 #[v] w fun e w' => ∃ v', e = .returned v' ∧ w'.ownsRow B 3 1 v' (Go.Lib.compact l).length ((Go.Lib.compact l).map (Value.int .i64)) ∧ Below B w w' := by
  rcases hrow.2 with ⟨rfl, hz⟩ | ⟨gb, cap, cur, rfl, hbase, hgb, r1, r2, r3, r4⟩
  · subst hz
    have hle : l = [] := List.eq_nil_of_length_eq_zero hl
    subst hle
    refine (Go.Proofs.Any.slices_Compact_int_empty comp_lays none 0 w).mono ?_
    rintro e w' ⟨rfl, rfl⟩
    exact ⟨_, rfl, World.ownsRow_nil _ _ _ _, Below.refl _ _⟩
  · have hH : Go.Sort.Holds (Value.int .i64) w gb 0 l.toArray := holds_of_blockI hgb (by rw [hl]; simpa using r4)
    have hs := Go.Proofs.Any.slices_Compact_int comp_lays gb 0 cap l w hH (by omega) (by omega)
    rw [hl] at hs
    refine hs.mono ?_
    rintro e w' ⟨rfl, q, rfl⟩
    have hle := Go.Lib.compact_length_le l
    generalize Go.Lib.compact l = ts at *
    have ho := ownsRow_sortedI (n := q) (os := #[]) (ss := l) (ts := ts ++ List.replicate (n - ts.length) 0) (by simp; omega) hbase hgb (by omega) r2 r3
    rw [Go.Sort.grow_empty, hl] at ho
    have hg := grownBy_sortedI (w := w) (g := gb) (n := q) (os := #[]) (ts ++ List.replicate (n - ts.length) 0).toArray
    rw [Go.Sort.grow_empty] at hg
    have h2 := own_head ho (k := ts.length) (by omega)
    rw [← List.map_take, List.take_left' rfl] at h2
    exact ⟨_, rfl, h2, (Below.refl B w).grown hg hB (fun j hj => by cases hj; exact hbase)⟩

end Go.Proofs.YtapledphhfiimaaGreatDoor
/-
  Tests of patterns: the walks of pat.Has, triangle, and of holds for the kinds 1, 6, 8.
-/
namespace Go.Proofs.YtapledphhfiimaaGreatDoor
open Go.RowKit Go.Proofs.YtapledphhfiimaaGreatDoor.Pg
attribute [local go_sem ↓] Go.wp_at_zero Go.wp_at_succ
set_option maxRecDepth 100000
set_option linter.unusedVariables false

set_option maxHeartbeats 1000000 in
theorem IndexE_any (E : List (Int × Int)) (B : Option Addr) (m d : Nat) (t1 t2 : Int) (w : World) (hm : m ≤ 1000000) (ht : Sl w 2 B m (Rk.cells E)) :
    Calls Tryz.prog 122 #[.slice B m d, .agg #[.int .i64 t1, .int .i64 t2]] w fun e w' => ∃ r : Int, e = .returned (.int .i64 r) ∧ decide (0 ≤ r) = (E.any fun e => decide (e = (t1, t2))) ∧ Below w.heap.size w w' := by
  have HB0 := Lib.hid (bel_al (Below.refl w.heap.size w) (.cells #[.int .i64 t1, .int .i64 t2] 53))
  have HK := Lib.hid (Blk.new w 53 #[.int .i64 t1, .int .i64 t2])
  have HT := Lib.hid ht
  have HL := Lib.hid ht.len2
  clear ht
  go_enter Tryz.func122, Tryz.ntmps122
  go_wp2_with fail
  go_loopw [8] (fun i wr => ∃ k : Nat, k ≤ m ∧ i = .int .i64 (k : Int) ∧ Hid (∀ e ∈ E.take k, decide (e = (t1, t2)) = false) ∧ Hid (Below w.heap.size w wr) ∧ Hid (Blk wr w.heap.size 53 #[.int .i64 t1, .int .i64 t2])) (fun i _ => m - (intOf i).toNat)
  case atStart => exact ⟨0, Nat.zero_le _, rfl, Lib.hid (fun e he => by simp at he), HB0, HK⟩
  case round =>
    obtain ⟨k, hk, rfl, HD, HB, HKr⟩ := hrel
    have b0 := HKr.out.cell 0
    have b1 := HKr.out.cell 1
    simp at b0 b1
    by_cases hlt : k < m
    · have hlt' : (k : Int) < (m : Int) := by omega
      have hk0 : (0 : Int) ≤ (k : Int) := by omega
      obtain ⟨⟨x, y⟩, he⟩ : ∃ e, E[k]? = some e := ⟨_, List.getElem?_eq_getElem (by rw [HL.out]; exact hlt)⟩
      obtain ⟨bb, off, rfl, c0, c1⟩ := (HT.out.keep HB.out).edge hlt he
      simp only at c0 c1
      have HX := Lib.hid he
      clear he
      have HNo := Lib.hid (show (x, y) ≠ (t1, t2) → ∀ e ∈ E.take (k + 1), decide (e = (t1, t2)) = false from fun h e he => by
        obtain ⟨h1, h2⟩ := List.getElem?_eq_some_iff.1 HX.out
        rw [List.take_succ_eq_append_getElem h1, h2] at he
        rcases List.mem_append.1 he with h3 | h3
        · exact HD.out e h3
        · rw [List.mem_singleton.1 h3]; exact decide_eq_false h)
      by_cases hx : x = t1
      · subst hx
        by_cases hy : y = t2
        · subst hy
          have HA := Lib.hid (show decide ((0 : Int) ≤ (k : Int)) = (E.any fun e => decide (e = (x, y))) from by
            rw [decide_eq_true hk0]
            exact (List.any_eq_true.2 ⟨(x, y), List.mem_of_getElem? HX.out, decide_eq_true rfl⟩).symm)
          clear HNo
          go_wp2_with fail
          go_quiet (fail)
          go_wp2_with fail
          go_ret
          exact ⟨(k : Int), rfl, HA.out, bel_drewN HB.out _⟩
        · have e2 : (t2 == y) = false := by simpa using fun h => hy h.symm
          have HN := Lib.hid (HNo.out (fun h => hy (Prod.ext_iff.1 h).2))
          clear hy HNo
          go_wp2_with fail
          go_quiet (fail)
          go_wp2_with fail
          go_roundw
          case rel => exact ⟨k + 1, by omega, by go_num, HN, Lib.hid (bel_drewN HB.out _), Lib.hid (HKr.out.keep (bel_drewN (Below.refl _ _) _))⟩
          case measure => simp [intOf]; omega
      · have e1 : (t1 == x) = false := by simpa using fun h => hx h.symm
        have HN := Lib.hid (HNo.out (fun h => hx (Prod.ext_iff.1 h).1))
        clear hx HNo
        go_wp2_with fail
        go_quiet (fail)
        go_wp2_with fail
        go_roundw
        case rel => exact ⟨k + 1, by omega, by go_num, HN, Lib.hid (bel_drewN HB.out _), Lib.hid (HKr.out.keep (bel_drewN (Below.refl _ _) _))⟩
        case measure => simp [intOf]; omega
    · obtain rfl : k = m := by omega
      have hlt' : ¬ (k : Int) < (k : Int) := by omega
      have HA := Lib.hid (show decide ((0 : Int) ≤ -1) = (E.any fun e => decide (e = (t1, t2))) from by
        have h := HD.out
        rw [List.take_of_length_le (by rw [HL.out]; exact Nat.le_refl _)] at h
        cases ha : E.any fun e => decide (e = (t1, t2)) with
        | false => rfl
        | true =>
          obtain ⟨x, hx, hq⟩ := List.any_eq_true.1 ha
          rw [h x hx] at hq
          cases hq)
      go_wp2_with fail
      go_ret
      exact ⟨-1, rfl, HA.out, HB.out⟩
theorem ContainsE_any (E : List (Int × Int)) (B : Option Addr) (m d : Nat) (t1 t2 : Int) (w : World) (hm : m ≤ 1000000) (ht : Sl w 2 B m (Rk.cells E)) :
    Calls Tryz.prog 85 #[.slice B m d, .agg #[.int .i64 t1, .int .i64 t2]] w fun e w' => e = .returned (.bool (E.any fun e => decide (e = (t1, t2)))) ∧ Below w.heap.size w w' := by
  have HB0 := Lib.hid (bel_al (Below.refl w.heap.size w) (.cells #[.int .i64 t1, .int .i64 t2] 53))
  have HI := Lib.hid (IndexE_any E B m d t1 t2 (w.alloc (.cells #[.int .i64 t1, .int .i64 t2] 53)) hm (ht.keep HB0.out))
  clear ht
  go_enter Tryz.func85, Tryz.ntmps85
  go_wp2_with (go_at_call 122; refine HI.out.mono ?_; clear HI; rintro e w2 ⟨r, rfl, hr, hb2⟩; have HR := Lib.hid hr; have HB2 := Lib.hid (HB0.out.andThen hb2); clear hr hb2)
  go_ret
  exact ⟨ret_bool HR.out, HB2.out⟩
set_option maxHeartbeats 1000000 in
theorem PatHas_any (E : List (Int × Int)) (A B : Option Addr) (n c m d : Nat) (a b : Int) (w : World) (hm : m ≤ 1000000) (ht : Sl w 2 B m (Rk.cells E)) :
    Calls Tryz.prog 60 #[pv A n c B m d, .int .i64 a, .int .i64 b] w fun e w' => e = .returned (.bool (Ts.hasE E a b)) ∧ Below w.heap.size w w' := by
  obtain ⟨w0, hw0⟩ : ∃ W, W = w.alloc (.cells #[.slice A n c, .slice B m d] 30) := ⟨_, rfl⟩
  have HB0 := Lib.hid (show Below w.heap.size w w0 from by rw [hw0]; exact bel_al (Below.refl _ _) _)
  have HK := Lib.hid (show Blk w0 w.heap.size 30 #[.slice A n c, .slice B m d] from by rw [hw0]; exact Blk.new _ _ _)
  obtain ⟨⟨t1, t2⟩, htt⟩ : ∃ t, t = turnE (a, b) := ⟨_, rfl⟩
  have HTu := Lib.hid (show ∀ W, Below w0.heap.size w0 W → Calls Tryz.prog 57 #[.agg #[.int .i64 a, .int .i64 b]] W fun e w' => e = .returned (.agg #[.int .i64 t1, .int .i64 t2]) ∧ Below w0.heap.size w0 w' from fun W hW => (turned_any a b W).mono fun e w' h => ⟨by rw [h.1, ← htt]; rfl, hW.andThen h.2⟩)
  obtain ⟨r, hr⟩ : ∃ r, r = Ts.hasE E a b := ⟨_, rfl⟩
  have HCo := Lib.hid (show ∀ W, Below w0.heap.size w0 W → Calls Tryz.prog 85 #[.slice B m d, .agg #[.int .i64 t1, .int .i64 t2]] W fun e w' => e = .returned (.bool r) ∧ Below w0.heap.size w0 w' from fun W hW => (ContainsE_any E B m d t1 t2 W hm (ht.keep (HB0.out.andThen hW))).mono fun e w' h => ⟨by rw [h.1, hr]; unfold Ts.hasE; rw [← htt], hW.andThen h.2⟩)
  have HAll := Lib.hid (show ∀ W, Below w0.heap.size w0 W → W.cell? ⟨w.heap.size, 1, none⟩ = some (.slice B m d) from fun W hW => (HK.out.keep hW).cell 1)
  rw [← hr]
  clear ht htt hr
  go_enter Tryz.func60, Tryz.ntmps60
  go_upto_region 1 with (fail)
  rw [← hw0]
  clear hw0
  refine wp_region_qq (fun W => Below w0.heap.size w0 W) (by kernel_rfl) (by kernel_rfl) (bel_drewN (Below.refl _ _) 1) ?_
  repeat (
    first
      | (apply qq_want
         · rfl
         · intro W hW
           have zz := HAll.out W hW
           go_simp
           first
             | done
             | exact rfl
             | with_reducible exact HTu.out W hW
             | with_reducible exact HCo.out W hW)
      | (refine qq_pass ?_ ?_
         · rfl)
    try simp only [Act.put, List.setIfInBounds_toArray, List.set_cons_zero, List.set_cons_succ])
  refine qq_nil ?_
  intro wq hbq
  have HBq := Lib.hid (HB0.out.andThen hbq)
  clear hbq
  go_wp2_with fail
  go_ret
  exact ⟨rfl, HBq.out⟩
set_option maxHeartbeats 1000000 in
theorem Tri1_any (E : List (Int × Int)) (A B : Option Addr) (n c m d g : Nat) (p q : Int) (w : World) (hn : n ≤ 1000000) (hm : m ≤ 1000000) (ht : Sl w 2 B m (Rk.cells E)) (hK : Blk w g 30 #[.slice A n c, .slice B m d]) :
    Calls Tryz.prog 139 #[.agg #[.int .i64 p, .int .i64 q], .pointer (some ⟨g, 0, none⟩)] w fun e w' => e = .returned (.bool (Ts.triE n E (p, q))) ∧ Below w.heap.size w w' := by
  have HB0 := Lib.hid (bel_al (Below.refl w.heap.size w) (.cells #[.int .i64 p, .int .i64 q] 53))
  have HKe := Lib.hid (Blk.new w 53 #[.int .i64 p, .int .i64 q])
  have HK0 := Lib.hid (hK.alloc (.cells #[.int .i64 p, .int .i64 q] 53))
  have HH := Lib.hid (fun (a v : Int) (W : World) (hW : Below w.heap.size w W) => PatHas_any E A B n c m d a v W hm (ht.keep hW))
  have k0 := HK0.out.cell 0
  have hgl := hK.lt
  simp at k0
  clear ht hK
  go_enter Tryz.func139, Tryz.ntmps139
  go_wp2_with fail
  go_loopw [8] (fun i wr => ∃ k : Nat, k ≤ n ∧ i = .int .i64 (k : Int) ∧ Hid (∀ v, v < k → (Ts.hasE E p (v : Nat) && Ts.hasE E q (v : Nat)) = false) ∧ Hid (Below w.heap.size w wr) ∧ Hid (Blk wr w.heap.size 53 #[.int .i64 p, .int .i64 q]) ∧ Hid (Blk wr g 30 #[.slice A n c, .slice B m d])) (fun i _ => n - (intOf i).toNat)
  case atStart => exact ⟨0, Nat.zero_le _, rfl, Lib.hid (fun v hv => by omega), HB0, HKe, HK0⟩
  case round =>
    clear k0
    obtain ⟨k, hk, rfl, HD, HB, HKr, HKg⟩ := hrel
    have b0 := HKr.out.cell 0
    have b1 := HKr.out.cell 1
    have g0 := HKg.out.cell 0
    have g1 := HKg.out.cell 1
    simp at b0 b1 g0 g1
    by_cases hlt : k < n
    · have hlt' : (k : Int) < (n : Int) := by omega
      have H1 := Lib.hid (HH.out p (k : Int) wr HB.out)
      have H2 := Lib.hid (HH.out q (k : Int))
      obtain ⟨x, hx⟩ : ∃ x, x = Ts.hasE E p (k : Int) := ⟨_, rfl⟩
      obtain ⟨y, hy⟩ : ∃ y, y = Ts.hasE E q (k : Int) := ⟨_, rfl⟩
      rw [← hx] at H1
      rw [← hy] at H2
      have HT := Lib.hid (show (x && y) = true → Ts.triE n E (p, q) = true from fun h => by
        unfold Ts.triE
        exact List.any_eq_true.2 ⟨k, List.mem_range.2 hlt, by show (Ts.hasE E p (k : Int) && Ts.hasE E q (k : Int)) = true; rw [← hx, ← hy]; exact h⟩)
      have HF := Lib.hid (show (x && y) = false → ∀ v, v < k + 1 → (Ts.hasE E p (v : Nat) && Ts.hasE E q (v : Nat)) = false from fun h v hv => by
        rcases Nat.lt_or_ge v k with h1 | h1
        · exact HD.out v h1
        · obtain rfl : v = k := by omega
          rw [← hx, ← hy]; exact h)
      clear hx hy
      cases x with
      | false =>
        have HN := Lib.hid (HF.out rfl)
        go_wp2_with (go_at_call 60; refine H1.out.mono ?_; clear H1; rintro e w2 ⟨rfl, hb2⟩; have HB2 := Lib.hid (HB.out.andThen hb2); have HK2 := Lib.hid (HKr.out.keep hb2); have HG2 := Lib.hid (HKg.out.keep hb2); clear hb2)
        go_roundw
        case rel => exact ⟨k + 1, by omega, by go_num, HN, HB2, HK2, HG2⟩
        case measure => simp [intOf]; omega
      | true =>
        cases y with
        | false =>
          have HN := Lib.hid (HF.out rfl)
          go_wp2_with (first
            | (go_at_call 60; refine H1.out.mono ?_; clear H1; rintro e w2 ⟨rfl, hb2⟩; have HB2 := Lib.hid (HB.out.andThen hb2); have HK2 := Lib.hid (HKr.out.keep hb2); have HG2 := Lib.hid (HKg.out.keep hb2); have q0 := HK2.out.cell 0; have q1 := HK2.out.cell 1; have r0 := HG2.out.cell 0; have r1 := HG2.out.cell 1; simp at q0 q1 r0 r1; clear hb2)
            | (go_at_call 60; refine (H2.out _ HB2.out).mono ?_; clear H2; rintro e w3 ⟨rfl, hb3⟩; have HB3 := Lib.hid (HB2.out.andThen hb3); have HK3 := Lib.hid (HK2.out.keep hb3); have HG3 := Lib.hid (HG2.out.keep hb3); clear hb3))
          go_roundw
          case rel => exact ⟨k + 1, by omega, by go_num, HN, HB3, HK3, HG3⟩
          case measure => simp [intOf]; omega
        | true =>
          have HN := Lib.hid (HT.out rfl)
          go_wp2_with (first
            | (go_at_call 60; refine H1.out.mono ?_; clear H1; rintro e w2 ⟨rfl, hb2⟩; have HB2 := Lib.hid (HB.out.andThen hb2); have HK2 := Lib.hid (HKr.out.keep hb2); have HG2 := Lib.hid (HKg.out.keep hb2); have q0 := HK2.out.cell 0; have q1 := HK2.out.cell 1; have r0 := HG2.out.cell 0; have r1 := HG2.out.cell 1; simp at q0 q1 r0 r1; clear hb2)
            | (go_at_call 60; refine (H2.out _ HB2.out).mono ?_; clear H2; rintro e w3 ⟨rfl, hb3⟩; have HB3 := Lib.hid (HB2.out.andThen hb3); clear hb3))
          go_ret
          exact ⟨ret_bool HN.out.symm, HB3.out⟩
    · obtain rfl : k = n := by omega
      have hlt' : ¬ (k : Int) < (k : Int) := by omega
      have HN := Lib.hid (show Ts.triE k E (p, q) = false from by
        unfold Ts.triE
        rw [List.any_eq_false]
        intro v hv
        have := HD.out v (List.mem_range.1 hv)
        simp only
        rw [this]
        decide)
      go_wp2_with fail
      go_ret
      exact ⟨ret_bool HN.out.symm, HB.out⟩
end Go.Proofs.YtapledphhfiimaaGreatDoor
/-
  Tests of patterns: the walks of triangle, and of holds for the kinds 1, 6, 8.
-/
namespace Go.Proofs.YtapledphhfiimaaGreatDoor
open Go.RowKit Go.Proofs.YtapledphhfiimaaGreatDoor.Pg
attribute [local go_sem ↓] Go.wp_at_zero Go.wp_at_succ
set_option maxRecDepth 100000
set_option linter.unusedVariables false

set_option maxHeartbeats 1000000 in
theorem IndexT_any (E : List (Int × Int)) (A B : Option Addr) (n c m d g : Nat) (w : World) (hn : n ≤ 1000000) (hm : m ≤ 1000000) (ht : Sl w 2 B m (Rk.cells E)) (hK : Blk w g 30 #[.slice A n c, .slice B m d]) :
    Calls Tryz.prog 163 #[.slice B m d, .func (.func 139) #[] #[.pointer (some ⟨g, 0, none⟩)]] w fun e w' => ∃ r : Int, e = .returned (.int .i64 r) ∧ decide (0 ≤ r) = (E.any (Ts.triE n E)) ∧ Below w.heap.size w w' := by
  have HC := Lib.hid (fun (p q : Int) (W : World) (hW : Below w.heap.size w W) => Tri1_any E A B n c m d g p q W hn hm (ht.keep hW) (hK.keep hW))
  have HT := Lib.hid ht
  have HL := Lib.hid ht.len2
  clear ht hK
  go_enter Tryz.func163, Tryz.ntmps163
  go_wp2_with fail
  go_loopw [8] (fun i wr => ∃ k : Nat, k ≤ m ∧ i = .int .i64 (k : Int) ∧ Hid (∀ e ∈ E.take k, Ts.triE n E e = false) ∧ Hid (Below w.heap.size w wr)) (fun i _ => m - (intOf i).toNat)
  case atStart => exact ⟨0, Nat.zero_le _, rfl, Lib.hid (fun e he => by simp at he), Lib.hid (Below.refl _ _)⟩
  case round =>
    obtain ⟨k, hk, rfl, HD, HB⟩ := hrel
    by_cases hlt : k < m
    · have hlt' : (k : Int) < (m : Int) := by omega
      have hk0 : (0 : Int) ≤ (k : Int) := by omega
      obtain ⟨⟨x, y⟩, he⟩ : ∃ e, E[k]? = some e := ⟨_, List.getElem?_eq_getElem (by rw [HL.out]; exact hlt)⟩
      obtain ⟨bb, off, rfl, c0, c1⟩ := (HT.out.keep HB.out).edge hlt he
      simp only at c0 c1
      have HX := Lib.hid he
      have HCx := Lib.hid (HC.out x y wr HB.out)
      clear he
      cases hq : Ts.triE n E (x, y) with
      | true =>
        rw [hq] at HCx
        have HA := Lib.hid (show decide ((0 : Int) ≤ (k : Int)) = (E.any (Ts.triE n E)) from by
          rw [decide_eq_true hk0]
          exact (List.any_eq_true.2 ⟨(x, y), List.mem_of_getElem? HX.out, hq⟩).symm)
        clear hq
        go_wp2_with (go_at_call 139; refine HCx.out.mono ?_; rintro e w' ⟨rfl, hb2⟩; have HB2 := Lib.hid (HB.out.andThen hb2); clear hb2)
        go_ret
        exact ⟨(k : Int), rfl, HA.out, HB2.out⟩
      | false =>
        rw [hq] at HCx
        have HD2 := Lib.hid (show ∀ e ∈ E.take (k + 1), Ts.triE n E e = false from fun e he => by
          obtain ⟨h1, h2⟩ := List.getElem?_eq_some_iff.1 HX.out
          rw [List.take_succ_eq_append_getElem h1, h2] at he
          rcases List.mem_append.1 he with h | h
          · exact HD.out e h
          · rw [List.mem_singleton.1 h]; exact hq)
        clear hq
        go_wp2_with (go_at_call 139; refine HCx.out.mono ?_; rintro e w' ⟨rfl, hb2⟩; have HB2 := Lib.hid (HB.out.andThen hb2); clear hb2)
        go_roundw
        case rel => exact ⟨k + 1, by omega, by go_num, HD2, HB2⟩
        case measure => simp [intOf]; omega
    · obtain rfl : k = m := by omega
      have hlt' : ¬ (k : Int) < (k : Int) := by omega
      have HA := Lib.hid (show decide ((0 : Int) ≤ -1) = (E.any (Ts.triE n E)) from by
        have h := HD.out
        rw [List.take_of_length_le (by rw [HL.out]; exact Nat.le_refl _)] at h
        cases ha : E.any (Ts.triE n E) with
        | false => rfl
        | true =>
          obtain ⟨x, hx, hq⟩ := List.any_eq_true.1 ha
          rw [h x hx] at hq
          cases hq)
      go_wp2_with fail
      go_ret
      exact ⟨-1, rfl, HA.out, HB.out⟩
theorem ContainsT_any (E : List (Int × Int)) (A B : Option Addr) (n c m d g : Nat) (w : World) (hn : n ≤ 1000000) (hm : m ≤ 1000000) (ht : Sl w 2 B m (Rk.cells E)) (hK : Blk w g 30 #[.slice A n c, .slice B m d]) :
    Calls Tryz.prog 138 #[.slice B m d, .func (.func 139) #[] #[.pointer (some ⟨g, 0, none⟩)]] w fun e w' => e = .returned (.bool (E.any (Ts.triE n E))) ∧ Below w.heap.size w w' := by
  have HC := Lib.hid (IndexT_any E A B n c m d g w hn hm ht hK)
  clear ht hK
  go_enter Tryz.func138, Tryz.ntmps138
  go_wp2_with (go_at_call 163; refine HC.out.mono ?_; clear HC; rintro e w2 ⟨r, rfl, hr, hb2⟩; have HR := Lib.hid hr; have HB2 := Lib.hid hb2; clear hr hb2)
  go_ret
  exact ⟨ret_bool HR.out, HB2.out⟩
theorem Triangle_any (E : List (Int × Int)) (A B : Option Addr) (n c m d : Nat) (w : World) (hn : n ≤ 1000000) (hm : m ≤ 1000000) (ht : Sl w 2 B m (Rk.cells E)) :
    Calls Tryz.prog 103 #[pv A n c B m d] w fun e w' => e = .returned (.bool (E.any (Ts.triE n E))) ∧ Below w.heap.size w w' := by
  have HB0 := Lib.hid (bel_al (Below.refl w.heap.size w) (.cells #[.slice A n c, .slice B m d] 30))
  have HC := Lib.hid (ContainsT_any E A B n c m d w.heap.size (w.alloc (.cells #[.slice A n c, .slice B m d] 30)) hn hm (ht.keep HB0.out) (Blk.new w 30 #[.slice A n c, .slice B m d]))
  clear ht
  go_enter Tryz.func103, Tryz.ntmps103
  go_wp2_with (go_at_call 138; refine HC.out.mono ?_; clear HC; rintro e w2 ⟨rfl, hb2⟩; have HB2 := Lib.hid (HB0.out.andThen hb2); clear hb2)
  go_ret
  exact ⟨rfl, HB2.out⟩
set_option maxHeartbeats 1000000 in
theorem holds_8 (N : Int) (L : List Int) (E : List (Int × Int)) (h8 : L.length ≤ 8) : HoldsOK (8, N) L E := by
  intro A B n c m d w hl hm hs ht
  have HB0 := Lib.hid (bel_al (bel_al (Below.refl w.heap.size w) (.cells #[.int .i64 8, .int .i64 N] 40)) (.cells #[.slice A n c, .slice B m d] 30))
  have HC := Lib.hid (Triangle_any E A B n c m d ((w.alloc (.cells #[.int .i64 8, .int .i64 N] 40)).alloc (.cells #[.slice A n c, .slice B m d] 30)) (by omega) hm (ht.keep HB0.out))
  have HR := Lib.hid (show Ts.holdsB (8, N) L E = !(E.any (Ts.triE n E)) from by rw [← hl]; rfl)
  clear hs ht
  go_enter Tryz.func72, Tryz.ntmps72
  go_wp2_with (go_at_call 103; refine HC.out.mono ?_; clear HC; rintro e w2 ⟨rfl, hb2⟩; have HB2 := Lib.hid (HB0.out.andThen hb2); clear hb2)
  go_ret
  exact ⟨ret_bool HR.out.symm, HB2.out⟩
set_option maxHeartbeats 1000000 in
theorem holds_1 (N : Int) (L : List Int) (E : List (Int × Int)) (h8 : L.length ≤ 8) : HoldsOK (1, N) L E := by
  intro A B n c m d w hl hm hs ht
  have HB0 := Lib.hid (bel_al (bel_al (Below.refl w.heap.size w) (.cells #[.int .i64 1, .int .i64 N] 40)) (.cells #[.slice A n c, .slice B m d] 30))
  have HMl := Lib.hid ht.len2
  obtain ⟨q, hq⟩ : ∃ q, q = n * (n - 1) / 2 := ⟨_, rfl⟩
  have HR := Lib.hid (show Ts.holdsB (1, N) L E = ((m : Int) == (q : Int)) from by
    show decide (E.length = L.length * (L.length - 1) / 2) = _
    rw [HMl.out, hl, ← hq]
    by_cases h : m = q
    · rw [decide_eq_true h, h]; simp
    · rw [decide_eq_false h]
      symm
      simp only [beq_eq_false_iff_ne, ne_eq]
      omega)
  have hn8 : n ≤ 8 := by omega
  clear hs ht hl
  rcases (show n = 0 ∨ n = 1 ∨ n = 2 ∨ n = 3 ∨ n = 4 ∨ n = 5 ∨ n = 6 ∨ n = 7 ∨ n = 8 by omega) with rfl | rfl | rfl | rfl | rfl | rfl | rfl | rfl | rfl
  all_goals (
    simp only [Nat.zero_mul, Nat.zero_div, Nat.reduceSub, Nat.reduceMul, Nat.reduceDiv] at hq
    subst hq
    go_enter Tryz.func72, Tryz.ntmps72
    go_wp2_with fail
    go_ret
    exact ⟨ret_bool HR.out.symm, HB0.out⟩)
set_option maxHeartbeats 1000000 in
theorem holds_6 (N : Int) (L : List Int) (E : List (Int × Int)) (h8 : L.length ≤ 8) : HoldsOK (6, N) L E := by
  intro A B n c m d w hl hm hs ht
  have hn8 : n ≤ 8 := by omega
  obtain ⟨w0, hw0⟩ : ∃ W, W = (w.alloc (.cells #[.int .i64 6, .int .i64 N] 40)).alloc (.cells #[.slice A n c, .slice B m d] 30) := ⟨_, rfl⟩
  have HB0 := Lib.hid (show Below w.heap.size w w0 from by rw [hw0]; exact bel_al (bel_al (Below.refl _ _) _) _)
  have hb1 := bel_al (Below.refl w0.heap.size w0) (.cells #[.slice A n c] 23)
  have hbx := Boxed.new w0 23 (.slice A n c)
  have HV := Lib.hid (Values_any A n c w0)
  have HSo := Lib.hid (Sorted_any L A n c w0.heap.size (w0.alloc (.cells #[.slice A n c] 23)) hbx.cell hbx.lt hl (by omega) ((hs.keep HB0.out).keep hb1) (fun h x hx => by
    obtain ⟨b, off, hE, hc⟩ := (hs.keep HB0.out).2 h
    rw [hE] at hx
    cases hx
    obtain ⟨u, hu⟩ : ∃ u, (L.map (Value.int .i64))[0]? = some u := ⟨_, List.getElem?_eq_getElem (by rw [List.length_map]; omega)⟩
    have := World.block_lt_of_cell? w0 _ (hc 0 u hu)
    simp only at this ⊢
    simp
    omega))
  have HB1 := Lib.hid (HB0.out.andThen hb1)
  have HB01 := Lib.hid hb1
  obtain ⟨S, hS⟩ : ∃ S, S = L.mergeSort fun x y => decide (x ≤ y) := ⟨_, rfl⟩
  have HSl := Lib.hid (show S.length = n from by rw [hS, List.length_mergeSort]; exact hl)
  obtain ⟨z, hz⟩ : ∃ z, z = (Go.Lib.compact S).length := ⟨_, rfl⟩
  have HR := Lib.hid (show Ts.holdsB (6, N) L E = ((z : Int) == (n : Int)) from by
    show decide ((Go.Lib.compact (L.mergeSort fun x y => decide (x ≤ y))).length = L.length) = _
    rw [← hS, ← hz, hl]
    by_cases h : z = n
    · rw [decide_eq_true h, h]; simp
    · rw [decide_eq_false h]
      symm
      simp only [beq_eq_false_iff_ne, ne_eq]
      omega)
  have HZ := Lib.hid hz
  rw [← hS] at HSo
  clear hs ht hl hbx hb1 hS hz
  go_enter Tryz.func72, Tryz.ntmps72
  go_upto_region 1 with (fail)
  rw [← hw0]
  have HK1 := Lib.hid (show Blk w0 w.heap.size 40 #[.int .i64 6, .int .i64 N] from by rw [hw0]; exact (Blk.new w _ _).alloc _)
  have HK2 := Lib.hid (show Blk w0 (w.heap.size + 1) 30 #[.slice A n c, .slice B m d] from by
    rw [hw0]
    have := Blk.new (w.alloc (.cells #[.int .i64 6, .int .i64 N] 40)) 30 #[.slice A n c, .slice B m d]
    rw [World.size_alloc] at this
    exact this)
  clear hw0
  have k0 := HK1.out.cell 0
  have p0 := HK2.out.cell 0
  simp at k0 p0
  go_wp2_with (first
    | (go_at_call 101; refine HV.out.mono ?_; clear HV; rintro e v1 ⟨rfl, rfl⟩)
    | (go_at_call 100; refine HSo.out.mono ?_; clear HSo; rintro e v2 ⟨vs, rfl, hrow, hb2⟩; have HB2 := Lib.hid (HB1.out.andThen hb2); have HCo := Lib.hid (CompactI_any S vs n w.heap.size v2 HSl.out (by omega) (own_mono hrow (show w.heap.size ≤ _ from by have := HB1.out.size; exact this)) HB2.out.size); clear hrow hb2)
    | (go_at_call 99; refine HCo.out.mono ?_; clear HCo; rintro e v3 ⟨vc, rfl, hrow3, hb3⟩; have HB3 := Lib.hid (HB2.out.trans hb3); rw [← HZ.out] at hrow3; obtain ⟨CA, cc, rfl, _⟩ := Sl.own hrow3; clear hrow3 hb3))
  go_ret
  exact ⟨ret_bool HR.out.symm, HB3.out⟩
/-- Every kind. -/
theorem holds_all {o : Int × Int} {L : List Int} {E : List (Int × Int)} (ho : opOK o) (h8 : L.length ≤ 8) : HoldsOK o L E := by
  obtain ⟨k, N⟩ := o
  have h1 := ho.1
  simp only at h1
  rcases (show k = 1 ∨ k = 2 ∨ k = 3 ∨ k = 4 ∨ k = 5 ∨ k = 6 ∨ k = 7 ∨ k = 8 by omega) with rfl | rfl | rfl | rfl | rfl | rfl | rfl | rfl
  · exact holds_1 N L E h8
  · exact holds_2 N L E h8
  · exact holds_3 N L E h8
  · exact holds_4 N L E h8
  · exact holds_5 N L E h8
  · exact holds_6 N L E h8
  · exact holds_7 N L E h8
  · exact holds_8 N L E h8
end Go.Proofs.YtapledphhfiimaaGreatDoor
/-
  Contracts of wire.Writer: Num, List where all fits: rows of other cells are left be.
-/
namespace Go.Proofs.YtapledphhfiimaaGreatDoor
open Go.RowKit
set_option maxRecDepth 100000
set_option linter.unusedVariables false

/-- A list in bytes. -/
def encW (l : List Int) : List Int := wordL l.length ++ l.flatMap fun x => wordL x.toNat
theorem encF_len (l : List Int) : (l.flatMap fun x => wordL x.toNat).length = 4 * l.length := by
  induction l with
  | nil => rfl
  | cons x l ih => rw [List.flatMap_cons, List.length_append, ih, wordL_len, List.length_cons]; omega
theorem encW_len (l : List Int) : (encW l).length = 4 + 4 * l.length := by unfold encW; rw [List.length_append, encF_len, wordL_len]
theorem fits_nat {z : Int} (h : fits z) : ∃ k : Nat, z = (k : Int) ∧ k < 4294967296 := ⟨z.toNat, by have := h.1; omega, by have := h.1; have := h.2; omega⟩

end Go.Proofs.YtapledphhfiimaaGreatDoor
/-
  Contracts of wire.Reader: List, of any length, and where it fails.
-/
namespace Go.Proofs.YtapledphhfiimaaGreatDoor
open Go.RowKit
set_option maxRecDepth 100000
set_option linter.unusedVariables false

/-- An error of a reader. -/
def rdBad (E : Err) : Prop := ∃ a s, E = .flt 9 a s ∨ E = .flt 6 a s
theorem rdBad.ne {E : Err} (h : rdBad E) : E ≠ .nil := by
  obtain ⟨a, s, rfl | rfl⟩ := h <;> exact fun e => by cases e
/-- Is there a list at a place, of at most so many numbers? -/
def okAt (l : List Int) (a most : Nat) : Prop := a + 4 ≤ l.length ∧ wordN (l.drop a) ≤ most ∧ a + 4 + 4 * wordN (l.drop a) ≤ l.length
end Go.Proofs.YtapledphhfiimaaGreatDoor
/-
  Lists in bytes, plainly: there and back.
-/
namespace Go.Proofs.YtapledphhfiimaaGreatDoor
open Go.RowKit
set_option linter.unusedVariables false

/-- A list at a place of bytes, and the place behind it. -/
def lst (l : List Int) (a : Nat) : List Int := wordsL (l.drop (a + 4)) (wordN (l.drop a))
def nxtA (l : List Int) (a : Nat) : Nat := a + 4 + 4 * wordN (l.drop a)
theorem words_take {l : List Int} (hb : Bys l) : ∀ j, 4 * j ≤ l.length → ((wordsL l j).flatMap fun x => wordL x.toNat) = l.take (4 * j)
  | 0, _ => by simp [wordsL]
  | j + 1, h => by
    rw [wordsL, List.flatMap_append, words_take hb j (by omega)]
    have e : ([((wordN (l.drop (4 * j)) : Nat) : Int)].flatMap fun x => wordL x.toNat) = (l.drop (4 * j)).take 4 := by
      rw [← wordL_of (hb.drop _) (by rw [List.length_drop]; omega)]
      simp
    rw [e, show 4 * (j + 1) = 4 * j + 4 by omega, List.take_add]
theorem enc_lst {l : List Int} (hb : Bys l) {a m : Nat} (h : okAt l a m) : l.take (nxtA l a) = l.take a ++ encW (lst l a) := by
  obtain ⟨h1, h2, h3⟩ := h
  unfold nxtA encW lst
  have hl : (wordsL (l.drop (a + 4)) (wordN (l.drop a))).length = wordN (l.drop a) := wordsL_len _ _
  rw [hl, words_take (hb.drop _) _ (by rw [List.length_drop]; omega), wordL_of (hb.drop a) (by rw [List.length_drop]; omega), Nat.add_assoc, List.take_add, List.take_add, List.drop_drop]
theorem nxtA_le {l : List Int} {a m : Nat} (h : okAt l a m) : nxtA l a ≤ l.length := h.2.2
theorem lst_len {l : List Int} {a m : Nat} (h : okAt l a m) : (lst l a).length ≤ m := by unfold lst; rw [wordsL_len]; exact h.2.1
theorem words_flat {xs : List Int} (hf : ∀ x ∈ xs, fits x) (rest : List Int) : ∀ j, j ≤ xs.length → wordsL ((xs.flatMap fun x => wordL x.toNat) ++ rest) j = xs.take j
  | 0, _ => by simp [wordsL]
  | j + 1, h => by
    have hj : j < xs.length := by omega
    rw [wordsL, words_flat hf rest j (by omega), List.take_succ_eq_append_getElem hj]
    congr 1
    have hx := hf _ (List.getElem_mem hj)
    have e : ((xs.flatMap fun x => wordL x.toNat) ++ rest).drop (4 * j) = wordL xs[j].toNat ++ (((xs.drop (j + 1)).flatMap fun x => wordL x.toNat) ++ rest) := by
      have e1 : xs.flatMap (fun x => wordL x.toNat) = ((xs.take j).flatMap fun x => wordL x.toNat) ++ (wordL xs[j].toNat ++ (xs.drop (j + 1)).flatMap fun x => wordL x.toNat) := by
        conv => lhs; rw [← List.take_append_drop j xs, List.drop_eq_getElem_cons hj]
        rw [List.flatMap_append, List.flatMap_cons]
      have e2 : ((xs.take j).flatMap fun x => wordL x.toNat).length = 4 * j := by rw [encF_len, List.length_take]; omega
      rw [e1, List.append_assoc, ← e2, List.drop_left, List.append_assoc]
    rw [e, wordN_of (by have := hx.1; have := hx.2; omega)]
    have := hx.1
    congr 1
    omega
theorem lst_enc {xs : List Int} (hf : ∀ x ∈ xs, fits x) (hn : xs.length < 4294967296) (pre rest : List Int) {l : List Int} (hl : l = pre ++ (encW xs ++ rest)) : wordN (l.drop pre.length) = xs.length ∧ lst l pre.length = xs ∧ nxtA l pre.length = (pre ++ encW xs).length := by
  have e1 : l.drop pre.length = wordL xs.length ++ ((xs.flatMap fun x => wordL x.toNat) ++ rest) := by rw [hl, List.drop_left, encW, List.append_assoc]
  have e2 : wordN (l.drop pre.length) = xs.length := by rw [e1, wordN_of hn]
  have e3 : l.drop (pre.length + 4) = (xs.flatMap fun x => wordL x.toNat) ++ rest := by
    rw [← List.drop_drop, e1]
    exact List.drop_left (l₁ := wordL xs.length)
  refine ⟨e2, ?_, ?_⟩
  · unfold lst
    rw [e2, e3, words_flat hf rest _ (Nat.le_refl _), List.take_of_length_le (Nat.le_refl _)]
  · unfold nxtA
    rw [e2, List.length_append, encW_len]
    omega
theorem ok_enc {xs : List Int} (hf : ∀ x ∈ xs, fits x) {m : Nat} (hm : xs.length ≤ m) (h32 : m < 4294967296) (pre rest : List Int) {l : List Int} (hl : l = pre ++ (encW xs ++ rest)) : okAt l pre.length m := by
  obtain ⟨h1, _, _⟩ := lst_enc hf (by omega) pre rest hl
  have h2 : l.length = pre.length + (4 + 4 * xs.length + rest.length) := by rw [hl, List.length_append, List.length_append, encW_len]
  unfold okAt
  omega
end Go.Proofs.YtapledphhfiimaaGreatDoor
/-
  A pattern's bytes.
-/
namespace Go.Proofs.YtapledphhfiimaaGreatDoor
open Go.RowKit
set_option maxRecDepth 100000
set_option linter.unusedVariables false

def endsL (E : List (Int × Int)) : List Int := E.flatMap fun e => [e.1, e.2]
theorem endsL_len (E : List (Int × Int)) : (endsL E).length = 2 * E.length := by
  unfold endsL
  induction E with
  | nil => rfl
  | cons e E ih => rw [List.flatMap_cons, List.length_append, ih, List.length_cons]; simp; omega
theorem endsL_snoc (E : List (Int × Int)) (e : Int × Int) : endsL (E ++ [e]) = endsL E ++ [e.1, e.2] := by unfold endsL; rw [List.flatMap_append]; rfl
/-- A pattern in bytes. -/
def bytesP (L : List Int) (E : List (Int × Int)) : List Int := encW L ++ encW (endsL E)

end Go.Proofs.YtapledphhfiimaaGreatDoor
/-
  A pattern's bytes plainly: there and back.
-/
namespace Go.Proofs.YtapledphhfiimaaGreatDoor
open Go.RowKit
set_option linter.unusedVariables false

/-- Numbers by twos. -/
def pairsL : List Int → List (Int × Int)
  | a :: b :: r => (a, b) :: pairsL r
  | _ => []
theorem ends_pairs : ∀ (l : List Int), l.length % 2 = 0 → endsL (pairsL l) = l
  | [], _ => rfl
  | [_], h => by simp at h
  | a :: b :: r, h => by
    have e : endsL (pairsL (a :: b :: r)) = a :: b :: endsL (pairsL r) := rfl
    rw [e, ends_pairs r (by simp only [List.length_cons] at h; omega)]
theorem pairs_ends : ∀ (E : List (Int × Int)), pairsL (endsL E) = E
  | [] => rfl
  | e :: E => by
    have h : endsL (e :: E) = e.1 :: e.2 :: endsL E := rfl
    rw [h, pairsL, pairs_ends E]
theorem pairs_len : ∀ (l : List Int), (pairsL l).length = l.length / 2
  | [] => rfl
  | [_] => by simp [pairsL]
  | a :: b :: r => by
    rw [pairsL, List.length_cons, pairs_len r, List.length_cons, List.length_cons]
    omega
/-- What has been read is the bytes. -/
theorem bytesP_read {l : List Int} (hb : Bys l) {m : Nat} (h1 : okAt l 0 m) (h2 : okAt l (nxtA l 0) m) (he : nxtA l (nxtA l 0) = l.length) (hev : (lst l (nxtA l 0)).length % 2 = 0) : bytesP (lst l 0) (pairsL (lst l (nxtA l 0))) = l := by
  have e1 := enc_lst hb h1
  have e2 := enc_lst hb h2
  rw [he, List.take_of_length_le (Nat.le_refl _), e1, List.take_zero, List.nil_append] at e2
  unfold bytesP
  rw [ends_pairs _ hev]
  exact e2.symm
/-- The bytes of a pattern are read as it. -/
theorem bytesP_back {L : List Int} {E : List (Int × Int)} {l : List Int} (hl : l = bytesP L E) (hL : ∀ x ∈ L, fits x) (hE : ∀ e ∈ E, fits e.1 ∧ fits e.2) (hn : L.length ≤ 100000) (hm : E.length ≤ 100000) :
    okAt l 0 l.length ∧ lst l 0 = L ∧ okAt l (nxtA l 0) l.length ∧ lst l (nxtA l 0) = endsL E ∧ nxtA l (nxtA l 0) = l.length := by
  have hef : ∀ z ∈ endsL E, fits z := fun z hz => by
    obtain ⟨e, he, h⟩ := List.mem_flatMap.1 hz
    rcases List.mem_cons.1 h with rfl | h
    · exact (hE e he).1
    · rw [List.mem_singleton.1 h]
      exact (hE e he).2
  have hel : (endsL E).length = 2 * E.length := endsL_len E
  have hlen : l.length = (4 + 4 * L.length) + (4 + 4 * (2 * E.length)) := by rw [hl, bytesP, List.length_append, encW_len, encW_len, hel]
  have r1 : l = [] ++ (encW L ++ encW (endsL E)) := by rw [hl, List.nil_append]; rfl
  have r2 : l = encW L ++ (encW (endsL E) ++ []) := by rw [hl, List.append_nil]; rfl
  obtain ⟨a1, a2, a3⟩ := lst_enc hL (by omega) [] _ r1
  have o1 := ok_enc hL (m := l.length) (by omega) (by omega) [] _ r1
  rw [List.nil_append] at a3
  have b0 : nxtA l 0 = (encW L).length := a3
  obtain ⟨b1, b2, b3⟩ := lst_enc hef (by omega) (encW L) _ r2
  have o2 := ok_enc hef (m := l.length) (by omega) (by omega) (encW L) _ r2
  rw [← b0] at b2 b3 o2
  exact ⟨o1, a2, o2, b2, by rw [b3, List.length_append, encW_len, encW_len, hel, hlen]⟩
end Go.Proofs.YtapledphhfiimaaGreatDoor
/-
  The document's labels, out, less of patterns.
-/
namespace Go.Proofs.YtapledphhfiimaaGreatDoor
open Go.RowKit
set_option maxRecDepth 100000
set_option linter.unusedVariables false

/-- The document's out: a vertex that there isn't. -/
def outP (x y n : Int) : Prop := x < 0 ∨ y < 0 ∨ n ≤ x ∨ n ≤ y
instance (x y n : Int) : Decidable (outP x y n) := by unfold outP; exact inferInstance
/-- The document's less. -/
def lessP (x y x' y' : Int) : Prop := x < x' ∨ (x = x' ∧ y < y')
instance (x y x' y' : Int) : Decidable (lessP x y x' y') := by unfold lessP; exact inferInstance
end Go.Proofs.YtapledphhfiimaaGreatDoor
