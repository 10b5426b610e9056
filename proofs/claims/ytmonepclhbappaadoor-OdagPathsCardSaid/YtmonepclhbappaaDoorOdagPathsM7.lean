/-
  Part 7 of the proof of OdagPaths: Made, RankM, OdK, OdL, Chain, Chain2, NumS, NumP.
-/
import Derived.BigQuiet
import Derived.Test.YtmonepclhbappaaDoorOdagPathsM6
import Derived.DeepKeys4
import Derived.Test.YtmonepclhbappaaDoorOdagPathsM1
import Derived.Test.YtmonepclhbappaaDoorOdagPathsM2
import Derived.Test.YtmonepclhbappaaDoorOdagPathsM3
import Derived.Shelf.SlIterI.Sorted
import Derived.Deep.LoopGhost
import Derived.Lib.Mul64
import Derived.Shelf.Bits.Mul64
/-
  The laws' Made: the odag of lists that can be one.
-/
namespace Go.Proofs.YtmonepclhbappaaDoor
open Go.RowKit Go.Maps
set_option maxRecDepth 100000
set_option linter.unusedVariables false

set_option maxHeartbeats 4000000 in
theorem Made_any (a : Int) (its : List (Option Addr × Nat × List Int)) (Q : Option Addr) (m cq : Nat) (w : World) (hm : its.length = m) (hq : Sl w 1 Q m (its.map rv)) (hr : AllRows w its) :
    Calls Tryd.prog 26 #[.int .i64 a, .slice Q m cq] w fun e w' => (e = .returned (.tuple #[.pointer none, .bool false]) ∧ Below w.heap.size w w') ∨ ∃ (n p : Nat), a = n ∧ 1 ≤ n ∧ n ≤ 5 ∧ m ≤ 12 ∧ Good n its ∧ e = .returned (.tuple #[.pointer (some ⟨p, 0, none⟩), .bool true]) ∧ OdM w' p (odOf n (its.map (·.2.2))) ∧ Below w.heap.size w w' := by
  have HQ := Lib.hid hq
  have HR := Lib.hid hr
  have HM := Lib.hid hm
  clear hq hr hm
  by_cases h1 : a < 1
  · go_enter Tryd.func26, Tryd.ntmps26
    go_wp2_with fail
    go_ret2
    exact Or.inl ⟨rfl, Below.refl _ _⟩
  · by_cases h5 : 5 < a
    · go_enter Tryd.func26, Tryd.ntmps26
      go_wp2_with fail
      go_ret2
      exact Or.inl ⟨rfl, Below.refl _ _⟩
    · by_cases h12 : 12 < m
      · have h12' : (12 : Int) < (m : Int) := by omega
        go_enter Tryd.func26, Tryd.ntmps26
        go_wp2_with fail
        go_ret2
        exact Or.inl ⟨rfl, Below.refl _ _⟩
      · have h12' : ¬ (12 : Int) < (m : Int) := by omega
        obtain ⟨n, rfl⟩ : ∃ n : Nat, a = (n : Int) := ⟨a.toNat, by omega⟩
        go_enter Tryd.func26, Tryd.ntmps26
        go_wp2_with fail
        go_loop [6] (fun iv => ∃ k : Nat, k ≤ m ∧ iv = .int .i64 k ∧ Hid (Good n (its.take k))) (fun iv => m - (intOf iv).toNat)
        case atStart => exact ⟨0, Nat.zero_le _, rfl, Lib.hid fun t ht => by cases ht⟩
        case round =>
          obtain ⟨k, hk, rfl, HG⟩ := hrel
          by_cases hlt : k < m
          · have hlt' : (k : Int) < (m : Int) := by omega
            obtain ⟨t, ht⟩ : ∃ t, its[k]? = some t := ⟨_, List.getElem?_eq_getElem (by rw [HM.out]; exact hlt)⟩
            obtain ⟨A, c, x⟩ := t
            have HT := Lib.hid ht
            have HRow := Lib.hid (HR.out _ (List.mem_of_getElem? ht))
            obtain ⟨qb, qo, rfl, _⟩ := HQ.out.at_ (show 0 < m by omega)
            have c1 := HQ.out.again hlt (show (its.map rv)[k]? = some (.slice A x.length c) by rw [List.getElem?_map, ht]; rfl)
            clear ht
            by_cases hx : x.length = n
            · have HX := Lib.hid hx
              have hs1 := HRow.out.1
              simp only at hs1
              rw [hx] at c1 hs1
              have HS1 := Lib.hid hs1
              clear hx hs1
              go_wp2_with fail
              go_loop [7] (fun jv => ∃ j : Nat, j ≤ n ∧ jv = .int .i64 j ∧ Hid (∀ y ∈ x.take j, numOK y)) (fun jv => n - (intOf jv).toNat)
              case atStart => exact ⟨0, Nat.zero_le _, rfl, Lib.hid fun y hy => by cases hy⟩
              case round =>
                obtain ⟨j, hj, rfl, HN⟩ := hrel
                by_cases hjn : j < n
                · have hjn' : (j : Int) < (n : Int) := by omega
                  obtain ⟨y, hy⟩ : ∃ y, x[j]? = some y := ⟨_, List.getElem?_eq_getElem (by rw [HX.out]; exact hjn)⟩
                  obtain ⟨b1, off1, rfl, _⟩ := HS1.out.at_ (show 0 < n by omega)
                  have c2 := HS1.out.again hjn (show (x.map (Value.int .i64))[j]? = some (.int .i64 y) by rw [List.getElem?_map, hy]; rfl)
                  have HY := Lib.hid hy
                  clear hy
                  by_cases hy0 : y < 0
                  · go_wp2_with fail
                    go_ret2
                    exact Or.inl ⟨rfl, Below.refl _ _⟩
                  · by_cases hy1 : 2147483647 < y
                    · go_wp2_with fail
                      go_ret2
                      exact Or.inl ⟨rfl, Below.refl _ _⟩
                    · have HNy := Lib.hid (show numOK y from ⟨by omega, by omega⟩)
                      go_wp2_with fail
                      go_round
                      case rel =>
                        refine ⟨j + 1, by omega, by go_num, Lib.hid fun z hz => ?_⟩
                        obtain ⟨e1, e2⟩ := List.getElem?_eq_some_iff.1 HY.out
                        rw [List.take_succ_eq_append_getElem e1, e2] at hz
                        rcases List.mem_append.1 hz with hz | hz
                        · exact HN.out z hz
                        · rw [List.mem_singleton.1 hz]
                          exact HNy.out
                      case measure => simp [intOf]; omega
                · obtain rfl : j = n := by omega
                  have hlt2 : ¬ (j : Int) < (j : Int) := by omega
                  go_wp2_with fail
                  go_round
                  case rel =>
                    refine ⟨k + 1, by omega, by go_num, Lib.hid fun z hz => ?_⟩
                    obtain ⟨e1, e2⟩ := List.getElem?_eq_some_iff.1 HT.out
                    rw [List.take_succ_eq_append_getElem e1, e2] at hz
                    rcases List.mem_append.1 hz with hz | hz
                    · exact HG.out z hz
                    · rw [List.mem_singleton.1 hz]
                      refine ⟨HX.out, fun y hy => HN.out y ?_⟩
                      rw [List.take_of_length_le (by rw [HX.out]; exact Nat.le_refl _)]
                      exact hy
                  case measure => simp [intOf]; omega
            · have hx' : ((x.length : Int) != (n : Int)) = true := by simp; omega
              clear hx
              go_wp2_with fail
              go_ret2
              exact Or.inl ⟨rfl, Below.refl _ _⟩
          · obtain rfl : k = m := by omega
            have hlt2 : ¬ (k : Int) < (k : Int) := by omega
            have HGd := Lib.hid (show Good n its from by have := HG.out; rw [List.take_of_length_le (by rw [HM.out]; exact Nat.le_refl _)] at this; exact this)
            have HOf := Lib.hid (OfOd_any n its Q k cq w (by omega) (by omega) HM.out (by omega) HQ.out HR.out HGd.out)
            go_wp2_with (go_at_call 21; refine HOf.out.mono ?_; rintro e w1 ⟨p, rfl, ho, hb⟩; have HO1 := Lib.hid ho; have HB1 := Lib.hid hb; clear ho hb)
            go_quiet (fail)
            go_wp2_with fail
            go_ret2
            have hd := bel_drewN (Below.refl w1.heap.size w1) 1
            exact Or.inr ⟨n, p, rfl, by omega, by omega, by omega, HGd.out, rfl, HO1.out.keep (bel_drewN (Below.refl _ _) _), HB1.out.andThen (bel_drewN (Below.refl _ _) _)⟩
end Go.Proofs.YtmonepclhbappaaDoor
/-
  The counts of ranks in memory: a map whose keys are structs of two ints; words for it.
-/
namespace Go.Proofs.YtmonepclhbappaaDoor
open Go.RowKit Go.Maps Go.WideMaps
set_option maxRecDepth 100000
set_option linter.unusedVariables false

theorem spot_wide : (match Tryd.prog.underlying 125 with | some (.array _ _) | some (.struct _) => true | _ => false) = true := by kernel_rfl
theorem spot_row : (125 : TypeId) < Tryd.prog.types.size := of_decide_eq_true (by kernel_rfl)
theorem spot_law : KeyLaw Tryd.prog 125 := deep_law_laid fr_laidOut (m := 2) (by omega) spot_row (by kernel_rfl) spot_wide
theorem spot_keyed : Keyed Tryd.prog 125 := Keyed.of_law spot_law
theorem spot_keyType : Tryd.prog.keyType 125 = true := by kernel_rfl
def i64ok (x : Int) : Prop := -9223372036854775808 ≤ x ∧ x ≤ 9223372036854775807
def kS (i a : Int) : Lit := .string (keyBytes [.int .i64 i, .int .i64 a])
theorem spot_size : ∃ m, Tryd.prog.types.size = m + 1 := by
  have h := spot_row
  generalize Tryd.prog.types.size = m at h
  cases m with
  | zero => exact absurd h (Nat.not_lt_zero _)
  | succ m => exact ⟨m, rfl⟩
theorem keyOf_spot {i a : Int} (hi : i64ok i) (ha : i64ok a) : keyOf Tryd.prog 125 (.agg #[.int .i64 i, .int .i64 a]) = some (kS i a) := by
  have wi := lit_i64 hi.1 hi.2
  have wa := lit_i64 ha.1 ha.2
  have hkt := spot_keyType
  obtain ⟨m, hm⟩ := spot_size
  have hu := Tryd.underlying125
  have hc : Tryd.prog.cellsOf 125 = 2 := by kernel_rfl
  have hi2 : Tryd.prog.cellsOf 3 = 1 := by kernel_rfl
  unfold keyOf
  simp only [hu]
  rw [if_pos (by simp [hkt, Value.formed, hu, hc]), hm]
  unfold Program.keyLits
  simp only [hu, Value.cells]
  rw [if_pos ⟨by rw [hc]; rfl, by simp⟩, List.mapM_cons, List.mapM_cons, List.mapM_nil]
  simp [hi2, Program.keyLits, wi, wa, kS]
theorem kS_inj {i a j b : Int} (hi : i64ok i) (ha : i64ok a) (hj : i64ok j) (hb : i64ok b) (h : kS i a = kS j b) : i = j ∧ a = b := by
  have := spot_law.inj (keyOf_spot hi ha) (h ▸ keyOf_spot hj hb)
  simpa using this

/-- Block b is a map of counts: what it answers at each number of a row. -/
def OnMap (w : World) (b n : Nat) (f : Int → Int → Int) : Prop := ∃ D, w.ownsMap Tryd.prog 125 rawR b n D ∧ ∀ i a, i64ok i → i64ok a → D.atKey (kS i a) (.held (.int .i64 0)) = .held (.int .i64 (f i a))
def updF (f : Int → Int → Int) (i a v : Int) : Int → Int → Int := fun j b => if j = i ∧ b = a then v else f j b
section
variable {w w' : World} {b n : Nat} {f : Int → Int → Int}
theorem OnMap.made (w : World) : OnMap (w.alloc (.map #[] 0)) w.heap.size 0 fun _ _ => 0 := ⟨_, World.ownsMap_made w Tryd.prog _ rawR, fun i a _ _ => rfl⟩
theorem OnMap.lt (h : OnMap w b n f) : b < w.heap.size := by
  obtain ⟨D, h1, _⟩ := h
  exact World.ownsMap.lt h1
theorem OnMap.keep (h : OnMap w b n f) (hb : Below w.heap.size w w') : OnMap w' b n f := by
  obtain ⟨D, h1, h2⟩ := h
  have hlt := World.ownsMap.lt h1
  obtain ⟨es', clock, h3, F, hs, hD⟩ := h1
  exact ⟨D, ⟨es', clock, (hb.block b hlt).trans h3, F, hs, hD⟩, h2⟩
theorem OnMap.isMap (h : OnMap w b n f) : NC w b := by
  obtain ⟨D, ⟨es', clock, h3, _⟩, _⟩ := h
  exact NC.of_map h3
end
section
variable (w : World) {ops : Array Oper} {rest : List Oper} {o : Oper} {a : Act} {Q : Exit → Act → World → Prop}
theorem wpList_lookS (hg : o.guard = none) (m x : Operand) (hop : o.op = Op.lookup 119 m x false) (b n : Nat) (f : Int → Int → Int) (hm : a.eval m = .map (some b)) (hown : OnMap w b n f) (i y : Int) (hx : a.eval x = .agg #[.int .i64 i, .int .i64 y]) (hi : i64ok i) (hy : i64ok y)
    (hK : wpList Tryd.prog ops Q rest (a.put o.dst (.int .i64 (f i y))) w) :
    wpList Tryd.prog ops Q (o :: rest) a w := by
  refine wpList_plain hg fun K' hK' => ?_
  obtain ⟨D, h1, h2⟩ := hown
  obtain ⟨v, ps, hrun, hv⟩ := World.ownsMap.lookup h1 spot_keyed Tryd.underlying119 (show (zeroValue 2).run Tryd.prog w = .ok (.int .i64 0) w from by kernel_rfl) (zd := .held (.int .i64 0)) (zp := []) rfl (keyOf_spot hi hy)
  rw [h2 i y hi hy] at hv
  obtain rfl : v = .int .i64 (f i y) := by
    have := (Prod.mk.inj (Option.some.inj hv)).1
    exact DataW.held.inj this
  unfold Oper.wp
  simp [execOp, hop, hm, hx, hrun, Result.andThen]
  exact hK' _ _ hK
theorem wpList_putS (hg : o.guard = none) (m x v : Operand) (hop : o.op = Op.mapUpdate 119 m x v) (b n : Nat) (f : Int → Int → Int) (hm : a.eval m = .map (some b)) (hown : OnMap w b n f) (hn : n < maxLen) (i y z : Int) (hx : a.eval x = .agg #[.int .i64 i, .int .i64 y]) (hv : a.eval v = .int .i64 z) (hi : i64ok i) (hy : i64ok y)
    (hK : ∀ w', OnMap w' b (n + 1) (updF f i y z) → w.grownBy w' (some b) → wpList Tryd.prog ops Q rest (a.put o.dst undef) w') :
    wpList Tryd.prog ops Q (o :: rest) a w := by
  obtain ⟨D, h1, h2⟩ := hown
  refine wpList_mapUpdate_own w hg m x v _ hop 125 2 spot_keyed Tryd.underlying119 rawR b n D hm h1 hn _ _ _ hx hv (keyOf_spot hi hy) (.held (.int .i64 z)) [] rfl fun w' hw' hgr => hK w' ⟨_, hw', fun j c hj hc => ?_⟩ hgr
  unfold updF
  by_cases h : j = i ∧ c = y
  · obtain ⟨rfl, rfl⟩ := h
    rw [if_pos ⟨rfl, rfl⟩, atKey_put_same (World.ownsMap.isMap h1) (spot_keyed.key (keyOf_spot hi hy))]
  · rw [if_neg h, atKey_put_other (fun e => h (kS_inj hj hc hi hy e)), h2 j c hj hc]
end
end Go.Proofs.YtmonepclhbappaaDoor
/-
  Odags: the contracts of Row and Links.
-/
namespace Go.Proofs.YtmonepclhbappaaDoor
open Go.RowKit Go.Maps Go.Sort Go.Shelf
set_option maxRecDepth 100000
set_option linter.unusedVariables false

def keysR_ren : Go.Shelf.Ren := ⟨fun | 7 => 93 | 10 => 106 | n => n, fun | 0 => 0 | 3 => 22 | 4 => 4 | 23 => 101 | 26 => 3 | 27 => 156 | 28 => 157 | 33 => 99 | n => n, fun | n => n⟩
theorem keysR_lays : Go.Proofs.SlLaysZI.n7 Tryd.prog keysR_ren := {
  mixed := by kernel_rfl
  f7 := ⟨Tryd.f93.name, by kernel_rfl, Tryd.func93.trans (congrArg some (by kernel_rfl))⟩
  f10 := ⟨Tryd.f106.name, by kernel_rfl, Tryd.func106.trans (congrArg some (by kernel_rfl))⟩
  t0 := Tryd.underlying0
  a0 := Tryd.isAgg0
  z0 := Tryd.sizeOf0
  v0 := Tryd.zeroValue0
  t4 := Tryd.underlying4
  a4 := Tryd.isAgg4
  z4 := Tryd.sizeOf4
  v4 := Tryd.zeroValue4
  t23 := Tryd.underlying101
  a23 := Tryd.isAgg101
  z23 := Tryd.sizeOf101
  v23 := Tryd.zeroValue101
  t26 := Tryd.underlying3
  a26 := Tryd.isAgg3
  z26 := Tryd.sizeOf3
  v26 := Tryd.zeroValue3
  t27 := Tryd.underlying156
  a27 := Tryd.isAgg156
  z27 := Tryd.sizeOf156
  v27 := Tryd.zeroValue156
  t28 := Tryd.underlying157
  a28 := Tryd.isAgg157
  z28 := Tryd.sizeOf157
  v28 := Tryd.zeroValue157
  t33 := Tryd.underlying99
  a33 := Tryd.isAgg99
  z33 := Tryd.sizeOf99
  v33 := Tryd.zeroValue99 }

def sortedR_ren : Go.Shelf.Ren := ⟨fun | 6 => 92 | 8 => 104 | 9 => 105 | 11 => 124 | n => n, fun | 0 => 0 | 24 => 22 | 26 => 3 | 28 => 157 | 33 => 99 | n => n, fun | n => n⟩
theorem sortedR_lays : Go.Proofs.SlLaysZI.n6 Tryd.prog sortedR_ren := {
  mixed := by kernel_rfl
  f6 := ⟨Tryd.f92.name, by kernel_rfl, Tryd.func92.trans (congrArg some (by kernel_rfl))⟩
  f8 := ⟨Tryd.f104.name, by kernel_rfl, Tryd.func104.trans (congrArg some (by kernel_rfl))⟩
  f11 := ⟨Tryd.f124.name, by kernel_rfl, Tryd.func124.trans (congrArg some (by kernel_rfl))⟩
  t0 := Tryd.underlying0
  a0 := Tryd.isAgg0
  z0 := Tryd.sizeOf0
  v0 := Tryd.zeroValue0
  t24 := Tryd.underlying22
  a24 := Tryd.isAgg22
  z24 := Tryd.sizeOf22
  v24 := Tryd.zeroValue22
  t26 := Tryd.underlying3
  a26 := Tryd.isAgg3
  z26 := Tryd.sizeOf3
  v26 := Tryd.zeroValue3
  t28 := Tryd.underlying157
  a28 := Tryd.isAgg157
  z28 := Tryd.sizeOf157
  v28 := Tryd.zeroValue157
  i26 := by kernel_rfl }

theorem sorts_in (m : Nat) : AnyZI.SortsIn Tryd.prog sortedR_ren Fence.wide m :=
  ⟨fun blk off cap ss W hH hblk hsz => callsIn_wide.2 (Any.slices_Sort_int sort_lays blk off cap ss W hH hblk hsz),
   fun p cap W => callsIn_wide.2 ((Any.slices_Sort_int_none sort_lays p cap W).mono fun e w' h => ⟨h.1, h.2⟩)⟩
theorem keys_asD (es : List (Int × Value)) : intKeys (asD es) = es.map (·.1) := by
  show (es.map enK).map (fun p => Go.intOf p.1) = _
  rw [List.map_map]
  rfl
theorem sort_of_perm {ss l : List Int} (hp : ss.Perm l) (hl : l.Pairwise (· < ·)) : (ss.mergeSort fun x y => decide (x ≤ y)) = l := by
  have h1 : (ss.mergeSort fun x y => decide (x ≤ y)).Pairwise (fun x y => decide (x ≤ y) = true) := List.pairwise_mergeSort (fun a b c => by simp; omega) (fun a b => by simp; omega) ss
  have h2 : (ss.mergeSort fun x y => decide (x ≤ y)).Perm l := (List.mergeSort_perm ss _).trans hp
  have h3 : l.Nodup := hl.imp fun {a b} h e => by subst e; omega
  have h4 := h2.nodup_iff.2 h3
  refine inc_ext ?_ hl (fun y => h2.mem_iff)
  refine (h1.and h4).imp fun {a b} h => ?_
  have h5 : a ≤ b := of_decide_eq_true h.1
  have h6 : a ≠ b := h.2
  omega
set_option maxHeartbeats 1000000 in
theorem SortedKeys_any (b : Nat) (r : Rw) (w : World) (hr : MRow w b r) (hrl : r.length ≤ 1000000) :
    Calls Tryd.prog 92 #[.func (.func 106) #[] #[.pointer (some ⟨w.heap.size, 0, none⟩)]] (w.alloc (.cells #[.map (some b)] 101)) fun e w' => ∃ v, e = .returned v ∧ w'.ownsRow w.heap.size 3 1 v r.length ((r.map (·.1)).map (Value.int .i64)) ∧ Below w.heap.size w w' := by
  have hal := bel_al (Below.refl w.heap.size w) (.cells #[.map (some b)] 101)
  have hr1 := hr.keep hal
  have hinc := hr.incr
  obtain ⟨m, rfl, hM, _⟩ := hr1
  have hinc' : ((m.map pl).map (·.1)).Pairwise (· < ·) := List.pairwise_map.2 hinc
  have hkeys : intKeys (asD (m.map mv)) = (m.map pl).map (·.1) := by
    rw [keys_asD, List.map_map, List.map_map]
    rfl
  have hsz : Maps.size (asD (m.map mv)) = m.length := by unfold asD; rw [Maps.size_eq, List.length_map, List.length_map]
  rw [List.length_map] at hrl
  have hseq : SeqGives Fence.wide 2 Tryd.prog 106 #[.pointer (some ⟨w.heap.size, 0, none⟩)] encZ (fun ss => ss.Perm (intKeys (asD (m.map mv)))) (Maps.size (asD (m.map mv))) (w.alloc (.cells #[.map (some b)] 101)) :=
    AnyZI.keys_gives (ρ := keysR_ren) { keysR_lays with } Fence.wide _ trivial rfl (by omega) w.heap.size b _ _ _ (by simp) (by simp) hM
  have cS := AnyZI.sorted_in sortedR_lays Fence.wide 5 trivial trivial trivial trivial rfl (by omega) (sorts_in _) (enters_of Tryd.func105 (by kernel_rfl) rfl) 106 #[.pointer (some ⟨w.heap.size, 0, none⟩)] trivial (enters_of Tryd.func106 (by kernel_rfl) rfl) _ _ (by rw [hsz]; unfold maxLen; omega) (by rw [hsz]; omega) _ hseq
  refine ((callsIn_wide (n := 5)).1 cS).mono fun e w' ⟨v, ss, h1, h2, h3, _, h5⟩ => ⟨v, h1, ?_, hal.andThen h5⟩
  rw [hkeys] at h2
  rw [sort_of_perm h2 hinc', h2.length_eq, List.length_map] at h3
  exact own_mono h3 (by simp)
theorem Keys_any (b : Nat) (W : World) : Calls Tryd.prog 93 #[.map (some b)] W fun e w' => e = .returned (.func (.func 106) #[] #[.pointer (some ⟨W.heap.size, 0, none⟩)]) ∧ w' = W.alloc (.cells #[.map (some b)] 101) :=
  (callsIn_wide (n := 5)).1 (AnyZI.keys_in keysR_lays Fence.wide 5 trivial rfl (some b) W)

def keysAt (od : List Rw) (i : Int) : List Int := if 0 ≤ i ∧ i < (od.length : Int) then (od.getD i.toNat []).map (·.1) else []
def linksAt (od : List Rw) (i a : Int) : List Int := if 0 ≤ i ∧ i < (od.length : Int) then lkR (od.getD i.toNat []) a else []
theorem OdM.row {w : World} {p : Nat} {od : List Rw} (h : OdM w p od) {i : Nat} (hi : i < od.length) : ∃ (rb ro n c b : Nat), n = od.length ∧ w.cell? ⟨p, 0, none⟩ = some (.slice (some ⟨rb, ro, none⟩) n c) ∧ n ≤ c ∧ w.cell? ⟨rb, ro + i, none⟩ = some (.map (some b)) ∧ MRow w b (od.getD i []) := by
  obtain ⟨R, n, c, bs, h1, h2, h3, h4, h5, h6, h7⟩ := h
  obtain ⟨rb, ro, rfl, _⟩ := h5.at_ (show 0 < n by omega)
  obtain ⟨b, hb⟩ : ∃ b, bs[i]? = some b := ⟨_, List.getElem?_eq_getElem (by omega)⟩
  have c0 := h1.cell 0
  simp at c0
  refine ⟨rb, ro, n, c, b, h2.symm, c0, h4, h5.again (by omega) (show (bs.map fun b => Value.map (some b))[i]? = some (.map (some b)) by rw [List.getElem?_map, hb]; rfl), ?_⟩
  rw [List.getD_eq_getElem?_getD, List.getElem?_eq_getElem hi]
  exact h7 i b _ hb (List.getElem?_eq_getElem hi)

set_option maxHeartbeats 4000000 in
theorem OdRow_any (p : Nat) (od : List Rw) (i : Int) (w : World) (h : OdM w p od) (hB : OdB 1000000 od) (h8 : od.length ≤ 100) : Calls Tryd.prog 62 #[.pointer (some ⟨p, 0, none⟩), .int .i64 i] w fun e w' => ∃ v, e = .returned v ∧ w'.ownsRow w.heap.size 3 1 v (keysAt od i).length ((keysAt od i).map (Value.int .i64)) ∧ Below w.heap.size w w' := by
  have HLn := Lib.hid (OdLen_any p od w h)
  by_cases hi0 : i < 0
  · have HE := Lib.hid (show keysAt od i = [] from if_neg (by omega))
    rw [HE.out]
    clear h hB
    go_enter Tryd.func62, Tryd.ntmps62
    go_wp2_with fail
    go_ret
    exact ⟨_, rfl, World.ownsRow_nil _ _ _ _, Below.refl _ _⟩
  · by_cases hin : i < (od.length : Int)
    · obtain ⟨k, rfl⟩ : ∃ k : Nat, i = (k : Int) := ⟨i.toNat, by omega⟩
      have hk : k < od.length := by omega
      obtain ⟨rb, ro, n, c, b, hn, c0, hnc, c1, hrow⟩ := h.row hk
      have hE : keysAt od (k : Int) = (od.getD k []).map (·.1) := if_pos (by omega)
      have hrB : (od.getD k []).length ≤ 1000000 := (hB _ (by rw [List.getD_eq_getElem?_getD, List.getElem?_eq_getElem hk]; exact List.getElem_mem hk)).1
      rw [hE]
      have HSo := Lib.hid (SortedKeys_any b (od.getD k []) w hrow hrB)
      obtain ⟨ks, hks⟩ : ∃ ks, ks = (od.getD k []).map (·.1) := ⟨_, rfl⟩
      have hkl : ks.length = (od.getD k []).length := by rw [hks, List.length_map]
      rw [← hks, ← hkl] at HSo
      rw [← hks]
      rw [← hn] at HLn
      have hkn : (k : Int) < (n : Int) := by omega
      have hkn' : ¬ (n : Int) ≤ (k : Int) := by omega
      clear h hB hrow hE hrB hks hkl hn hin hi0 hk
      go_enter Tryd.func62, Tryd.ntmps62
      go_wp2_with (first
        | (go_at_call 52; refine HLn.out.mono ?_; rintro e w' ⟨rfl, rfl⟩)
        | (go_at_call 93; refine (Keys_any b _).mono ?_; rintro e w1 ⟨rfl, rfl⟩)
        | (go_at_call 92; refine HSo.out.mono ?_; rintro e w2 ⟨v, rfl, hown, hb⟩; have HO := Lib.hid hown; have HB := Lib.hid hb; clear hown hb))
      go_ret
      exact ⟨_, rfl, HO.out, HB.out⟩
    · have HE := Lib.hid (show keysAt od i = [] from if_neg (by omega))
      rw [HE.out]
      obtain ⟨n, hn⟩ : ∃ n, n = od.length := ⟨_, rfl⟩
      rw [← hn] at HLn hin
      have hin' : (n : Int) ≤ i := by omega
      clear h hB hn hin
      go_enter Tryd.func62, Tryd.ntmps62
      go_wp2_with (go_at_call 52; refine HLn.out.mono ?_; rintro e w' ⟨rfl, rfl⟩)
      go_ret
      exact ⟨_, rfl, World.ownsRow_nil _ _ _ _, Below.refl _ _⟩
end Go.Proofs.YtmonepclhbappaaDoor
/-
  Odags: the contract of Links; no odag at all.
-/
namespace Go.Proofs.YtmonepclhbappaaDoor
open Go.RowKit Go.Maps
set_option maxRecDepth 100000
set_option linter.unusedVariables false

set_option maxHeartbeats 4000000 in
theorem OdLinks_any (p : Nat) (od : List Rw) (i a : Int) (w : World) (h : OdM w p od) (hB : OdB 1000000 od) (h8 : od.length ≤ 100) (ha : -9223372036854775808 ≤ a ∧ a ≤ 9223372036854775807) : Calls Tryd.prog 68 #[.pointer (some ⟨p, 0, none⟩), .int .i64 i, .int .i64 a] w fun e w' => ∃ v, e = .returned v ∧ w'.ownsRow w.heap.size 3 1 v (linksAt od i a).length ((linksAt od i a).map (Value.int .i64)) ∧ Below w.heap.size w w' := by
  have HLn := Lib.hid (OdLen_any p od w h)
  by_cases hi0 : i < 0
  · have HE := Lib.hid (show linksAt od i a = [] from if_neg (by omega))
    rw [HE.out]
    clear h hB
    go_enter Tryd.func68, Tryd.ntmps68
    go_wp2_with fail
    go_ret
    exact ⟨_, rfl, World.ownsRow_nil _ _ _ _, Below.refl _ _⟩
  · by_cases hin : i < (od.length : Int)
    · obtain ⟨k, rfl⟩ : ∃ k : Nat, i = (k : Int) := ⟨i.toNat, by omega⟩
      have hk : k < od.length := by omega
      obtain ⟨rb, ro, n, c, b, hn, c0, hnc, c1, hrow⟩ := h.row hk
      have hE : linksAt od (k : Int) a = lkR (od.getD k []) a := if_pos (by omega)
      have hrB := hB _ (show od.getD k [] ∈ od by rw [List.getD_eq_getElem?_getD, List.getElem?_eq_getElem hk]; exact List.getElem_mem hk)
      rw [hE]
      have HLB := Lib.hid (lkR_B hrB a)
      have HRow := Lib.hid hrow
      have HA := Lib.hid ha
      rw [← hn] at HLn
      have hkn : (k : Int) < (n : Int) := by omega
      have hkn' : ¬ (n : Int) ≤ (k : Int) := by omega
      clear h hB hrow hE hrB hn hin hi0 hk ha
      go_enter Tryd.func68, Tryd.ntmps68
      go_wp2_with (first
        | (go_at_call 52; refine HLn.out.mono ?_; rintro e w' ⟨rfl, rfl⟩)
        | (go_at_call 76; refine HCl.out.mono ?_; rintro e w2 ⟨v, rfl, hown, hb⟩; have HO := Lib.hid hown; have HB := Lib.hid hb; clear hown hb)
        | (refine wpList_lookR _ rfl _ _ rfl b _ (by go_simp) HRow.out a (by go_simp) HA.out.1 HA.out.2 ?_; intro A c' l hrl hl; have HCl := Lib.hid (CloneI_own l A l.length c' _ rfl (by rw [hl]; exact Nat.le_trans HLB.out (by decide)) hrl.1); have HL := Lib.hid hl; clear hrl hl))
      go_ret
      rw [← HL.out]
      exact ⟨_, rfl, HO.out, HB.out⟩
    · have HE := Lib.hid (show linksAt od i a = [] from if_neg (by omega))
      rw [HE.out]
      obtain ⟨n, hn⟩ : ∃ n, n = od.length := ⟨_, rfl⟩
      rw [← hn] at HLn hin
      have hin' : (n : Int) ≤ i := by omega
      clear h hB hn hin
      go_enter Tryd.func68, Tryd.ntmps68
      go_wp2_with (go_at_call 52; refine HLn.out.mono ?_; rintro e w' ⟨rfl, rfl⟩)
      go_ret
      exact ⟨_, rfl, World.ownsRow_nil _ _ _ _, Below.refl _ _⟩
end Go.Proofs.YtmonepclhbappaaDoor
/-
  Chains of errors: errors.As at *api.Fault, errors.Is at a fault, errors.Unwrap, and the fault package's functions over whole chains.
-/
namespace Go.Proofs.YtmonepclhbappaaDoor
open Go.RowKit Go.Extern.Stop Go.Stop Go.Extern

def Err.depth : Err → Nat
  | .step _ e => e.depth + 1
  | _ => 0
def Err.flt? : Err → Option (Int × Int × ByteArray)
  | .flt c a s => some (c, a, s)
  | .step _ e => e.flt?
  | _ => none
theorem Err.code_of : ∀ (E : Err), E ≠ .nil → (∀ w v, E.At w v → E.code = match E.flt? with | some (c, _, _) => c | none => -1)
  | .nil, h, _, _, _ => absurd rfl h
  | .flt _ _ _, _, _, _, _ => rfl
  | .txt _, _, _, _, _ => rfl
theorem Err.at_of : ∀ (E : Err), E.at_ = match E.flt? with | some (_, a, _) => a | none => 0
  | .nil => rfl
  | .flt _ _ _ => rfl
  | .txt _ => rfl
  | .step _ e => Err.at_of e


/-- What errors.as leaves: the target is set to the chain's first fault; or the chain has none. -/
def AsPost (E : Err) (w0 w1 : World) (t : Addr) (ev : Ending) (w' : World) : Prop :=
  (∃ c a s g, E.flt? = some (c, a, s) ∧ ev = .returned (.bool true) ∧ Blk w0 g 131 #[.int .i64 c, .int .i64 a, .string s] ∧ (w1.alloc (.cells #[.pointer (some ⟨g, 0, none⟩)] 128)).setCell t (.pointer (some ⟨g, 0, none⟩)) = w') ∨
  (E.flt? = none ∧ ev = .returned (.bool false) ∧ w1 = w')

theorem Err.At.iface_ {w : World} {E : Err} {v : Value} (h : E.At w v) (hne : E ≠ .nil) : ∃ T x, v = .iface T x := by
  cases E with
  | nil => exact absurd rfl hne
  | flt c a s => obtain ⟨g, rfl, _⟩ := h; exact ⟨_, _, rfl⟩
  | step w e => exact h.elim
  | txt s => exact h.elim

end Go.Proofs.YtmonepclhbappaaDoor
/-
  The fault package over whole chains: errors.As, fault.fault, fault.Code, fault.At.
-/
namespace Go.Proofs.YtmonepclhbappaaDoor
open Go.RowKit Go.Extern.Stop Go.Stop Go.Extern

/-- What errors.As leaves, its target the one cell t. -/
def AsDone (E : Err) (w0 w : World) (t : Addr) (old : Value) (ev : Ending) (w' : World) : Prop :=
  Below t.block w w' ∧
  ((∃ c a s g, E.flt? = some (c, a, s) ∧ ev = .returned (.bool true) ∧ Blk w0 g 131 #[.int .i64 c, .int .i64 a, .string s] ∧ w'.cell? t = some (.pointer (some ⟨g, 0, none⟩))) ∨
   (E.flt? = none ∧ ev = .returned (.bool false) ∧ w'.cell? t = some old))

/-- fault.fault: a pointer to the chain's first fault, or none. -/
def FaultPost (E : Err) (w : World) (ev : Ending) (w' : World) : Prop :=
  Below w.heap.size w w' ∧
  ((∃ c a s g, E.flt? = some (c, a, s) ∧ ev = .returned (.pointer (some ⟨g, 0, none⟩)) ∧ Blk w' g 131 #[.int .i64 c, .int .i64 a, .string s]) ∨ (E.flt? = none ∧ ev = .returned (.pointer none)))

end Go.Proofs.YtmonepclhbappaaDoor
/-
  Contracts: nums.Add, size, signed, over, Mul, small, Pow; bits.Mul64.
-/
namespace Go.Proofs.YtmonepclhbappaaDoor
open Go.RowKit Go.Lib
set_option maxRecDepth 100000
set_option linter.unusedVariables false

/-- Does it lie from -2^63 to 2^63 - 1? -/
def fitB (z : Int) : Bool := decide (-9223372036854775808 ≤ z ∧ z ≤ 9223372036854775807)
/-- What is told of a number: itself, or nothing. -/
def tn (z : Int) : Int := if fitB z then z else 0
def te (t : ByteArray) (z : Int) : Err := if fitB z then .nil else .flt 7 0 t
theorem fitB_true {z : Int} (h : -9223372036854775808 ≤ z ∧ z ≤ 9223372036854775807) : fitB z = true := decide_eq_true h
theorem fitB_false {z : Int} (h : ¬ (-9223372036854775808 ≤ z ∧ z ≤ 9223372036854775807)) : fitB z = false := decide_eq_false h
theorem fitB_iff {z : Int} : fitB z = true ↔ -9223372036854775808 ≤ z ∧ z ≤ 9223372036854775807 := by unfold fitB; simp
theorem tn_fit {z : Int} (h : fitB z = true) : tn z = z := by rw [tn, h]; rfl
theorem tn_not {z : Int} (h : fitB z = false) : tn z = 0 := by rw [tn, h]; rfl
theorem te_fit {t : ByteArray} {z : Int} (h : fitB z = true) : te t z = .nil := by rw [te, h]; rfl
theorem te_not {t : ByteArray} {z : Int} (h : fitB z = false) : te t z = .flt 7 0 t := by rw [te, h]; rfl
theorem tn_in (z : Int) : -9223372036854775808 ≤ tn z ∧ tn z ≤ 9223372036854775807 := by
  unfold tn
  split
  · rename_i h; exact fitB_iff.1 h
  · omega
theorem te_code (t : ByteArray) (z : Int) : (te t z).code = if fitB z then 0 else 7 := by
  unfold te; split <;> rfl
def txtSum : ByteArray := ⟨#[115, 117, 109]⟩
def txtProduct : ByteArray := ⟨#[112, 114, 111, 100, 117, 99, 116]⟩
def txtPower : ByteArray := ⟨#[112, 111, 119, 101, 114]⟩
def txtChoice : ByteArray := ⟨#[99, 104, 111, 105, 99, 101]⟩

theorem Over_any (t : ByteArray) (w : World) :
    Calls Tryd.prog 88 #[.string t] w fun e w' => ∃ ev, e = .returned (.tuple #[.int .i64 0, ev]) ∧ (Err.flt 7 0 t).At w' ev ∧ Below w.heap.size w w' := by
  go_enter Tryd.func88, Tryd.ntmps88
  go_wp2_with fail
  refine (New_err 7 0 t w).mono ?_
  rintro e w1 ⟨v, rfl, hv, hb1⟩
  have HV := Lib.hid hv
  clear hv
  go_wp2_with fail
  go_ret2
  exact ⟨v, rfl, HV.out, hb1⟩

/-- Of a size and a sign: the number, and whether it fits. -/
def SgP (z : Int) (w : World) (e : Ending) (w' : World) : Prop := ∃ p : Int, e = .returned (.tuple #[.int .i64 p, .bool (fitB z)]) ∧ (fitB z = true → p = z) ∧ w' = w
theorem prod_abs (a b : Int) : (if (decide (a < 0) != decide (b < 0)) = true then -((a.natAbs * b.natAbs : Nat) : Int) else ((a.natAbs * b.natAbs : Nat) : Int)) = a * b := by
  rw [← Int.natAbs_mul]
  by_cases h1 : a < 0 <;> by_cases h2 : b < 0
  · have := Int.mul_pos_of_neg_of_neg h1 h2
    simp [h1, h2]; omega
  · have := Int.mul_nonpos_of_nonpos_of_nonneg (a := a) (b := b) (by omega) (by omega)
    simp [h1, h2]; omega
  · have := Int.mul_nonpos_of_nonneg_of_nonpos (a := a) (b := b) (by omega) (by omega)
    simp [h1, h2]; omega
  · have := Int.mul_nonneg (a := a) (b := b) (by omega) (by omega)
    simp [h1, h2]; omega

end Go.Proofs.YtmonepclhbappaaDoor
/-
  Plainly: choices (Pascal's row), powers that are too great, sums of lists.
-/
namespace Go.Proofs.YtmonepclhbappaaDoor
set_option linter.unusedVariables false

/-- How many sets of k of n. -/
def ch : Nat → Nat → Nat
  | _, 0 => 1
  | 0, _ + 1 => 0
  | n + 1, k + 1 => ch n k + ch n (k + 1)
theorem ch_zero (n : Nat) : ch n 0 = 1 := by cases n <;> rfl
theorem ch_succ (n k : Nat) : ch (n + 1) (k + 1) = ch n k + ch n (k + 1) := rfl
theorem ch_out : ∀ {n k : Nat}, n < k → ch n k = 0
  | 0, k + 1, _ => rfl
  | n + 1, k + 1, h => by rw [ch_succ, ch_out (show n < k by omega), ch_out (show n < k + 1 by omega)]
theorem ch_self (n : Nat) : ch n n = 1 := by
  induction n with
  | zero => rfl
  | succ n ih => rw [ch_succ, ih, ch_out (Nat.lt_succ_self n)]
theorem ch_pos : ∀ {n k : Nat}, k ≤ n → 1 ≤ ch n k
  | n, 0, _ => by rw [ch_zero]; omega
  | n + 1, k + 1, h => by rw [ch_succ]; have := ch_pos (show k ≤ n by omega); omega
theorem ch_step : ∀ (n k : Nat), (k + 1) * ch (n + 1) (k + 1) = (n + 1) * ch n k
  | 0, 0 => rfl
  | 0, k + 1 => by
    rw [ch_succ, show ch 0 (k + 1) = 0 from rfl, show ch 0 (k + 1 + 1) = 0 from rfl]; simp
  | n + 1, 0 => by
    have := ch_step n 0
    rw [ch_zero] at this ⊢
    rw [ch_succ (n + 1) 0, ch_zero]
    omega
  | n + 1, k + 1 => by
    have h1 := ch_step n (k + 1)
    have h2 := ch_step n k
    have e1 : (k + 1 + 1) * ch (n + 1 + 1) (k + 1 + 1) = (k + 1) * ch (n + 1) (k + 1) + ch (n + 1) (k + 1) + (k + 1 + 1) * ch (n + 1) (k + 1 + 1) := by
      rw [ch_succ (n + 1) (k + 1), Nat.mul_add, Nat.add_mul (k + 1) 1]; omega
    have e2 : (n + 1 + 1) * ch (n + 1) (k + 1) = (n + 1) * ch (n + 1) (k + 1) + ch (n + 1) (k + 1) := by rw [Nat.add_mul (n + 1) 1]; omega
    have e3 : (n + 1) * ch (n + 1) (k + 1) = (n + 1) * ch n k + (n + 1) * ch n (k + 1) := by rw [ch_succ n k, Nat.mul_add]
    rw [e1, h1, h2, e2, e3]; omega
theorem ch_symm : ∀ (a b : Nat), ch (a + b) a = ch (a + b) b
  | 0, b => by rw [Nat.zero_add, ch_zero, ch_self]
  | a + 1, 0 => by rw [Nat.add_zero, ch_zero, ch_self]
  | a + 1, b + 1 => by
    have h1 := ch_symm a (b + 1)
    have h2 := ch_symm (a + 1) b
    rw [show a + 1 + (b + 1) = (a + b + 1) + 1 by omega, ch_succ (a + b + 1) a, ch_succ (a + b + 1) b]
    rw [show a + (b + 1) = a + b + 1 by omega] at h1
    rw [show a + 1 + b = a + b + 1 by omega] at h2
    omega
theorem ch_symm' {n k : Nat} (h : k ≤ n) : ch n (n - k) = ch n k := by
  have := ch_symm (n - k) k
  rwa [Nat.sub_add_cancel h] at this
theorem ch_min {n k : Nat} (h : k ≤ n) : ch n (min k (n - k)) = ch n k := by
  rcases Nat.le_total k (n - k) with h1 | h1
  · rw [Nat.min_eq_left h1]
  · rw [Nat.min_eq_right h1, ch_symm' h]
theorem ch_mono (m : Nat) {i k : Nat} (h : i ≤ k) : ch (m + i) i ≤ ch (m + k) k := by
  induction k with
  | zero => obtain rfl : i = 0 := by omega
            exact Nat.le_refl _
  | succ k ih =>
    rcases Nat.eq_or_lt_of_le h with rfl | h1
    · exact Nat.le_refl _
    · refine Nat.le_trans (ih (by omega)) ?_
      rw [← Nat.add_assoc, ch_succ]; omega
theorem ch_ge (m : Nat) : ∀ {i : Nat}, i ≤ m → 2 ^ i ≤ ch (m + i) i
  | 0, _ => by rw [ch_zero]; exact Nat.le_refl _
  | i + 1, h => by
    have h1 := ch_ge m (i := i) (by omega)
    have h2 := ch_step (m + i) i
    rw [show m + (i + 1) = m + i + 1 by omega]
    have h3 : 2 * (i + 1) * ch (m + i) i ≤ (m + i + 1) * ch (m + i) i := Nat.mul_le_mul_right _ (by omega)
    rw [← h2, Nat.mul_comm 2 (i + 1), Nat.mul_assoc] at h3
    have h4 := Nat.le_of_mul_le_mul_left h3 (by omega)
    rw [Nat.pow_succ]; omega
/-- From one choice to the next: no rest. -/
theorem ch_next (m i : Nat) : ch (m + i) i * (m + (i + 1)) / (i + 1) = ch (m + (i + 1)) (i + 1) := by
  have h := ch_step (m + i) i
  rw [show m + (i + 1) = m + i + 1 by omega, Nat.mul_comm, ← h, Nat.mul_div_cancel_left _ (by omega)]
/-- A row's first choices, added up. -/
def rowS (n : Nat) : Nat → Nat
  | 0 => 0
  | k + 1 => rowS n k + ch n k
theorem rowS_succ (n : Nat) : ∀ k, rowS (n + 1) (k + 1) = rowS n (k + 1) + rowS n k
  | 0 => by simp [rowS, ch_zero]
  | k + 1 => by
    have h := rowS_succ n k
    have e1 : rowS (n + 1) (k + 1 + 1) = rowS (n + 1) (k + 1) + ch (n + 1) (k + 1) := rfl
    have e2 : rowS n (k + 1 + 1) = rowS n (k + 1) + ch n (k + 1) := rfl
    have e3 : rowS n (k + 1) = rowS n k + ch n k := rfl
    rw [e1, e2, h, ch_succ]; omega
theorem rowS_all : ∀ n, rowS n (n + 1) = 2 ^ n
  | 0 => rfl
  | n + 1 => by
    have h := rowS_all n
    rw [rowS_succ, show rowS n (n + 1 + 1) = rowS n (n + 1) + ch n (n + 1) from rfl, ch_out (Nat.lt_succ_self n), h, Nat.pow_succ]; omega
theorem rowS_le (n : Nat) {a b : Nat} (h : a ≤ b) : rowS n a ≤ rowS n b := by
  induction b with
  | zero => obtain rfl : a = 0 := by omega
            exact Nat.le_refl _
  | succ b ih =>
    rcases Nat.eq_or_lt_of_le h with rfl | h1
    · exact Nat.le_refl _
    · exact Nat.le_trans (ih (by omega)) (Nat.le_add_right _ _)
theorem ch_le (n : Nat) (k : Nat) : ch n k ≤ 2 ^ n := by
  by_cases h : k ≤ n
  · rw [← rowS_all]
    exact Nat.le_trans (Nat.le_add_left _ (rowS n k)) (rowS_le n (show k + 1 ≤ n + 1 by omega))
  · rw [ch_out (by omega)]; exact Nat.zero_le _

/-- A number and its powers. -/
theorem pow_abs (a : Int) (n : Nat) : (a ^ n).natAbs = a.natAbs ^ n := Int.natAbs_pow a n
theorem two_pow_le {a : Int} (h : 2 ≤ a.natAbs) (n : Nat) : 2 ^ n ≤ (a ^ n).natAbs := by
  rw [pow_abs]; exact Nat.pow_le_pow_left h n

/-- The sum of a list. -/
def sumZ : List Int → Int
  | [] => 0
  | x :: l => x + sumZ l
theorem sumZ_append : ∀ (a b : List Int), sumZ (a ++ b) = sumZ a + sumZ b
  | [], b => by simp [sumZ]
  | x :: a, b => by rw [List.cons_append, sumZ, sumZ, sumZ_append a b]; omega
theorem sumZ_take_succ {l : List Int} {k : Nat} (h : k < l.length) : sumZ (l.take (k + 1)) = sumZ (l.take k) + l[k] := by
  rw [List.take_succ_eq_append_getElem h, sumZ_append]; simp [sumZ]
theorem sumZ_reverse (l : List Int) : sumZ l.reverse = sumZ l := by
  induction l with
  | nil => rfl
  | cons x l ih => rw [List.reverse_cons, sumZ_append, ih]; simp [sumZ]; omega
theorem sumZ_split (l : List Int) (k : Nat) : sumZ (l.take k) + sumZ (l.drop k) = sumZ l := by
  rw [← sumZ_append, List.take_append_drop]
/-- The least of some, at most 2^63 - 1. -/
def minZ : List Int → Int := fun l => l.foldl min 9223372036854775807
theorem minZ_take_succ {l : List Int} {k : Nat} (h : k < l.length) : minZ (l.take (k + 1)) = min (minZ (l.take k)) l[k] := by
  unfold minZ
  rw [List.take_succ_eq_append_getElem h, List.foldl_append]; rfl
theorem foldl_min_le (l : List Int) : ∀ (a : Int), l.foldl min a ≤ a ∧ ∀ x ∈ l, l.foldl min a ≤ x := by
  induction l with
  | nil => intro a; exact ⟨Int.le_refl _, fun x h => by cases h⟩
  | cons y l ih =>
    intro a
    have := ih (min a y)
    refine ⟨?_, fun x hx => ?_⟩
    · rw [List.foldl_cons]; have := this.1; omega
    · rw [List.foldl_cons]
      rcases List.mem_cons.1 hx with rfl | hx
      · have := this.1; omega
      · exact this.2 x hx
theorem foldl_min_mem (l : List Int) : ∀ (a : Int), l.foldl min a = a ∨ l.foldl min a ∈ l := by
  induction l with
  | nil => intro a; exact .inl rfl
  | cons y l ih =>
    intro a
    rw [List.foldl_cons]
    rcases ih (min a y) with h | h
    · rcases Int.le_total a y with h2 | h2
      · left; rw [h]; omega
      · right; rw [h, Int.min_eq_right h2]; simp
    · right; exact List.mem_cons_of_mem _ h
theorem minZ_le {l : List Int} {x : Int} (h : x ∈ l) : minZ l ≤ x := (foldl_min_le l _).2 x h
theorem minZ_mem {l : List Int} (h : l ≠ []) (hr : ∀ x ∈ l, x ≤ 9223372036854775807) : minZ l ∈ l := by
  rcases foldl_min_mem l 9223372036854775807 with h1 | h1
  · cases l with
    | nil => exact absurd rfl h
    | cons y l =>
      have h2 := (foldl_min_le (y :: l) 9223372036854775807).2 y (by simp)
      have h3 := hr y (by simp)
      rw [h1] at h2
      have : minZ (y :: l) = y := by unfold minZ; rw [h1]; omega
      rw [this]; simp
  · exact h1
end Go.Proofs.YtmonepclhbappaaDoor
