/-
  Part 17 of the proof of PatBack: SetsRef, SetsP, SetsOf, TsC.
-/
import Derived.Test.YtapledphhfiimaaGreatDoorPatBackM2
import Derived.Lib.SlicesCompact
import Derived.Shelf.Sort.Plain
import Derived.Shelf.Slices.In.SortNone
import Derived.Shelf.Slices.CompactI
import Derived.Sort.OwnSortedInts
import Derived.Lib.RowBridge
import Derived.Test.YtapledphhfiimaaGreatDoorPatBackM16
import Derived.BigQuiet
import Derived.Deep.QuietTactic
import Derived.Test.YtapledphhfiimaaGreatDoorPatBackM15
set_option linter.unusedVariables false
/-
  The document's sets: Has, Add, Of.
-/
namespace Go.Proofs.YtapledphhfiimaaGreatDoor
open Go.RowKit
set_option maxRecDepth 100000

theorem one_ints (l : List Int) : ∀ u ∈ l.map (Value.int .i64), u.oneCell' = true := by
  intro u hu
  obtain ⟨x, _, rfl⟩ := List.mem_map.1 hu
  rfl
/-- Where a number stands among rising ones. -/
def rise (x : Int) : List Int → Nat
  | [] => 0
  | y :: l => if y < x then rise x l + 1 else 0
/-- With a number. -/
def addL (l : List Int) (x : Int) : List Int := if x ∈ l then l else l.take (rise x l) ++ [x] ++ l.drop (rise x l)
def setL (l : List Int) : List Int := l.foldl addL []
theorem rise_le (x : Int) : ∀ l : List Int, rise x l ≤ l.length
  | [] => Nat.le_refl _
  | y :: l => by rw [rise]; split; have := rise_le x l; simp; omega; exact Nat.zero_le _
theorem rise_all (x : Int) : ∀ (l : List Int) (k : Nat), k < rise x l → ∃ y, l[k]? = some y ∧ y < x
  | y :: l, 0, h => by
    rw [rise] at h
    split at h
    · exact ⟨y, rfl, ‹_›⟩
    · omega
  | y :: l, k + 1, h => by
    rw [rise] at h
    split at h
    · exact rise_all x l k (by omega)
    · omega
  | [], k, h => by simp [rise] at h
theorem rise_at (x : Int) : ∀ (l : List Int), rise x l < l.length → ∃ y, l[rise x l]? = some y ∧ ¬ y < x
  | [], h => by simp at h
  | y :: l, h => by
    rw [rise] at h ⊢
    split
    · rw [if_pos ‹_›] at h
      exact rise_at x l (by simpa using h)
    · exact ⟨y, rfl, ‹_›⟩

theorem addL_len (l : List Int) (x : Int) : (addL l x).length ≤ l.length + 1 := by
  unfold addL
  split
  · omega
  · have := rise_le x l
    simp
    omega
theorem addL_mem (l : List Int) (x y : Int) : y ∈ addL l x ↔ y ∈ l ∨ y = x := by
  unfold addL
  split
  · constructor
    · exact .inl
    · rintro (h | rfl)
      · exact h
      · assumption
  · have : y ∈ l ↔ y ∈ l.take (rise x l) ∨ y ∈ l.drop (rise x l) := by rw [← List.mem_append, List.take_append_drop]
    simp only [List.mem_append, List.mem_singleton, this]
    constructor
    · rintro ((h | h) | h) <;> simp [h]
    · rintro ((h | h) | h) <;> simp [h]
theorem rise_cut (x : Int) : ∀ l : List Int, (∀ y ∈ l.take (rise x l), y < x) ∧ (l.Pairwise (· < ·) → ∀ y ∈ l.drop (rise x l), ¬ y < x)
  | [] => by simp
  | z :: l => by
    have ih := rise_cut x l
    by_cases h : z < x
    · rw [rise, if_pos h, List.take_succ_cons, List.drop_succ_cons]
      exact ⟨fun y hy => by rcases List.mem_cons.1 hy with rfl | hy; exact h; exact ih.1 y hy, fun hp => ih.2 (List.pairwise_cons.1 hp).2⟩
    · rw [rise, if_neg h, List.take_zero, List.drop_zero]
      refine ⟨by simp, fun hp y hy => ?_⟩
      rcases List.mem_cons.1 hy with rfl | hy
      · exact h
      · have := (List.pairwise_cons.1 hp).1 y hy
        omega
theorem addL_inc (l : List Int) (x : Int) (h : l.Pairwise (· < ·)) : (addL l x).Pairwise (· < ·) := by
  unfold addL
  split
  · exact h
  · rename_i hm
    have hc := rise_cut x l
    have hd := hc.2 h
    have h' : (l.take (rise x l) ++ l.drop (rise x l)).Pairwise (· < ·) := by rw [List.take_append_drop]; exact h
    rw [List.pairwise_append] at h'
    rw [List.append_assoc, List.pairwise_append]
    refine ⟨h'.1, ?_, ?_⟩
    · rw [List.singleton_append, List.pairwise_cons]
      refine ⟨fun y hy => ?_, h'.2.1⟩
      have h1 := hd y hy
      have h2 : y ≠ x := fun e => hm (e ▸ List.mem_of_mem_drop hy)
      omega
    · intro a ha b hb
      rw [List.singleton_append] at hb
      rcases List.mem_cons.1 hb with rfl | hb
      · exact hc.1 a ha
      · exact h'.2.2 a ha b hb
theorem setL_snoc (l : List Int) (x : Int) : setL (l ++ [x]) = addL (setL l) x := by unfold setL; rw [List.foldl_append]; rfl
theorem foldl_inc : ∀ (l out : List Int), out.Pairwise (· < ·) → (l.foldl addL out).Pairwise (· < ·) ∧ ∀ y, y ∈ l.foldl addL out ↔ y ∈ out ∨ y ∈ l
  | [], out, h => ⟨h, by simp⟩
  | x :: l, out, h => by
    obtain ⟨h1, h2⟩ := foldl_inc l (addL out x) (addL_inc out x h)
    refine ⟨h1, fun y => ?_⟩
    rw [List.foldl_cons, h2, addL_mem, List.mem_cons, or_assoc]
theorem setL_inc (l : List Int) : (setL l).Pairwise (· < ·) := (foldl_inc l [] List.Pairwise.nil).1
theorem setL_mem (l : List Int) (y : Int) : y ∈ setL l ↔ y ∈ l := by have := (foldl_inc l [] List.Pairwise.nil).2 y; simpa [setL] using this
theorem setL_len : ∀ (l out : List Int), (l.foldl addL out).length ≤ out.length + l.length
  | [], _ => Nat.le_refl _
  | x :: l, out => by
    rw [List.foldl_cons]
    have := setL_len l (addL out x)
    have := addL_len out x
    simp
    omega
theorem inc_ext : ∀ {a b : List Int}, a.Pairwise (· < ·) → b.Pairwise (· < ·) → (∀ y, y ∈ a ↔ y ∈ b) → a = b
  | [], [], _, _, _ => rfl
  | [], y :: b, _, _, h => by have := (h y).2 (List.mem_cons_self ..); simp at this
  | x :: a, [], _, _, h => by have := (h x).1 (List.mem_cons_self ..); simp at this
  | x :: a, y :: b, ha, hb, h => by
    obtain ⟨ha1, ha2⟩ := List.pairwise_cons.1 ha
    obtain ⟨hb1, hb2⟩ := List.pairwise_cons.1 hb
    have hxy : x = y := by
      rcases List.mem_cons.1 ((h x).1 (List.mem_cons_self ..)) with e | e
      · exact e
      · rcases List.mem_cons.1 ((h y).2 (List.mem_cons_self ..)) with e' | e'
        · exact e'.symm
        · have := hb1 x e; have := ha1 y e'; omega
    subst hxy
    rw [inc_ext ha2 hb2 (fun z => ?_)]
    constructor
    · intro hz
      rcases List.mem_cons.1 ((h z).1 (List.mem_cons_of_mem _ hz)) with e | e
      · have := ha1 z hz; omega
      · exact e
    · intro hz
      rcases List.mem_cons.1 ((h z).2 (List.mem_cons_of_mem _ hz)) with e | e
      · have := hb1 z hz; omega
      · exact e
theorem setL_same {a b : List Int} (h : ∀ y, y ∈ a ↔ y ∈ b) : setL a = setL b := inc_ext (setL_inc a) (setL_inc b) (fun y => by rw [setL_mem, setL_mem]; exact h y)

end Go.Proofs.YtapledphhfiimaaGreatDoor
/-
  Sets of numbers, plainly: the sorted list without its doubles is the document's set.
-/
namespace Go.Proofs.YtapledphhfiimaaGreatDoor
open Go.Lib
set_option linter.unusedVariables false

theorem compact_upto (zs : List Int) (hs : zs.Pairwise (· ≤ ·)) : ∀ m, m ≤ zs.length → (compactUpTo zs.toArray m).Pairwise (· < ·) ∧ ∀ y, y ∈ compactUpTo zs.toArray m ↔ y ∈ zs.take m
  | 0, _ => ⟨by simp [compactUpTo], by simp [compactUpTo]⟩
  | m + 1, h => by
    obtain ⟨ih1, ih2⟩ := compact_upto zs hs m (by omega)
    have hm : m < zs.length := by omega
    have hd : ∀ j, j < zs.length → zs.toArray[j]! = zs.getD j 0 := fun j hj => by
      rw [getElem!_pos _ _ (by simpa using hj)]
      simp [List.getD_eq_getElem?_getD, List.getElem?_eq_getElem hj]
    have hT := List.take_succ_eq_append_getElem hm
    have hg : zs.getD m 0 = zs[m] := by simp [List.getD_eq_getElem?_getD, List.getElem?_eq_getElem hm]
    rw [compactUpTo_succ, hT]
    by_cases hk : keeps zs.toArray m = true
    · rw [if_pos hk, hd m hm, hg]
      refine ⟨List.pairwise_append.2 ⟨ih1, List.pairwise_singleton _ _, fun a ha b hb => ?_⟩, fun y => ?_⟩
      · obtain rfl : b = zs[m] := by simpa using hb
        have ha' := (ih2 a).1 ha
        unfold keeps at hk
        have hk' := of_decide_eq_true hk
        obtain ⟨i, hi, rfl⟩ := List.getElem_of_mem ha'
        rw [List.length_take] at hi
        have him : i < m := by omega
        rw [List.getElem_take]
        rcases hk' with h0 | hne
        · omega
        · have h1 : zs[m - 1]'(by omega) ≤ zs[m] := (List.pairwise_iff_getElem.1 hs) (m - 1) m (by omega) hm (by omega)
          have h2 : zs[i]'(by omega) ≤ zs[m - 1]'(by omega) := by
            by_cases e : i = m - 1
            · subst e; exact Int.le_refl _
            · exact (List.pairwise_iff_getElem.1 hs) i (m - 1) (by omega) (by omega) (by omega)
          rw [hd m hm, hd (m - 1) (by omega), hg] at hne
          have hg2 : zs.getD (m - 1) 0 = zs[m - 1]'(by omega) := by simp [List.getD_eq_getElem?_getD, List.getElem?_eq_getElem (show m - 1 < zs.length by omega)]
          rw [hg2] at hne
          have : zs[m - 1]'(by omega) < zs[m] := by omega
          omega
      · rw [List.mem_append, List.mem_append, ih2]
    · rw [if_neg hk, List.append_nil]
      refine ⟨ih1, fun y => ?_⟩
      rw [ih2, List.mem_append]
      refine ⟨.inl, fun h => h.elim id fun h => ?_⟩
      obtain rfl : y = zs[m] := by simpa using h
      unfold keeps at hk
      have hk' := of_decide_eq_false (Bool.eq_false_iff.2 hk)
      have h0 : ¬ m = 0 := fun e => hk' (.inl e)
      have h1 : zs.toArray[m]! = zs.toArray[m - 1]! := Classical.not_not.1 fun e => hk' (.inr e)
      rw [hd m hm, hd (m - 1) (by omega), hg] at h1
      rw [h1, List.getD_eq_getElem?_getD, List.getElem?_eq_getElem (show m - 1 < zs.length by omega)]
      exact List.mem_take_iff_getElem.2 ⟨m - 1, by omega, rfl⟩

theorem compact_sorted (l : List Int) : compact (l.mergeSort fun x y => decide (x ≤ y)) = setL l := by
  have hs : (l.mergeSort fun x y => decide (x ≤ y)).Pairwise (· ≤ ·) := by
    have := List.pairwise_mergeSort (le := fun (x y : Int) => decide (x ≤ y)) (fun a b c h1 h2 => by simp at *; omega) (fun a b => by simp; omega) l
    exact this.imp fun h => by simpa using h
  obtain ⟨h1, h2⟩ := compact_upto _ hs _ (Nat.le_refl _)
  refine inc_ext h1 (setL_inc l) (fun y => ?_)
  refine Iff.trans (h2 y) ?_
  rw [List.take_of_length_le (Nat.le_refl _), setL_mem]
  exact (List.mergeSort_perm l _).mem_iff
theorem setL_le (l : List Int) : (setL l).length ≤ l.length := by have := setL_len l []; simpa [setL] using this
end Go.Proofs.YtapledphhfiimaaGreatDoor
/-
  slices.Sorted, slices.Compact, sets.Of.
-/
namespace Go.Proofs.YtapledphhfiimaaGreatDoor
open Go.RowKit Go.Shelf
set_option maxRecDepth 100000
set_option linter.unusedVariables false

def sort_ren : Go.Shelf.Ren := ⟨fun | 125 => 83 | 128 => 120 | 129 => 121 | 189 => 136 | 215 => 86 | 216 => 186 | 257 => 162 | 294 => 180 | 295 => 181 | 296 => 182 | 297 => 183 | 298 => 184 | 299 => 185 | 300 => 187 | 301 => 188 | 328 => 196 | 329 => 143 | 330 => 144 | 331 => 197 | 332 => 198 | 343 => 201 | n => n, fun | 0 => 0 | 3 => 3 | 4 => 4 | 5 => 5 | 9 => 9 | 28 => 23 | 46 => 134 | 51 => 171 | 53 => 173 | 131 => 125 | 182 => 164 | 183 => 165 | 218 => 195 | 222 => 158 | 228 => 228 | 229 => 84 | n => n, fun | n => n⟩
theorem sort_lays : Go.Proofs.Lays.n189 Tryz.prog sort_ren := {
  mixed := by kernel_rfl
  f125 := Tryz.func83.trans (congrArg some (by kernel_rfl))
  f128 := Tryz.func120.trans (congrArg some (by kernel_rfl))
  f129 := Tryz.func121.trans (congrArg some (by kernel_rfl))
  f189 := Tryz.func136.trans (congrArg some (by kernel_rfl))
  f215 := Tryz.func86.trans (congrArg some (by kernel_rfl))
  f216 := Tryz.func186.trans (congrArg some (by kernel_rfl))
  f257 := Tryz.func162.trans (congrArg some (by kernel_rfl))
  f294 := Tryz.func180.trans (congrArg some (by kernel_rfl))
  f295 := Tryz.func181.trans (congrArg some (by kernel_rfl))
  f296 := Tryz.func182.trans (congrArg some (by kernel_rfl))
  f297 := Tryz.func183.trans (congrArg some (by kernel_rfl))
  f298 := Tryz.func184.trans (congrArg some (by kernel_rfl))
  f299 := Tryz.func185.trans (congrArg some (by kernel_rfl))
  f300 := Tryz.func187.trans (congrArg some (by kernel_rfl))
  f301 := Tryz.func188.trans (congrArg some (by kernel_rfl))
  f328 := Tryz.func196.trans (congrArg some (by kernel_rfl))
  f329 := Tryz.func143.trans (congrArg some (by kernel_rfl))
  f330 := Tryz.func144.trans (congrArg some (by kernel_rfl))
  f331 := Tryz.func197.trans (congrArg some (by kernel_rfl))
  f332 := Tryz.func198.trans (congrArg some (by kernel_rfl))
  f343 := Tryz.func201.trans (congrArg some (by kernel_rfl))
  t0 := Tryz.underlying0
  a0 := Tryz.isAgg0
  z0 := Tryz.sizeOf0
  v0 := Tryz.zeroValue0
  t3 := Tryz.underlying3
  a3 := Tryz.isAgg3
  z3 := Tryz.sizeOf3
  v3 := Tryz.zeroValue3
  t4 := Tryz.underlying4
  a4 := Tryz.isAgg4
  z4 := Tryz.sizeOf4
  v4 := Tryz.zeroValue4
  t5 := Tryz.underlying5
  a5 := Tryz.isAgg5
  z5 := Tryz.sizeOf5
  v5 := Tryz.zeroValue5
  t9 := Tryz.underlying9
  a9 := Tryz.isAgg9
  z9 := Tryz.sizeOf9
  v9 := Tryz.zeroValue9
  t28 := Tryz.underlying23
  a28 := Tryz.isAgg23
  z28 := Tryz.sizeOf23
  v28 := Tryz.zeroValue23
  t46 := Tryz.underlying134
  a46 := Tryz.isAgg134
  z46 := Tryz.sizeOf134
  v46 := Tryz.zeroValue134
  t51 := Tryz.underlying171
  a51 := Tryz.isAgg171
  z51 := Tryz.sizeOf171
  v51 := Tryz.zeroValue171
  t53 := Tryz.underlying173
  a53 := Tryz.isAgg173
  z53 := Tryz.sizeOf173
  v53 := Tryz.zeroValue173
  t131 := Tryz.underlying125
  a131 := Tryz.isAgg125
  z131 := Tryz.sizeOf125
  v131 := Tryz.zeroValue125
  t182 := Tryz.underlying164
  a182 := Tryz.isAgg164
  z182 := Tryz.sizeOf164
  v182 := Tryz.zeroValue164
  t183 := Tryz.underlying165
  a183 := Tryz.isAgg165
  z183 := Tryz.sizeOf165
  v183 := Tryz.zeroValue165
  t218 := Tryz.underlying195
  a218 := Tryz.isAgg195
  z218 := Tryz.sizeOf195
  v218 := Tryz.zeroValue195
  t222 := Tryz.underlying158
  a222 := Tryz.isAgg158
  z222 := Tryz.sizeOf158
  v222 := Tryz.zeroValue158
  t228 := Tryz.underlying228
  a228 := Tryz.isAgg228
  z228 := Tryz.sizeOf228
  v228 := Tryz.zeroValue228
  t229 := Tryz.underlying84
  a229 := Tryz.isAgg84
  z229 := Tryz.sizeOf84
  v229 := Tryz.zeroValue84 }

def comp_ren : Go.Shelf.Ren := ⟨fun | 20 => 99 | n => n, fun | 0 => 0 | 3 => 3 | 4 => 4 | 22 => 23 | n => n, fun | n => n⟩
theorem comp_lays : Go.Proofs.Lays2.n20 Tryz.prog comp_ren := {
  mixed := by kernel_rfl
  f20 := Tryz.func99.trans (congrArg some (by kernel_rfl))
  t0 := Tryz.underlying0
  a0 := Tryz.isAgg0
  z0 := Tryz.sizeOf0
  v0 := Tryz.zeroValue0
  t3 := Tryz.underlying3
  a3 := Tryz.isAgg3
  z3 := Tryz.sizeOf3
  v3 := Tryz.zeroValue3
  t4 := Tryz.underlying4
  a4 := Tryz.isAgg4
  z4 := Tryz.sizeOf4
  v4 := Tryz.zeroValue4
  t22 := Tryz.underlying23
  a22 := Tryz.isAgg23
  z22 := Tryz.sizeOf23
  v22 := Tryz.zeroValue23
  i3 := by kernel_rfl }

/-- The head of an own row. -/
theorem own_head {w : World} {B g n k c : Nat} {e : TypeId} {xs : List Value} (h : w.ownsRow B e 1 (.slice (some ⟨g, 0, none⟩) n c) n xs) (hk : k ≤ n) : w.ownsRow B e 1 (.slice (some ⟨g, 0, none⟩) k c) k (xs.take k) := by
  rcases h.2 with ⟨h0, _⟩ | ⟨g', cap', cur, hv, hg, hgb, hn, hcap, hsz, ht⟩
  · cases h0
  cases hv
  have hx := h.1
  refine ⟨by rw [List.length_take]; omega, .inr ⟨g, c, cur, rfl, hg, hgb, by omega, hcap, hsz, ?_⟩⟩
  rw [Nat.mul_one] at ht ⊢
  rw [← ht, List.take_take, Nat.min_eq_left hk]

set_option maxHeartbeats 2000000 in
theorem Sorted_any (l : List Int) (A : Option Addr) (n c : Nat) (Bs : Nat) (w : World) (hsB : w.cell? ⟨Bs, 0, none⟩ = some (.slice A n c)) (hBs : Bs < w.heap.size)
    (hl : l.length = n) (hn : n ≤ 1048576) (hA : Sl w 1 A n (l.map (Value.int .i64))) (hAQ : 0 < n → ∀ x : Addr, A = some x → x.block < w.heap.size) :
    Calls Tryz.prog 100 #[.func (.func 137) #[] #[.pointer (some ⟨Bs, 0, none⟩)]] w fun e w' => ∃ v, e = .returned v ∧ w'.ownsRow w.heap.size 3 1 v n ((l.mergeSort fun x y => decide (x ≤ y)).map (Value.int .i64)) ∧ Below w.heap.size w w' := by
  have HC := Lib.hid (Collect_any l A n c Bs w hsB hBs hl hn hA hAQ)
  clear hsB hBs hA hAQ
  go_enter Tryz.func100, Tryz.ntmps100
  go_wp2_with fail
  refine HC.out.mono ?_
  rintro e W ⟨v, rfl, hrow, hb⟩
  have hlm : (l.mergeSort fun x y => decide (x ≤ y)).length = l.length := List.length_mergeSort _
  rcases hrow.2 with ⟨rfl, hz⟩ | ⟨gb, cap, cur, rfl, hbase, hgb, r1, r2, r3, r4⟩
  · subst hz
    have hle : l = [] := List.eq_nil_of_length_eq_zero hl
    have HO := Lib.hid hrow
    have HB := Lib.hid hb
    have HS := Lib.hid (Go.Proofs.Any.slices_Sort_int_none sort_lays none 0 W)
    clear hrow hb HC
    go_wp2_with fail
    refine HS.out.mono ?_
    rintro e w' ⟨rfl, rfl⟩
    go_wp2_with fail
    go_ret
    refine ⟨_, rfl, ?_, HB.out⟩
    rw [hle, List.mergeSort_nil]
    exact World.ownsRow_nil _ _ _ _
  · have hH : Go.Sort.Holds (Value.int .i64) W gb 0 l.toArray := holds_of_blockI hgb (by rw [hl]; simpa using r4)
    have hgl : gb < W.heap.size := (Array.getElem?_eq_some_iff.1 hgb).1
    have hs := Go.Proofs.Any.slices_Sort_int sort_lays gb 0 cap l W hH hgl (by omega)
    rw [hl] at hs
    have HS := Lib.hid hs
    have HO := Lib.hid (fun (nn : Nat) (os : Array Obj) => ownsRow_sortedI (n := nn) (os := os) (ss := l) (ts := l.mergeSort fun x y => decide (x ≤ y)) hlm hbase hgb (by omega) r2 r3)
    have HB := Lib.hid hb
    have HH := Lib.hid hbase
    clear hs hH hrow hb HC hgb r1 r2 r3 r4 hgl hbase
    go_wp2_with fail
    refine HS.out.mono ?_
    rintro e w' ⟨rfl, nn, os, hw'⟩
    have HW := Lib.hid hw'
    clear hw'
    go_wp2_with fail
    go_ret
    have ho := HO.out nn os
    rw [hl] at ho
    rw [HW.out]
    exact ⟨_, rfl, ho, HB.out.grown (grownBy_sortedI _) HB.out.size (fun j hj => by cases hj; exact HH.out)⟩

set_option maxHeartbeats 2000000 in
theorem CompactI_any (l : List Int) (v : Value) (n B : Nat) (w : World) (hl : l.length = n) (hn : n ≤ 1048576) (hrow : w.ownsRow B 3 1 v n (l.map (Value.int .i64))) (hB : B ≤ w.heap.size) :
    Calls Tryz.prog 99 #[v] w fun e w' => ∃ v', e = .returned v' ∧ w'.ownsRow B 3 1 v' (Go.Lib.compact l).length ((Go.Lib.compact l).map (Value.int .i64)) ∧ Below B w w' := by
  rcases hrow.2 with ⟨rfl, hz⟩ | ⟨gb, cap, cur, rfl, hbase, hgb, r1, r2, r3, r4⟩
  · subst hz
    have hle : l = [] := List.eq_nil_of_length_eq_zero hl
    subst hle
    refine (Go.Proofs.Any.slices_Compact_int_empty comp_lays none 0 w).mono ?_
    rintro e w' ⟨rfl, rfl⟩
    exact ⟨_, rfl, World.ownsRow_nil _ _ _ _, Below.refl _ _⟩
  · have hH : Go.Sort.Holds (Value.int .i64) w gb 0 l.toArray := holds_of_blockI hgb (by rw [hl]; simpa using r4)
    have hs := Go.Proofs.Any.slices_Compact_int comp_lays gb 0 cap l w hH (by omega) (by omega)
    rw [hl] at hs
    refine hs.mono ?_
    rintro e w' ⟨rfl, q, rfl⟩
    have hle := Go.Lib.compact_length_le l
    generalize Go.Lib.compact l = ts at *
    have ho := ownsRow_sortedI (n := q) (os := #[]) (ss := l) (ts := ts ++ List.replicate (n - ts.length) 0) (by simp; omega) hbase hgb (by omega) r2 r3
    rw [Go.Sort.grow_empty, hl] at ho
    have hg := grownBy_sortedI (w := w) (g := gb) (n := q) (os := #[]) (ts ++ List.replicate (n - ts.length) 0).toArray
    rw [Go.Sort.grow_empty] at hg
    have h2 := own_head ho (k := ts.length) (by omega)
    rw [← List.map_take, List.take_left' rfl] at h2
    exact ⟨_, rfl, h2, (Below.refl B w).grown hg hB (fun j hj => by cases hj; exact hbase)⟩

end Go.Proofs.YtapledphhfiimaaGreatDoor
/-
  Tests of patterns: the walks of pat.Has, triangle, and of holds for the kinds 1, 6, 8.
-/
namespace Go.Proofs.YtapledphhfiimaaGreatDoor
open Go.RowKit Go.Proofs.YtapledphhfiimaaGreatDoor.Pg
attribute [local go_sem ↓] Go.wp_at_zero Go.wp_at_succ
set_option maxRecDepth 100000
set_option linter.unusedVariables false

set_option maxHeartbeats 1000000 in
theorem IndexE_any (E : List (Int × Int)) (B : Option Addr) (m d : Nat) (t1 t2 : Int) (w : World) (hm : m ≤ 1000000) (ht : Sl w 2 B m (Rk.cells E)) :
    Calls Tryz.prog 122 #[.slice B m d, .agg #[.int .i64 t1, .int .i64 t2]] w fun e w' => ∃ r : Int, e = .returned (.int .i64 r) ∧ decide (0 ≤ r) = (E.any fun e => decide (e = (t1, t2))) ∧ Below w.heap.size w w' := by
  have HB0 := Lib.hid (bel_al (Below.refl w.heap.size w) (.cells #[.int .i64 t1, .int .i64 t2] 53))
  have HK := Lib.hid (Blk.new w 53 #[.int .i64 t1, .int .i64 t2])
  have HT := Lib.hid ht
  have HL := Lib.hid ht.len2
  clear ht
  go_enter Tryz.func122, Tryz.ntmps122
  go_wp2_with fail
  go_loopw [8] (fun i wr => ∃ k : Nat, k ≤ m ∧ i = .int .i64 (k : Int) ∧ Hid (∀ e ∈ E.take k, decide (e = (t1, t2)) = false) ∧ Hid (Below w.heap.size w wr) ∧ Hid (Blk wr w.heap.size 53 #[.int .i64 t1, .int .i64 t2])) (fun i _ => m - (intOf i).toNat)
  case atStart => exact ⟨0, Nat.zero_le _, rfl, Lib.hid (fun e he => by simp at he), HB0, HK⟩
  case round =>
    obtain ⟨k, hk, rfl, HD, HB, HKr⟩ := hrel
    have b0 := HKr.out.cell 0
    have b1 := HKr.out.cell 1
    simp at b0 b1
    by_cases hlt : k < m
    · have hlt' : (k : Int) < (m : Int) := by omega
      have hk0 : (0 : Int) ≤ (k : Int) := by omega
      obtain ⟨⟨x, y⟩, he⟩ : ∃ e, E[k]? = some e := ⟨_, List.getElem?_eq_getElem (by rw [HL.out]; exact hlt)⟩
      obtain ⟨bb, off, rfl, c0, c1⟩ := (HT.out.keep HB.out).edge hlt he
      simp only at c0 c1
      have HX := Lib.hid he
      clear he
      have HNo := Lib.hid (show (x, y) ≠ (t1, t2) → ∀ e ∈ E.take (k + 1), decide (e = (t1, t2)) = false from fun h e he => by
        obtain ⟨h1, h2⟩ := List.getElem?_eq_some_iff.1 HX.out
        rw [List.take_succ_eq_append_getElem h1, h2] at he
        rcases List.mem_append.1 he with h3 | h3
        · exact HD.out e h3
        · rw [List.mem_singleton.1 h3]; exact decide_eq_false h)
      by_cases hx : x = t1
      · subst hx
        by_cases hy : y = t2
        · subst hy
          have HA := Lib.hid (show decide ((0 : Int) ≤ (k : Int)) = (E.any fun e => decide (e = (x, y))) from by
            rw [decide_eq_true hk0]
            exact (List.any_eq_true.2 ⟨(x, y), List.mem_of_getElem? HX.out, decide_eq_true rfl⟩).symm)
          clear HNo
          go_wp2_with fail
          go_quiet (fail)
          go_wp2_with fail
          go_ret
          exact ⟨(k : Int), rfl, HA.out, bel_drewN HB.out _⟩
        · have e2 : (t2 == y) = false := by simpa using fun h => hy h.symm
          have HN := Lib.hid (HNo.out (fun h => hy (Prod.ext_iff.1 h).2))
          clear hy HNo
          go_wp2_with fail
          go_quiet (fail)
          go_wp2_with fail
          go_roundw
          case rel => exact ⟨k + 1, by omega, by go_num, HN, Lib.hid (bel_drewN HB.out _), Lib.hid (HKr.out.keep (bel_drewN (Below.refl _ _) _))⟩
          case measure => simp [intOf]; omega
      · have e1 : (t1 == x) = false := by simpa using fun h => hx h.symm
        have HN := Lib.hid (HNo.out (fun h => hx (Prod.ext_iff.1 h).1))
        clear hx HNo
        go_wp2_with fail
        go_quiet (fail)
        go_wp2_with fail
        go_roundw
        case rel => exact ⟨k + 1, by omega, by go_num, HN, Lib.hid (bel_drewN HB.out _), Lib.hid (HKr.out.keep (bel_drewN (Below.refl _ _) _))⟩
        case measure => simp [intOf]; omega
    · obtain rfl : k = m := by omega
      have hlt' : ¬ (k : Int) < (k : Int) := by omega
      have HA := Lib.hid (show decide ((0 : Int) ≤ -1) = (E.any fun e => decide (e = (t1, t2))) from by
        have h := HD.out
        rw [List.take_of_length_le (by rw [HL.out]; exact Nat.le_refl _)] at h
        cases ha : E.any fun e => decide (e = (t1, t2)) with
        | false => rfl
        | true =>
          obtain ⟨x, hx, hq⟩ := List.any_eq_true.1 ha
          rw [h x hx] at hq
          cases hq)
      go_wp2_with fail
      go_ret
      exact ⟨-1, rfl, HA.out, HB.out⟩
theorem ContainsE_any (E : List (Int × Int)) (B : Option Addr) (m d : Nat) (t1 t2 : Int) (w : World) (hm : m ≤ 1000000) (ht : Sl w 2 B m (Rk.cells E)) :
    Calls Tryz.prog 85 #[.slice B m d, .agg #[.int .i64 t1, .int .i64 t2]] w fun e w' => e = .returned (.bool (E.any fun e => decide (e = (t1, t2)))) ∧ Below w.heap.size w w' := by
  have HB0 := Lib.hid (bel_al (Below.refl w.heap.size w) (.cells #[.int .i64 t1, .int .i64 t2] 53))
  have HI := Lib.hid (IndexE_any E B m d t1 t2 (w.alloc (.cells #[.int .i64 t1, .int .i64 t2] 53)) hm (ht.keep HB0.out))
  clear ht
  go_enter Tryz.func85, Tryz.ntmps85
  go_wp2_with (go_at_call 122; refine HI.out.mono ?_; clear HI; rintro e w2 ⟨r, rfl, hr, hb2⟩; have HR := Lib.hid hr; have HB2 := Lib.hid (HB0.out.andThen hb2); clear hr hb2)
  go_ret
  exact ⟨ret_bool HR.out, HB2.out⟩
set_option maxHeartbeats 1000000 in
theorem PatHas_any (E : List (Int × Int)) (A B : Option Addr) (n c m d : Nat) (a b : Int) (w : World) (hm : m ≤ 1000000) (ht : Sl w 2 B m (Rk.cells E)) :
    Calls Tryz.prog 60 #[pv A n c B m d, .int .i64 a, .int .i64 b] w fun e w' => e = .returned (.bool (Ts.hasE E a b)) ∧ Below w.heap.size w w' := by
  obtain ⟨w0, hw0⟩ : ∃ W, W = w.alloc (.cells #[.slice A n c, .slice B m d] 30) := ⟨_, rfl⟩
  have HB0 := Lib.hid (show Below w.heap.size w w0 from by rw [hw0]; exact bel_al (Below.refl _ _) _)
  have HK := Lib.hid (show Blk w0 w.heap.size 30 #[.slice A n c, .slice B m d] from by rw [hw0]; exact Blk.new _ _ _)
  obtain ⟨⟨t1, t2⟩, htt⟩ : ∃ t, t = turnE (a, b) := ⟨_, rfl⟩
  have HTu := Lib.hid (show ∀ W, Below w0.heap.size w0 W → Calls Tryz.prog 57 #[.agg #[.int .i64 a, .int .i64 b]] W fun e w' => e = .returned (.agg #[.int .i64 t1, .int .i64 t2]) ∧ Below w0.heap.size w0 w' from fun W hW => (turned_any a b W).mono fun e w' h => ⟨by rw [h.1, ← htt]; rfl, hW.andThen h.2⟩)
  obtain ⟨r, hr⟩ : ∃ r, r = Ts.hasE E a b := ⟨_, rfl⟩
  have HCo := Lib.hid (show ∀ W, Below w0.heap.size w0 W → Calls Tryz.prog 85 #[.slice B m d, .agg #[.int .i64 t1, .int .i64 t2]] W fun e w' => e = .returned (.bool r) ∧ Below w0.heap.size w0 w' from fun W hW => (ContainsE_any E B m d t1 t2 W hm (ht.keep (HB0.out.andThen hW))).mono fun e w' h => ⟨by rw [h.1, hr]; unfold Ts.hasE; rw [← htt], hW.andThen h.2⟩)
  have HAll := Lib.hid (show ∀ W, Below w0.heap.size w0 W → W.cell? ⟨w.heap.size, 1, none⟩ = some (.slice B m d) from fun W hW => (HK.out.keep hW).cell 1)
  rw [← hr]
  clear ht htt hr
  go_enter Tryz.func60, Tryz.ntmps60
  go_upto_region 1 with (fail)
  rw [← hw0]
  clear hw0
  refine wp_region_qq (fun W => Below w0.heap.size w0 W) (by kernel_rfl) (by kernel_rfl) (bel_drewN (Below.refl _ _) 1) ?_
  repeat (
    first
      | (apply qq_want
         · rfl
         · intro W hW
           have zz := HAll.out W hW
           go_simp
           first
             | done
             | exact rfl
             | with_reducible exact HTu.out W hW
             | with_reducible exact HCo.out W hW)
      | (refine qq_pass ?_ ?_
         · rfl)
    try simp only [Act.put, List.setIfInBounds_toArray, List.set_cons_zero, List.set_cons_succ])
  refine qq_nil ?_
  intro wq hbq
  have HBq := Lib.hid (HB0.out.andThen hbq)
  clear hbq
  go_wp2_with fail
  go_ret
  exact ⟨rfl, HBq.out⟩
set_option maxHeartbeats 1000000 in
theorem Tri1_any (E : List (Int × Int)) (A B : Option Addr) (n c m d g : Nat) (p q : Int) (w : World) (hn : n ≤ 1000000) (hm : m ≤ 1000000) (ht : Sl w 2 B m (Rk.cells E)) (hK : Blk w g 30 #[.slice A n c, .slice B m d]) :
    Calls Tryz.prog 139 #[.agg #[.int .i64 p, .int .i64 q], .pointer (some ⟨g, 0, none⟩)] w fun e w' => e = .returned (.bool (Ts.triE n E (p, q))) ∧ Below w.heap.size w w' := by
  have HB0 := Lib.hid (bel_al (Below.refl w.heap.size w) (.cells #[.int .i64 p, .int .i64 q] 53))
  have HKe := Lib.hid (Blk.new w 53 #[.int .i64 p, .int .i64 q])
  have HK0 := Lib.hid (hK.alloc (.cells #[.int .i64 p, .int .i64 q] 53))
  have HH := Lib.hid (fun (a v : Int) (W : World) (hW : Below w.heap.size w W) => PatHas_any E A B n c m d a v W hm (ht.keep hW))
  have k0 := HK0.out.cell 0
  have hgl := hK.lt
  simp at k0
  clear ht hK
  go_enter Tryz.func139, Tryz.ntmps139
  go_wp2_with fail
  go_loopw [8] (fun i wr => ∃ k : Nat, k ≤ n ∧ i = .int .i64 (k : Int) ∧ Hid (∀ v, v < k → (Ts.hasE E p (v : Nat) && Ts.hasE E q (v : Nat)) = false) ∧ Hid (Below w.heap.size w wr) ∧ Hid (Blk wr w.heap.size 53 #[.int .i64 p, .int .i64 q]) ∧ Hid (Blk wr g 30 #[.slice A n c, .slice B m d])) (fun i _ => n - (intOf i).toNat)
  case atStart => exact ⟨0, Nat.zero_le _, rfl, Lib.hid (fun v hv => by omega), HB0, HKe, HK0⟩
  case round =>
    clear k0
    obtain ⟨k, hk, rfl, HD, HB, HKr, HKg⟩ := hrel
    have b0 := HKr.out.cell 0
    have b1 := HKr.out.cell 1
    have g0 := HKg.out.cell 0
    have g1 := HKg.out.cell 1
    simp at b0 b1 g0 g1
    by_cases hlt : k < n
    · have hlt' : (k : Int) < (n : Int) := by omega
      have H1 := Lib.hid (HH.out p (k : Int) wr HB.out)
      have H2 := Lib.hid (HH.out q (k : Int))
      obtain ⟨x, hx⟩ : ∃ x, x = Ts.hasE E p (k : Int) := ⟨_, rfl⟩
      obtain ⟨y, hy⟩ : ∃ y, y = Ts.hasE E q (k : Int) := ⟨_, rfl⟩
      rw [← hx] at H1
      rw [← hy] at H2
      have HT := Lib.hid (show (x && y) = true → Ts.triE n E (p, q) = true from fun h => by
        unfold Ts.triE
        exact List.any_eq_true.2 ⟨k, List.mem_range.2 hlt, by show (Ts.hasE E p (k : Int) && Ts.hasE E q (k : Int)) = true; rw [← hx, ← hy]; exact h⟩)
      have HF := Lib.hid (show (x && y) = false → ∀ v, v < k + 1 → (Ts.hasE E p (v : Nat) && Ts.hasE E q (v : Nat)) = false from fun h v hv => by
        rcases Nat.lt_or_ge v k with h1 | h1
        · exact HD.out v h1
        · obtain rfl : v = k := by omega
          rw [← hx, ← hy]; exact h)
      clear hx hy
      cases x with
      | false =>
        have HN := Lib.hid (HF.out rfl)
        go_wp2_with (go_at_call 60; refine H1.out.mono ?_; clear H1; rintro e w2 ⟨rfl, hb2⟩; have HB2 := Lib.hid (HB.out.andThen hb2); have HK2 := Lib.hid (HKr.out.keep hb2); have HG2 := Lib.hid (HKg.out.keep hb2); clear hb2)
        go_roundw
        case rel => exact ⟨k + 1, by omega, by go_num, HN, HB2, HK2, HG2⟩
        case measure => simp [intOf]; omega
      | true =>
        cases y with
        | false =>
          have HN := Lib.hid (HF.out rfl)
          go_wp2_with (first
            | (go_at_call 60; refine H1.out.mono ?_; clear H1; rintro e w2 ⟨rfl, hb2⟩; have HB2 := Lib.hid (HB.out.andThen hb2); have HK2 := Lib.hid (HKr.out.keep hb2); have HG2 := Lib.hid (HKg.out.keep hb2); have q0 := HK2.out.cell 0; have q1 := HK2.out.cell 1; have r0 := HG2.out.cell 0; have r1 := HG2.out.cell 1; simp at q0 q1 r0 r1; clear hb2)
            | (go_at_call 60; refine (H2.out _ HB2.out).mono ?_; clear H2; rintro e w3 ⟨rfl, hb3⟩; have HB3 := Lib.hid (HB2.out.andThen hb3); have HK3 := Lib.hid (HK2.out.keep hb3); have HG3 := Lib.hid (HG2.out.keep hb3); clear hb3))
          go_roundw
          case rel => exact ⟨k + 1, by omega, by go_num, HN, HB3, HK3, HG3⟩
          case measure => simp [intOf]; omega
        | true =>
          have HN := Lib.hid (HT.out rfl)
          go_wp2_with (first
            | (go_at_call 60; refine H1.out.mono ?_; clear H1; rintro e w2 ⟨rfl, hb2⟩; have HB2 := Lib.hid (HB.out.andThen hb2); have HK2 := Lib.hid (HKr.out.keep hb2); have HG2 := Lib.hid (HKg.out.keep hb2); have q0 := HK2.out.cell 0; have q1 := HK2.out.cell 1; have r0 := HG2.out.cell 0; have r1 := HG2.out.cell 1; simp at q0 q1 r0 r1; clear hb2)
            | (go_at_call 60; refine (H2.out _ HB2.out).mono ?_; clear H2; rintro e w3 ⟨rfl, hb3⟩; have HB3 := Lib.hid (HB2.out.andThen hb3); clear hb3))
          go_ret
          exact ⟨ret_bool HN.out.symm, HB3.out⟩
    · obtain rfl : k = n := by omega
      have hlt' : ¬ (k : Int) < (k : Int) := by omega
      have HN := Lib.hid (show Ts.triE k E (p, q) = false from by
        unfold Ts.triE
        rw [List.any_eq_false]
        intro v hv
        have := HD.out v (List.mem_range.1 hv)
        simp only
        rw [this]
        decide)
      go_wp2_with fail
      go_ret
      exact ⟨ret_bool HN.out.symm, HB.out⟩
end Go.Proofs.YtapledphhfiimaaGreatDoor
