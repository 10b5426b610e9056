/-
  Part 12 of the proof of LwProgParts: PicksG, SetsIter, SetsRef, SetsP, SetsOf.
-/
import Derived.RangeFuncNested
import Derived.RangeFuncBound
import Derived.RangeFuncCalls
import Derived.RangeFuncLeaves
import Derived.Shelf.Abstract
import Derived.Shelf.RegionOpen
import Derived.WalkKit
import Derived.OwnWalkIn
import Derived.TacticsInMore
import Derived.LoopNIn
import Derived.LoopIn
import Derived.Test.YtapledphhfiimaaGreatDoorLwProgPartsM11
import Derived.Test.YtapledphhfiimaaGreatDoorLwProgPartsM2
import Derived.Lib.SlicesCompact
import Derived.Shelf.Sort.Plain
import Derived.Shelf.Slices.In.SortNone
import Derived.Shelf.Slices.CompactI
import Derived.Sort.OwnSortedInts
import Derived.Lib.RowBridge
/-
  sets.Picks: the iterator's contract: its choices come one by one as the plain list says.
-/
namespace Go.Proofs.YtapledphhfiimaaGreatDoor
open Go.RowKit Go.Shelf
attribute [local go_sem] Oper.semAt_some
set_option maxRecDepth 100000
set_option linter.unusedVariables false

theorem room_none {F : Fence} (hd : F.depth = none) (k : Nat) : F.room k := fun d h => by rw [hd] at h; cases h
theorem roundIn_any {F : Fence} (hd : F.depth = none) {m m' : Nat} {P : Program} {l : Nat} {f : FuncId} {tmps : Array Value} {assign body : Code} {w : World} {R : Ending → World → Prop}
    (h : RoundIn F m P l f tmps assign body w R) : RoundIn F m' P l f tmps assign body w R := ⟨h.1, fun c cs _ => h.2 c cs (room_none hd _)⟩
theorem yieldAt_any {F : Fence} (hd : F.depth = none) {m : Nat} (m' : Nat) {P : Program} {l : Nat} {args : Array Value} {W : World} {R : Ending → World → Prop} (h : YieldAt F m P l args W R) : YieldAt F m' P l args W R := by
  obtain ⟨fn, tmps, assign, body, hy, hR⟩ := h
  exact ⟨fn, tmps, assign, body, hy, roundIn_any hd hR⟩

/-- What a round knows of the row that it is handed: a new one, the next of the list. -/
def Kn (n₁ : Nat) (G : List (List Int)) (pre : List Row) (x : Row) (W : World) : Prop :=
  W.ownsRow n₁ 3 1 (rv x) x.2.2.length (x.2.2.map (Value.int .i64)) ∧ G[pre.length]? = some x.2.2
/-- What a round is asked: where it may be called, and what it leaves. -/
def Asks (l : Nat) (Q : Nat → Prop) (n₁ N : Nat) (G : List (List Int)) (J Jx : List Row → World → Prop) : Prop :=
  ∀ (m : Nat) (pre : List Row) (x : Row) (W1 : World), J pre W1 → Kn n₁ G pre x W1 → pre.length < N → YieldAt Fence.wide m Tryz.prog l #[rv x] W1 fun e W' =>
    (e = .returned (.bool true) ∧ J (pre ++ [x]) W' ∧ Kq Q x W1 W') ∨ (e = .returned (.bool false) ∧ Jx (pre ++ [x]) W')

theorem choices_nat {S : List Int} {k : Nat} (h : k ≤ S.length) : choices S (k : Int) = combos k S := by
  unfold choices
  rw [if_pos (by omega)]
  rfl
theorem choices_none {S : List Int} {k : Int} (h : k < 0 ∨ (S.length : Int) < k) : choices S k = [] := by
  unfold choices
  rw [if_neg (by omega)]

/-! ### words for the laws' walks -/
theorem boxed_keep {W W' : World} {B : Nat} {t : TypeId} {v : Value} (h : Boxed W B t v) (hb : Below W.heap.size W W') : Boxed W' B t v := (hb.block B h.lt).trans h
theorem kn_put {n₁ : Nat} {G : List (List Int)} (pre : List Row) (x : Row) (W : World) (l : Nat) (o o' : Obj) (hl : W.heap[l]? = some o) (ho : o.isCells = false) (h : Kn n₁ G pre x W) : Kn n₁ G pre x (W.putObj l o') := ⟨ownsRow_putObj h.1 o' hl ho, h.2⟩
theorem ko_below {W W' : World} (hb : Below W.heap.size W W') : KeepsOthers W W' := ⟨hb.size, fun k o hk _ => (hb.block k (Array.getElem?_eq_some_iff.1 hk).1).trans hk⟩
theorem marks_end {F : Fence} {n : Nat} {P : Program} {fn : Func} {R : Ending → World → Prop} {a : Act} {w : World} {v : Value}
    (hd : a.defers = []) (hr : (results fn a.tmps).run P w = .ok v w) (hR : R (.returned v) w) : bodyPostM F n P fn R .ret a w := by
  show LeavesInM F n P fn a.tmps R a.defers .returning w
  rw [hd]
  exact ⟨v, hr, hR⟩
theorem marks_end1 {F : Fence} {n : Nat} {P : Program} {fn : Func} {R : Ending → World → Prop} {a : Act} {w : World} {v : Value} {D : Nat}
    (hd : a.defers = [{ target := .collected D, args := #[] }]) (hK : w.heap[D]? = some (.deferred (some []))) (hr : (results fn a.tmps).run P (w.putObj D (.deferred none)) = .ok v (w.putObj D (.deferred none))) (hR : R (.returned v) (w.putObj D (.deferred none))) : bodyPostM F n P fn R .ret a w := by
  show LeavesInM F n P fn a.tmps R a.defers .returning w
  rw [hd]
  refine ⟨by simp, .inl ⟨_, _, rfl, run_takeDeferred hK, ?_⟩⟩
  exact ⟨v, hr, hR⟩
end Go.Proofs.YtapledphhfiimaaGreatDoor
/-
  slices.Values, slices.AppendSeq, slices.Collect at ints: a list's numbers come one by one, and lie in a new row.
-/
namespace Go.Proofs.YtapledphhfiimaaGreatDoor
open Go.RowKit Go.Shelf
attribute [local go_sem] Oper.semAt_some
set_option maxRecDepth 100000
set_option linter.unusedVariables false

set_option maxHeartbeats 4000000 in
theorem values_gives (d n₀ : Nat) (hd : 1 ≤ d) (l : List Int) (A : Option Addr) (n c : Nat) (Bs : Nat) (w : World) (hsB : w.cell? ⟨Bs, 0, none⟩ = some (.slice A n c)) (hBs : Bs < w.heap.size)
    (hl : l.length = n) (hn : n ≤ 9223372036854775806) (hA : Sl w 1 A n (l.map (Value.int .i64))) (hAQ : 0 < n → ∀ x : Addr, A = some x → x.block < n₀) :
    GivesKnown Fence.wide d Tryz.prog 137 #[.pointer (some ⟨Bs, 0, none⟩)] (fun x : Int => #[.int .i64 x]) (fun pre x W => l[pre.length]? = some x) (fun _ => Kept (· < n₀)) (fun xs => xs = l) (fun _ => True) n w := by
  intro lp J Jx W hW hJ hJx hY h0
  have cs : W.cell? ⟨Bs, 0, none⟩ = some (.slice A n c) := (hW.cell (p := ⟨Bs, 0, none⟩) hBs).trans hsB
  have hsl := hA.keep hW
  clear hW hsB hJ hJx hA
  have HY := Lib.hid hY
  have HS := Lib.hid hsl
  have HQ := Lib.hid hAQ
  have H0 := Lib.hid h0
  have HL := Lib.hid hl
  clear hY hsl hAQ h0 hl
  refine callsIn_of_wp Tryz.func137 rfl trivial ?_ rfl
  simp only [Tryz.ntmps137, List.size_toArray, List.length_cons, List.length_nil, Nat.reduceAdd, Nat.reduceSub, Array.replicate_succ, Array.replicate_zero, List.push_toArray, List.append_toArray, List.nil_append, List.cons_append]
  gi_wp2
  gi_loopw [7] (fun i wr => ∃ k : Nat, k ≤ n ∧ i = .int .i64 k ∧ J (l.take k) wr ∧ Kept (· < n₀) W wr) (fun i _ => n - (intOf i).toNat)
  case atStart => exact ⟨0, Nat.zero_le _, rfl, H0.out, Kept.refl _ _⟩
  case round =>
    obtain ⟨k, hk, rfl, hJs, hkp⟩ := hrel
    have HJs := Lib.hid hJs
    have HK := Lib.hid hkp
    clear hJs hkp
    by_cases hlt : k < n
    · have hlt' : (k : Int) < (n : Int) := by omega
      have hlen : (l.take k).length = k := by rw [List.length_take, HL.out]; omega
      obtain ⟨x, hx⟩ : ∃ x, l[k]? = some x := ⟨_, List.getElem?_eq_getElem (by rw [HL.out]; exact hlt)⟩
      have hT : l.take (k + 1) = l.take k ++ [x] := by
        obtain ⟨h1, h2⟩ := List.getElem?_eq_some_iff.1 hx
        rw [List.take_succ_eq_append_getElem h1, h2]
      obtain ⟨bb, off, rfl, _⟩ := HS.out.at_ (show 0 < n by omega)
      have hsq : Sq (· < n₀) W (some ⟨bb, off, none⟩) n (l.map (Value.int .i64)) := ⟨HS.out, fun y hy => HQ.out (by omega) y hy⟩
      have c1 := (hsq.keep HK.out).1.again hlt (show (l.map (Value.int .i64))[k]? = some (.int .i64 x) by rw [List.getElem?_map, hx]; rfl)
      obtain ⟨fn, tmps, assign, body, hy, hR⟩ := HY.out (l.take k) x wr HJs.out (by rw [hlen]; exact hx) (by rw [hlen]; exact hlt)
      rw [← hT] at hR
      have HR := Lib.hid hR
      have HT := Lib.hid hT
      clear hR hT hx hlen hsq
      gi_wp2_with (refine HR.out.mono ?_; clear HR; rintro e W3 (⟨rfl, hJ3, hk3⟩ | ⟨rfl, hJx3⟩))
      · go_roundw
        case rel => exact ⟨k + 1, by omega, by go_num, hJ3, HK.out.trans hk3⟩
        case measure => simp [intOf]; omega
      · refine bodyPost_ret (results_none rfl _ _ _) rfl ?_
        exact ⟨⟨_, rfl⟩, .inr ⟨_, trivial, hJx3⟩⟩
    · obtain rfl : k = n := by omega
      have hlt' : ¬ (k : Int) < (k : Int) := by omega
      have HE := Lib.hid (show l.take k = l from List.take_of_length_le (by rw [HL.out]; exact Nat.le_refl _))
      gi_wp2
      go_end0
      exact ⟨⟨_, rfl⟩, .inl (by have h := HJs.out; rw [HE.out] at h; first | exact h | exact ⟨_, rfl, h⟩)⟩

theorem Values_any (A : Option Addr) (n c : Nat) (w : World) : Calls Tryz.prog 101 #[.slice A n c] w fun e w' => e = .returned (.func (.func 137) #[] #[.pointer (some ⟨w.heap.size, 0, none⟩)]) ∧ w' = w.alloc (.cells #[.slice A n c] 23) := by
  go_enter Tryz.func101, Tryz.ntmps101
  go_wp2_with fail
  go_ret
  exact ⟨rfl, rfl⟩

set_option maxHeartbeats 4000000 in
theorem AppendSeq_any (l : List Int) (A : Option Addr) (n c : Nat) (Bs : Nat) (w : World) (hsB : w.cell? ⟨Bs, 0, none⟩ = some (.slice A n c)) (hBs : Bs < w.heap.size)
    (hl : l.length = n) (hn : n ≤ 1048576) (hA : Sl w 1 A n (l.map (Value.int .i64))) (hAQ : 0 < n → ∀ x : Addr, A = some x → x.block < w.heap.size) :
    Calls Tryz.prog 161 #[.slice none 0 0, .func (.func 137) #[] #[.pointer (some ⟨Bs, 0, none⟩)]] w fun e w' => ∃ v, e = .returned v ∧ w'.ownsRow w.heap.size 3 1 v n (l.map (Value.int .i64)) ∧ Below w.heap.size w w' := by
  refine (callsIn_wide (n := 5)).1 ?_
  refine callsIn_of_wp_marks Tryz.func161 rfl trivial ?_ rfl
  simp only [Tryz.ntmps161, List.size_toArray, List.length_cons, List.length_nil, Nat.reduceAdd, Nat.reduceSub, Array.replicate_succ, Array.replicate_zero, List.push_toArray, List.append_toArray, List.nil_append, List.cons_append]
  gi_wp2
  have hw1 : (w.alloc (.cells #[.slice none 0 0] 23)).heap.size = w.heap.size + 1 := by simp
  have hb1 := bel_al (Below.refl w.heap.size w) (.cells #[.slice none 0 0] 23)
  have hgv := values_gives (5 - 1) w.heap.size (by omega) l A n c Bs _ ((hb1.cell (p := ⟨Bs, 0, none⟩) hBs).trans hsB) (by rw [hw1]; omega) hl (by omega) (hA.keep hb1) hAQ
  obtain ⟨i0, hi, hz0, hz1, hz2⟩ := info_parts elemInt.hi
  refine rangeFunc_one (fun x b => { b with tmps := b.tmps.setIfInBounds 5 (.int .i64 x) }) rfl (by omega) (gf := 137) (lb := #[.pointer (some ⟨Bs, 0, none⟩)]) rfl trivial (enters_of Tryz.func137 (by kernel_rfl) rfl)
    hgv (fun pre x W l o o' hl ho h => h) Kept.trans (fun _ W l o o' _ hl ho _ => Kept.putObj o' hl ho) (Below.refl _ _)
    (fun pre W => (∃ v, Boxed W w.heap.size 23 v ∧ W.ownsRow w.heap.size 3 1 v pre.length (pre.map (Value.int .i64)) ∧ True) ∧ Below w.heap.size w W) (fun _ _ _ => False)
    (OwnFrom.and (Own.from (holdsRow_own w.heap.size w.heap.size 23 3 1 (fun pre : List Int => pre.length) (fun pre => pre.map (Value.int .i64)) (fun _ _ => True)) _) (ownFrom_below (Nat.le_refl _) (by rw [hw1]; omega)))
    (fun c s A B row hs _ _ => hs.elim) ⟨⟨_, Boxed.new _ _ _, World.ownsRow_nil _ _ _ _, trivial⟩, hb1⟩ ?assign ?body ?done ?stop
  case assign =>
    intro l x W K hK
    gi_wp2
    exact hK
  case body =>
    rintro lp pre x W ⟨⟨v, hv, hrow, _⟩, hB⟩ hx hlt
    have hc := hv.cell
    have HV := Lib.hid hv
    have HR := Lib.hid hrow
    have HB := Lib.hid hB
    clear hv hrow hB hgv
    gi_wp2_with (gi_at_builtin; refine wpListIn_append_own _ rfl _ _ 23 rfl w.heap.size 3 i0 (.int .i64 0) 1 8 Tryz.underlying23 hi hz0 hz1 hz2 rfl (by decide) _ _ _ rfl (HR.out.alloc _) ⟨W.heap.size, 0, none⟩ 1 1 [.int .i64 x] rfl rfl (cell_one_new _ _ _) (by simp [Value.oneCell']) (by unfold maxLen; omega) (by omega) (by have := HB.out.size; simp; omega) ?_; intro v' w1 hown' hgrow _; obtain ⟨g', cap', rfl⟩ := ownsRow_succ hown'; obtain ⟨hv1, hv2, hr2, hk2, hb2⟩ := HV.out.appended (by decide) HR.out HB.out.size (Nat.le_refl _) hown' hgrow; have hc1 := hv1.cell; have hf1 := hv1.frozen)
    refine ⟨hk2, ⟨hb2.size, fun k o hk ho _ => (hb2.block k hk).trans ho⟩, ⟨_, hv2, ?_, trivial⟩, HB.out.trans hb2⟩
    rw [List.length_append, List.map_append]
    exact hr2
  case done =>
    rintro D xs W hD rfl ⟨⟨v, hv, hrow, _⟩, hB⟩ hK
    have hc := hv.cell
    rw [hw1] at hD
    gi_wp2
    refine ⟨by simp, .inl ⟨_, _, rfl, run_takeDeferred hK, ?_⟩⟩
    refine ⟨_, results_tmp rfl _ _ _, _, rfl, ?_, hB.trans (belowK_b (w := w) (Nat.le_refl _) W D _ _ (by omega) hK rfl rfl)⟩
    rw [hl] at hrow
    exact ownsRow_putObj hrow _ hK rfl
  case stop =>
    rintro D c pre W _ _ h _
    exact h.elim

theorem Collect_any (l : List Int) (A : Option Addr) (n c : Nat) (Bs : Nat) (w : World) (hsB : w.cell? ⟨Bs, 0, none⟩ = some (.slice A n c)) (hBs : Bs < w.heap.size)
    (hl : l.length = n) (hn : n ≤ 1048576) (hA : Sl w 1 A n (l.map (Value.int .i64))) (hAQ : 0 < n → ∀ x : Addr, A = some x → x.block < w.heap.size) :
    Calls Tryz.prog 135 #[.func (.func 137) #[] #[.pointer (some ⟨Bs, 0, none⟩)]] w fun e w' => ∃ v, e = .returned v ∧ w'.ownsRow w.heap.size 3 1 v n (l.map (Value.int .i64)) ∧ Below w.heap.size w w' := by
  have HC := Lib.hid (AppendSeq_any l A n c Bs w hsB hBs hl hn hA hAQ)
  clear hsB hBs hl hn hA hAQ
  go_enter Tryz.func135, Tryz.ntmps135
  go_wp2_with fail
  refine HC.out.mono ?_
  rintro e w' ⟨v, rfl, hown, hb⟩
  have HO := Lib.hid hown
  have HB := Lib.hid hb
  clear hown hb
  go_wp2_with fail
  go_ret
  exact ⟨v, rfl, HO.out, HB.out⟩
end Go.Proofs.YtapledphhfiimaaGreatDoor
/-
  The document's sets: Has, Add, Of.
-/
namespace Go.Proofs.YtapledphhfiimaaGreatDoor
open Go.RowKit
set_option maxRecDepth 100000

theorem one_ints (l : List Int) : ∀ u ∈ l.map (Value.int .i64), u.oneCell' = true := by
  intro u hu
  obtain ⟨x, _, rfl⟩ := List.mem_map.1 hu
  rfl
/-- Where a number stands among rising ones. -/
def rise (x : Int) : List Int → Nat
  | [] => 0
  | y :: l => if y < x then rise x l + 1 else 0
/-- With a number. -/
def addL (l : List Int) (x : Int) : List Int := if x ∈ l then l else l.take (rise x l) ++ [x] ++ l.drop (rise x l)
def setL (l : List Int) : List Int := l.foldl addL []
theorem rise_le (x : Int) : ∀ l : List Int, rise x l ≤ l.length
  | [] => Nat.le_refl _
  | y :: l => by rw [rise]; split; have := rise_le x l; simp; omega; exact Nat.zero_le _
theorem rise_all (x : Int) : ∀ (l : List Int) (k : Nat), k < rise x l → ∃ y, l[k]? = some y ∧ y < x
  | y :: l, 0, h => by
    rw [rise] at h
    split at h
    · exact ⟨y, rfl, ‹_›⟩
    · omega
  | y :: l, k + 1, h => by
    rw [rise] at h
    split at h
    · exact rise_all x l k (by omega)
    · omega
  | [], k, h => by simp [rise] at h
theorem rise_at (x : Int) : ∀ (l : List Int), rise x l < l.length → ∃ y, l[rise x l]? = some y ∧ ¬ y < x
  | [], h => by simp at h
  | y :: l, h => by
    rw [rise] at h ⊢
    split
    · rw [if_pos ‹_›] at h
      exact rise_at x l (by simpa using h)
    · exact ⟨y, rfl, ‹_›⟩

theorem addL_len (l : List Int) (x : Int) : (addL l x).length ≤ l.length + 1 := by
  unfold addL
  split
  · omega
  · have := rise_le x l
    simp
    omega
theorem addL_mem (l : List Int) (x y : Int) : y ∈ addL l x ↔ y ∈ l ∨ y = x := by
  unfold addL
  split
  · constructor
    · exact .inl
    · rintro (h | rfl)
      · exact h
      · assumption
  · have : y ∈ l ↔ y ∈ l.take (rise x l) ∨ y ∈ l.drop (rise x l) := by rw [← List.mem_append, List.take_append_drop]
    simp only [List.mem_append, List.mem_singleton, this]
    constructor
    · rintro ((h | h) | h) <;> simp [h]
    · rintro ((h | h) | h) <;> simp [h]
theorem rise_cut (x : Int) : ∀ l : List Int, (∀ y ∈ l.take (rise x l), y < x) ∧ (l.Pairwise (· < ·) → ∀ y ∈ l.drop (rise x l), ¬ y < x)
  | [] => by simp
  | z :: l => by
    have ih := rise_cut x l
    by_cases h : z < x
    · rw [rise, if_pos h, List.take_succ_cons, List.drop_succ_cons]
      exact ⟨fun y hy => by rcases List.mem_cons.1 hy with rfl | hy; exact h; exact ih.1 y hy, fun hp => ih.2 (List.pairwise_cons.1 hp).2⟩
    · rw [rise, if_neg h, List.take_zero, List.drop_zero]
      refine ⟨by simp, fun hp y hy => ?_⟩
      rcases List.mem_cons.1 hy with rfl | hy
      · exact h
      · have := (List.pairwise_cons.1 hp).1 y hy
        omega
theorem addL_inc (l : List Int) (x : Int) (h : l.Pairwise (· < ·)) : (addL l x).Pairwise (· < ·) := by
  unfold addL
  split
  · exact h
  · rename_i hm
    have hc := rise_cut x l
    have hd := hc.2 h
    have h' : (l.take (rise x l) ++ l.drop (rise x l)).Pairwise (· < ·) := by rw [List.take_append_drop]; exact h
    rw [List.pairwise_append] at h'
    rw [List.append_assoc, List.pairwise_append]
    refine ⟨h'.1, ?_, ?_⟩
    · rw [List.singleton_append, List.pairwise_cons]
      refine ⟨fun y hy => ?_, h'.2.1⟩
      have h1 := hd y hy
      have h2 : y ≠ x := fun e => hm (e ▸ List.mem_of_mem_drop hy)
      omega
    · intro a ha b hb
      rw [List.singleton_append] at hb
      rcases List.mem_cons.1 hb with rfl | hb
      · exact hc.1 a ha
      · exact h'.2.2 a ha b hb
theorem setL_snoc (l : List Int) (x : Int) : setL (l ++ [x]) = addL (setL l) x := by unfold setL; rw [List.foldl_append]; rfl
theorem foldl_inc : ∀ (l out : List Int), out.Pairwise (· < ·) → (l.foldl addL out).Pairwise (· < ·) ∧ ∀ y, y ∈ l.foldl addL out ↔ y ∈ out ∨ y ∈ l
  | [], out, h => ⟨h, by simp⟩
  | x :: l, out, h => by
    obtain ⟨h1, h2⟩ := foldl_inc l (addL out x) (addL_inc out x h)
    refine ⟨h1, fun y => ?_⟩
    rw [List.foldl_cons, h2, addL_mem, List.mem_cons, or_assoc]
theorem setL_inc (l : List Int) : (setL l).Pairwise (· < ·) := (foldl_inc l [] List.Pairwise.nil).1
theorem setL_mem (l : List Int) (y : Int) : y ∈ setL l ↔ y ∈ l := by have := (foldl_inc l [] List.Pairwise.nil).2 y; simpa [setL] using this
theorem setL_len : ∀ (l out : List Int), (l.foldl addL out).length ≤ out.length + l.length
  | [], _ => Nat.le_refl _
  | x :: l, out => by
    rw [List.foldl_cons]
    have := setL_len l (addL out x)
    have := addL_len out x
    simp
    omega
theorem inc_ext : ∀ {a b : List Int}, a.Pairwise (· < ·) → b.Pairwise (· < ·) → (∀ y, y ∈ a ↔ y ∈ b) → a = b
  | [], [], _, _, _ => rfl
  | [], y :: b, _, _, h => by have := (h y).2 (List.mem_cons_self ..); simp at this
  | x :: a, [], _, _, h => by have := (h x).1 (List.mem_cons_self ..); simp at this
  | x :: a, y :: b, ha, hb, h => by
    obtain ⟨ha1, ha2⟩ := List.pairwise_cons.1 ha
    obtain ⟨hb1, hb2⟩ := List.pairwise_cons.1 hb
    have hxy : x = y := by
      rcases List.mem_cons.1 ((h x).1 (List.mem_cons_self ..)) with e | e
      · exact e
      · rcases List.mem_cons.1 ((h y).2 (List.mem_cons_self ..)) with e' | e'
        · exact e'.symm
        · have := hb1 x e; have := ha1 y e'; omega
    subst hxy
    rw [inc_ext ha2 hb2 (fun z => ?_)]
    constructor
    · intro hz
      rcases List.mem_cons.1 ((h z).1 (List.mem_cons_of_mem _ hz)) with e | e
      · have := ha1 z hz; omega
      · exact e
    · intro hz
      rcases List.mem_cons.1 ((h z).2 (List.mem_cons_of_mem _ hz)) with e | e
      · have := hb1 z hz; omega
      · exact e
theorem setL_same {a b : List Int} (h : ∀ y, y ∈ a ↔ y ∈ b) : setL a = setL b := inc_ext (setL_inc a) (setL_inc b) (fun y => by rw [setL_mem, setL_mem]; exact h y)

end Go.Proofs.YtapledphhfiimaaGreatDoor
/-
  Sets of numbers, plainly: the sorted list without its doubles is the document's set.
-/
namespace Go.Proofs.YtapledphhfiimaaGreatDoor
open Go.Lib
set_option linter.unusedVariables false

theorem compact_upto (zs : List Int) (hs : zs.Pairwise (· ≤ ·)) : ∀ m, m ≤ zs.length → (compactUpTo zs.toArray m).Pairwise (· < ·) ∧ ∀ y, y ∈ compactUpTo zs.toArray m ↔ y ∈ zs.take m
  | 0, _ => ⟨by simp [compactUpTo], by simp [compactUpTo]⟩
  | m + 1, h => by
    obtain ⟨ih1, ih2⟩ := compact_upto zs hs m (by omega)
    have hm : m < zs.length := by omega
    have hd : ∀ j, j < zs.length → zs.toArray[j]! = zs.getD j 0 := fun j hj => by
      rw [getElem!_pos _ _ (by simpa using hj)]
      simp [List.getD_eq_getElem?_getD, List.getElem?_eq_getElem hj]
    have hT := List.take_succ_eq_append_getElem hm
    have hg : zs.getD m 0 = zs[m] := by simp [List.getD_eq_getElem?_getD, List.getElem?_eq_getElem hm]
    rw [compactUpTo_succ, hT]
    by_cases hk : keeps zs.toArray m = true
    · rw [if_pos hk, hd m hm, hg]
      refine ⟨List.pairwise_append.2 ⟨ih1, List.pairwise_singleton _ _, fun a ha b hb => ?_⟩, fun y => ?_⟩
      · obtain rfl : b = zs[m] := by simpa using hb
        have ha' := (ih2 a).1 ha
        unfold keeps at hk
        have hk' := of_decide_eq_true hk
        obtain ⟨i, hi, rfl⟩ := List.getElem_of_mem ha'
        rw [List.length_take] at hi
        have him : i < m := by omega
        rw [List.getElem_take]
        rcases hk' with h0 | hne
        · omega
        · have h1 : zs[m - 1]'(by omega) ≤ zs[m] := (List.pairwise_iff_getElem.1 hs) (m - 1) m (by omega) hm (by omega)
          have h2 : zs[i]'(by omega) ≤ zs[m - 1]'(by omega) := by
            by_cases e : i = m - 1
            · subst e; exact Int.le_refl _
            · exact (List.pairwise_iff_getElem.1 hs) i (m - 1) (by omega) (by omega) (by omega)
          rw [hd m hm, hd (m - 1) (by omega), hg] at hne
          have hg2 : zs.getD (m - 1) 0 = zs[m - 1]'(by omega) := by simp [List.getD_eq_getElem?_getD, List.getElem?_eq_getElem (show m - 1 < zs.length by omega)]
          rw [hg2] at hne
          have : zs[m - 1]'(by omega) < zs[m] := by omega
          omega
      · rw [List.mem_append, List.mem_append, ih2]
    · rw [if_neg hk, List.append_nil]
      refine ⟨ih1, fun y => ?_⟩
      rw [ih2, List.mem_append]
      refine ⟨.inl, fun h => h.elim id fun h => ?_⟩
      obtain rfl : y = zs[m] := by simpa using h
      unfold keeps at hk
      have hk' := of_decide_eq_false (Bool.eq_false_iff.2 hk)
      have h0 : ¬ m = 0 := fun e => hk' (.inl e)
      have h1 : zs.toArray[m]! = zs.toArray[m - 1]! := Classical.not_not.1 fun e => hk' (.inr e)
      rw [hd m hm, hd (m - 1) (by omega), hg] at h1
      rw [h1, List.getD_eq_getElem?_getD, List.getElem?_eq_getElem (show m - 1 < zs.length by omega)]
      exact List.mem_take_iff_getElem.2 ⟨m - 1, by omega, rfl⟩

theorem compact_sorted (l : List Int) : compact (l.mergeSort fun x y => decide (x ≤ y)) = setL l := by
  have hs : (l.mergeSort fun x y => decide (x ≤ y)).Pairwise (· ≤ ·) := by
    have := List.pairwise_mergeSort (le := fun (x y : Int) => decide (x ≤ y)) (fun a b c h1 h2 => by simp at *; omega) (fun a b => by simp; omega) l
    exact this.imp fun h => by simpa using h
  obtain ⟨h1, h2⟩ := compact_upto _ hs _ (Nat.le_refl _)
  refine inc_ext h1 (setL_inc l) (fun y => ?_)
  refine Iff.trans (h2 y) ?_
  rw [List.take_of_length_le (Nat.le_refl _), setL_mem]
  exact (List.mergeSort_perm l _).mem_iff
theorem setL_le (l : List Int) : (setL l).length ≤ l.length := by have := setL_len l []; simpa [setL] using this
end Go.Proofs.YtapledphhfiimaaGreatDoor
/-
  slices.Sorted, slices.Compact, sets.Of.
-/
namespace Go.Proofs.YtapledphhfiimaaGreatDoor
open Go.RowKit Go.Shelf
set_option maxRecDepth 100000
set_option linter.unusedVariables false

def sort_ren : Go.Shelf.Ren := ⟨fun | 125 => 83 | 128 => 120 | 129 => 121 | 189 => 136 | 215 => 86 | 216 => 186 | 257 => 162 | 294 => 180 | 295 => 181 | 296 => 182 | 297 => 183 | 298 => 184 | 299 => 185 | 300 => 187 | 301 => 188 | 328 => 196 | 329 => 143 | 330 => 144 | 331 => 197 | 332 => 198 | 343 => 201 | n => n, fun | 0 => 0 | 3 => 3 | 4 => 4 | 5 => 5 | 9 => 9 | 28 => 23 | 46 => 134 | 51 => 171 | 53 => 173 | 131 => 125 | 182 => 164 | 183 => 165 | 218 => 195 | 222 => 158 | 228 => 228 | 229 => 84 | n => n, fun | n => n⟩
theorem sort_lays : Go.Proofs.Lays.n189 Tryz.prog sort_ren := {
  mixed := by kernel_rfl
  f125 := Tryz.func83.trans (congrArg some (by kernel_rfl))
  f128 := Tryz.func120.trans (congrArg some (by kernel_rfl))
  f129 := Tryz.func121.trans (congrArg some (by kernel_rfl))
  f189 := Tryz.func136.trans (congrArg some (by kernel_rfl))
  f215 := Tryz.func86.trans (congrArg some (by kernel_rfl))
  f216 := Tryz.func186.trans (congrArg some (by kernel_rfl))
  f257 := Tryz.func162.trans (congrArg some (by kernel_rfl))
  f294 := Tryz.func180.trans (congrArg some (by kernel_rfl))
  f295 := Tryz.func181.trans (congrArg some (by kernel_rfl))
  f296 := Tryz.func182.trans (congrArg some (by kernel_rfl))
  f297 := Tryz.func183.trans (congrArg some (by kernel_rfl))
  f298 := Tryz.func184.trans (congrArg some (by kernel_rfl))
  f299 := Tryz.func185.trans (congrArg some (by kernel_rfl))
  f300 := Tryz.func187.trans (congrArg some (by kernel_rfl))
  f301 := Tryz.func188.trans (congrArg some (by kernel_rfl))
  f328 := Tryz.func196.trans (congrArg some (by kernel_rfl))
  f329 := Tryz.func143.trans (congrArg some (by kernel_rfl))
  f330 := Tryz.func144.trans (congrArg some (by kernel_rfl))
  f331 := Tryz.func197.trans (congrArg some (by kernel_rfl))
  f332 := Tryz.func198.trans (congrArg some (by kernel_rfl))
  f343 := Tryz.func201.trans (congrArg some (by kernel_rfl))
  t0 := Tryz.underlying0
  a0 := Tryz.isAgg0
  z0 := Tryz.sizeOf0
  v0 := Tryz.zeroValue0
  t3 := Tryz.underlying3
  a3 := Tryz.isAgg3
  z3 := Tryz.sizeOf3
  v3 := Tryz.zeroValue3
  t4 := Tryz.underlying4
  a4 := Tryz.isAgg4
  z4 := Tryz.sizeOf4
  v4 := Tryz.zeroValue4
  t5 := Tryz.underlying5
  a5 := Tryz.isAgg5
  z5 := Tryz.sizeOf5
  v5 := Tryz.zeroValue5
  t9 := Tryz.underlying9
  a9 := Tryz.isAgg9
  z9 := Tryz.sizeOf9
  v9 := Tryz.zeroValue9
  t28 := Tryz.underlying23
  a28 := Tryz.isAgg23
  z28 := Tryz.sizeOf23
  v28 := Tryz.zeroValue23
  t46 := Tryz.underlying134
  a46 := Tryz.isAgg134
  z46 := Tryz.sizeOf134
  v46 := Tryz.zeroValue134
  t51 := Tryz.underlying171
  a51 := Tryz.isAgg171
  z51 := Tryz.sizeOf171
  v51 := Tryz.zeroValue171
  t53 := Tryz.underlying173
  a53 := Tryz.isAgg173
  z53 := Tryz.sizeOf173
  v53 := Tryz.zeroValue173
  t131 := Tryz.underlying125
  a131 := Tryz.isAgg125
  z131 := Tryz.sizeOf125
  v131 := Tryz.zeroValue125
  t182 := Tryz.underlying164
  a182 := Tryz.isAgg164
  z182 := Tryz.sizeOf164
  v182 := Tryz.zeroValue164
  t183 := Tryz.underlying165
  a183 := Tryz.isAgg165
  z183 := Tryz.sizeOf165
  v183 := Tryz.zeroValue165
  t218 := Tryz.underlying195
  a218 := Tryz.isAgg195
  z218 := Tryz.sizeOf195
  v218 := Tryz.zeroValue195
  t222 := Tryz.underlying158
  a222 := Tryz.isAgg158
  z222 := Tryz.sizeOf158
  v222 := Tryz.zeroValue158
  t228 := Tryz.underlying228
  a228 := Tryz.isAgg228
  z228 := Tryz.sizeOf228
  v228 := Tryz.zeroValue228
  t229 := Tryz.underlying84
  a229 := Tryz.isAgg84
  z229 := Tryz.sizeOf84
  v229 := Tryz.zeroValue84 }

def comp_ren : Go.Shelf.Ren := ⟨fun | 20 => 99 | n => n, fun | 0 => 0 | 3 => 3 | 4 => 4 | 22 => 23 | n => n, fun | n => n⟩
theorem comp_lays : Go.Proofs.Lays2.n20 Tryz.prog comp_ren := {
  mixed := by kernel_rfl
  f20 := Tryz.func99.trans (congrArg some (by kernel_rfl))
  t0 := Tryz.underlying0
  a0 := Tryz.isAgg0
  z0 := Tryz.sizeOf0
  v0 := Tryz.zeroValue0
  t3 := Tryz.underlying3
  a3 := Tryz.isAgg3
  z3 := Tryz.sizeOf3
  v3 := Tryz.zeroValue3
  t4 := Tryz.underlying4
  a4 := Tryz.isAgg4
  z4 := Tryz.sizeOf4
  v4 := Tryz.zeroValue4
  t22 := Tryz.underlying23
  a22 := Tryz.isAgg23
  z22 := Tryz.sizeOf23
  v22 := Tryz.zeroValue23
  i3 := by kernel_rfl }

/-- The head of an own row. -/
theorem own_head {w : World} {B g n k c : Nat} {e : TypeId} {xs : List Value} (h : w.ownsRow B e 1 (.slice (some ⟨g, 0, none⟩) n c) n xs) (hk : k ≤ n) : w.ownsRow B e 1 (.slice (some ⟨g, 0, none⟩) k c) k (xs.take k) := by
  rcases h.2 with ⟨h0, _⟩ | ⟨g', cap', cur, hv, hg, hgb, hn, hcap, hsz, ht⟩
  · cases h0
  cases hv
  have hx := h.1
  refine ⟨by rw [List.length_take]; omega, .inr ⟨g, c, cur, rfl, hg, hgb, by omega, hcap, hsz, ?_⟩⟩
  rw [Nat.mul_one] at ht ⊢
  rw [← ht, List.take_take, Nat.min_eq_left hk]

set_option maxHeartbeats 2000000 in
theorem Sorted_any (l : List Int) (A : Option Addr) (n c : Nat) (Bs : Nat) (w : World) (hsB : w.cell? ⟨Bs, 0, none⟩ = some (.slice A n c)) (hBs : Bs < w.heap.size)
    (hl : l.length = n) (hn : n ≤ 1048576) (hA : Sl w 1 A n (l.map (Value.int .i64))) (hAQ : 0 < n → ∀ x : Addr, A = some x → x.block < w.heap.size) :
    Calls Tryz.prog 100 #[.func (.func 137) #[] #[.pointer (some ⟨Bs, 0, none⟩)]] w fun e w' => ∃ v, e = .returned v ∧ w'.ownsRow w.heap.size 3 1 v n ((l.mergeSort fun x y => decide (x ≤ y)).map (Value.int .i64)) ∧ Below w.heap.size w w' := by
  have HC := Lib.hid (Collect_any l A n c Bs w hsB hBs hl hn hA hAQ)
  clear hsB hBs hA hAQ
  go_enter Tryz.func100, Tryz.ntmps100
  go_wp2_with fail
  refine HC.out.mono ?_
  rintro e W ⟨v, rfl, hrow, hb⟩
  have hlm : (l.mergeSort fun x y => decide (x ≤ y)).length = l.length := List.length_mergeSort _
  rcases hrow.2 with ⟨rfl, hz⟩ | ⟨gb, cap, cur, rfl, hbase, hgb, r1, r2, r3, r4⟩
  · subst hz
    have hle : l = [] := List.eq_nil_of_length_eq_zero hl
    have HO := Lib.hid hrow
    have HB := Lib.hid hb
    have HS := Lib.hid (Go.Proofs.Any.slices_Sort_int_none sort_lays none 0 W)
    clear hrow hb HC
    go_wp2_with fail
    refine HS.out.mono ?_
    rintro e w' ⟨rfl, rfl⟩
    go_wp2_with fail
    go_ret
    refine ⟨_, rfl, ?_, HB.out⟩
    rw [hle, List.mergeSort_nil]
    exact World.ownsRow_nil _ _ _ _
  · have hH : Go.Sort.Holds (Value.int .i64) W gb 0 l.toArray := holds_of_blockI hgb (by rw [hl]; simpa using r4)
    have hgl : gb < W.heap.size := (Array.getElem?_eq_some_iff.1 hgb).1
    have hs := Go.Proofs.Any.slices_Sort_int sort_lays gb 0 cap l W hH hgl (by omega)
    rw [hl] at hs
    have HS := Lib.hid hs
    have HO := Lib.hid (fun (nn : Nat) (os : Array Obj) => ownsRow_sortedI (n := nn) (os := os) (ss := l) (ts := l.mergeSort fun x y => decide (x ≤ y)) hlm hbase hgb (by omega) r2 r3)
    have HB := Lib.hid hb
    have HH := Lib.hid hbase
    clear hs hH hrow hb HC hgb r1 r2 r3 r4 hgl hbase
    go_wp2_with fail
    refine HS.out.mono ?_
    rintro e w' ⟨rfl, nn, os, hw'⟩
    have HW := Lib.hid hw'
    clear hw'
    go_wp2_with fail
    go_ret
    have ho := HO.out nn os
    rw [hl] at ho
    rw [HW.out]
    exact ⟨_, rfl, ho, HB.out.grown (grownBy_sortedI _) HB.out.size (fun j hj => by cases hj; exact HH.out)⟩

set_option maxHeartbeats 2000000 in
theorem CompactI_any (l : List Int) (v : Value) (n B : Nat) (w : World) (hl : l.length = n) (hn : n ≤ 1048576) (hrow : w.ownsRow B 3 1 v n (l.map (Value.int .i64))) (hB : B ≤ w.heap.size) :
    Calls Tryz.prog 99 #[v] w fun e w' => ∃ v', e = .returned v' ∧ w'.ownsRow B 3 1 v' (Go.Lib.compact l).length ((Go.Lib.compact l).map (Value.int .i64)) ∧ Below B w w' := by
  rcases hrow.2 with ⟨rfl, hz⟩ | ⟨gb, cap, cur, rfl, hbase, hgb, r1, r2, r3, r4⟩
  · subst hz
    have hle : l = [] := List.eq_nil_of_length_eq_zero hl
    subst hle
    refine (Go.Proofs.Any.slices_Compact_int_empty comp_lays none 0 w).mono ?_
    rintro e w' ⟨rfl, rfl⟩
    exact ⟨_, rfl, World.ownsRow_nil _ _ _ _, Below.refl _ _⟩
  · have hH : Go.Sort.Holds (Value.int .i64) w gb 0 l.toArray := holds_of_blockI hgb (by rw [hl]; simpa using r4)
    have hs := Go.Proofs.Any.slices_Compact_int comp_lays gb 0 cap l w hH (by omega) (by omega)
    rw [hl] at hs
    refine hs.mono ?_
    rintro e w' ⟨rfl, q, rfl⟩
    have hle := Go.Lib.compact_length_le l
    generalize Go.Lib.compact l = ts at *
    have ho := ownsRow_sortedI (n := q) (os := #[]) (ss := l) (ts := ts ++ List.replicate (n - ts.length) 0) (by simp; omega) hbase hgb (by omega) r2 r3
    rw [Go.Sort.grow_empty, hl] at ho
    have hg := grownBy_sortedI (w := w) (g := gb) (n := q) (os := #[]) (ts ++ List.replicate (n - ts.length) 0).toArray
    rw [Go.Sort.grow_empty] at hg
    have h2 := own_head ho (k := ts.length) (by omega)
    rw [← List.map_take, List.take_left' rfl] at h2
    exact ⟨_, rfl, h2, (Below.refl B w).grown hg hB (fun j hj => by cases hj; exact hbase)⟩

end Go.Proofs.YtapledphhfiimaaGreatDoor
