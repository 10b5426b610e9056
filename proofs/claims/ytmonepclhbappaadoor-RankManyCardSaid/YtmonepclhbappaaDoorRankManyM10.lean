/-
  Part 10 of the proof of RankMany: Vals, OdC.
-/
import Derived.Sort.MapsRangeIn
import Derived.RangeFuncNested
import Derived.RangeFuncBound
import Derived.RangeFuncCalls
import Derived.RangeFuncLeaves
import Derived.Shelf.Abstract
import Derived.Shelf.RegionOpen
import Derived.OwnWalkIn
import Derived.TacticsInMore
import Derived.LoopNIn
import Derived.LoopIn
import Derived.Test.YtmonepclhbappaaDoorRankManyM2
import Derived.Test.YtmonepclhbappaaDoorRankManyM7
import Derived.Test.YtmonepclhbappaaDoorRankManyM4
import Derived.Test.YtmonepclhbappaaDoorRankManyM9
/-
  Maps keyed by ints: the words of a range, in a fence; maps.Values at map[int]int64; slices.AppendSeq, slices.Collect at int64.
-/
namespace Go.Proofs.YtmonepclhbappaaDoor
open Go.RowKit Go.Maps Go.Shelf
attribute [local go_sem] Oper.semAt_some
set_option maxRecDepth 100000
set_option linter.unusedVariables false
section
variable {F : Fence} {n : Nat} {P : Program} (w : World) {ops : Array Oper} {rest : List Oper} {o : Oper} {a : Act} {Q : Exit → Act → World → Prop} {kT : TypeId}
/-- 'range m'. -/
theorem wpListIn_rangeI (hg : o.guard = none) (m : Operand) (t : TypeId) (hop : o.op = Op.range t m) (e : TypeId) (hk : P.underlying kT = some (.int .i64)) (ht : P.underlying t = some (.map kT e)) (b : Nat) (es : List (Int × Value))
    (hm : a.eval m = .map (some b)) (hown : MapI P kT w b es)
    (hK : ∀ w', RangesI P kT w' b w.heap.size es [] → w.grownBy w' none → w'.heap.size = w.heap.size + 1 → wpListIn F n P ops Q rest (a.put o.dst (.pointer (some ⟨w.heap.size, 0, none⟩))) w') :
    wpListIn F n P ops Q (o :: rest) a w := by
  refine wpListIn_range_own w hg m t hop kT e (int_keyed hk) ht rawR b es.length (asD es) hm hown fun w' h1 h2 h3 => hK w' ⟨_, _, h1, (fun p hp => ?_), (fun p hp => absurd hp (by simp)), List.nodup_nil⟩ h2 h3
  rw [has_asD, atI_of_mem (MapI.inc hk hown) hp]
  simp

/-- The step. -/
theorem wpListIn_nextI (hg : o.guard = none) (it : Operand) (hop : o.op = Op.next it false) (hk : P.underlying kT = some (.int .i64)) (b r : Nat) (es done : List (Int × Value))
    (hit : a.eval it = .pointer (some ⟨r, 0, none⟩)) (h : RangesI P kT w b r es done)
    (hDone : done.Perm es → wpListIn F n P ops Q rest (a.put o.dst (.tuple #[.bool false])) w)
    (hMore : ∀ (p : Int × Value) (w' : World), p ∈ es → p ∉ done → RangesI P kT w' b r es (done ++ [p]) → w'.rangeLeft b r < w.rangeLeft b r → w.grownBy w' (some r) → w'.heap.size = w.heap.size →
      (Instr.entry (.pointer (some ⟨r, 0, none⟩))).run P w' = .ok (.tuple #[.int .i64 p.1, p.2]) w' → wpListIn F n P ops Q rest (a.put o.dst (.tuple #[.bool true, .int .i64 p.1, p.2])) w') :
    wpListIn F n P ops Q (o :: rest) a w := by
  have hI := h.map.inc hk
  have hperm := fun hall => h.done_perm hk hall
  obtain ⟨left, cnt, hrg, hleft, hsub, hnd⟩ := h
  refine wpListIn_next_ranges w hg it hop kT (int_keyed hk) rawR (Value.int .i64) id (fun key kl hkey => by obtain ⟨x, rfl, _⟩ := Maps.keyOf_int_inv hk hkey; exact ⟨x, rfl⟩) (fun v y hv => ⟨v, rfl⟩) b r es.length (asD es) left cnt hit hrg (fun _ hl => hDone (hperm fun p hp => ?_)) (fun x c kl y w' cnt' hkey hlk hv hat hrg' hlt hgr hsz hen => ?_)
  · have := hleft p hp
    rw [hl] at this
    simpa using this
  · obtain ⟨x', ex, rfl, hwx⟩ := Maps.keyOf_int_inv hk hkey
    cases ex
    have hhas : (atI es x).isSome = true := by rw [← has_asD]; exact Maps.has_true_of_atKey hat
    obtain ⟨v, hv'⟩ := Option.isSome_iff_exists.1 hhas
    have hc : c = v := by
      have h1 := hat (.held (.bool false))
      rw [atKey_asD, hv'] at h1
      have h2 := (Prod.mk.inj (Option.some.inj hv)).1
      rw [← h1] at h2
      exact DataW.held.inj h2
    subst hc
    have hp := atI_mem hv'
    have hnot : (x, c) ∉ done := fun hm => by
      exact (hleft _ hp).1 hlk hm
    refine hMore (x, c) w' hp hnot ⟨_, cnt', hrg', fun p hp' => ?_, fun p hp' => ?_, ?_⟩ (by rw [hrg'.left_eq, hrg.left_eq]; exact hlt) hgr hsz hen
    · show (left (.int .i64 p.1) && !(Lit.int .i64 p.1).sameKey (.int .i64 x)) = true ↔ _
      rw [Bool.and_eq_true, hleft p hp']
      by_cases hpx : p.1 = x
      · obtain rfl := inc_key hI hp' hp hpx
        simp [Lit.sameKey]
      · have hne : p ≠ (x, c) := fun e => hpx (by rw [e])
        simp [Lit.sameKey, hpx, hne]
    · rcases List.mem_append.1 hp' with h1 | h1
      · exact hsub p h1
      · obtain rfl := List.mem_singleton.1 h1
        exact hp
    · rw [List.nodup_append]
      exact ⟨hnd, by simp, fun p hp1 q hq => by obtain rfl := List.mem_singleton.1 hq; exact fun e => hnot (e ▸ hp1)⟩
end

/-- A map of int64s plainly. -/
abbrev Rv := List (Int × Int)
def ev (p : Int × Int) : Int × Value := (p.1, .int .i64 p.2)
abbrev MapV (w : World) (b : Nat) (r : Rv) : Prop := MapI Tryd.prog 3 w b (r.map ev)
def valI : Value → Int
  | .int _ x => x
  | _ => 0
def donV (d : List (Int × Value)) : List Int := d.map fun p => valI p.2
theorem rng_walk {P : Program} {kT : TypeId} {w : World} {b r : Nat} {es done : List (Int × Value)} (h : RangesI P kT w b r es done) : ∃ o : Obj, w.heap[r]? = some o ∧ o.isWalk = true := by
  obtain ⟨left, cnt, h1, _⟩ := h
  exact h1.iter_walk
theorem rngI_walks {P : Program} {kT : TypeId} {w w' : World} {b r : Nat} {es done : List (Int × Value)} (h : RangesI P kT w b r es done) (hk : KeepsWalks w w') : RangesI P kT w' b r es done := by
  obtain ⟨left, cnt, h1, h2⟩ := h
  have hw := h1.iter_walk
  obtain ⟨es', clock, since, seen, c0, g1, F, hs, hD, g2, rest⟩ := h1
  refine ⟨left, cnt, ⟨es', clock, since, seen, c0, hk.same _ _ g1 rfl, F, hs, hD, ?_, rest⟩, h2⟩
  exact hk.same _ _ g2 rfl
open Classical in
theorem sub_lenC {α : Type} : ∀ (a b : List α), a.Nodup → (∀ x ∈ a, x ∈ b) → a.length ≤ b.length
  | [], b, _, _ => Nat.zero_le _
  | x :: a, b, hn, h => by
    obtain ⟨h1, h2⟩ := List.nodup_cons.1 hn
    have hx := h x (List.mem_cons_self ..)
    have h3 := sub_lenC a (b.erase x) h2 fun y hy => (List.mem_erase_of_ne (fun e => h1 (by rw [← e]; exact hy))).2 (h y (List.mem_cons_of_mem _ hy))
    rw [List.length_erase_of_mem hx] at h3
    have : 0 < b.length := List.length_pos_of_mem hx
    rw [List.length_cons]
    omega
theorem done_le {P : Program} {kT : TypeId} {w : World} {b r : Nat} {es done : List (Int × Value)} (h : RangesI P kT w b r es done) : done.length ≤ es.length := by
  obtain ⟨left, cnt, _, _, h3, h4⟩ := h
  exact sub_lenC _ _ h4 fun p hp => h3 p hp

set_option maxHeartbeats 4000000 in
theorem values64_gives (d Bm mb : Nat) (hd : 1 ≤ d) (r : Rv) (w : World) (hB : w.cell? ⟨Bm, 0, none⟩ = some (.map (some mb))) (hBl : Bm < w.heap.size) (hm : MapV w mb r) :
    GivesKnown Fence.wide d Tryd.prog 90 #[.pointer (some ⟨Bm, 0, none⟩)] (fun x : Int => #[.int .i64 x]) (fun _ _ _ => True) (fun _ => KeepsWalks) (fun xs => xs.Perm (r.map (·.2))) (fun _ => True) r.length w := by
  intro l J Jx W hW hJ hJx hY h0
  have cm : W.cell? ⟨Bm, 0, none⟩ = some (.map (some mb)) := (hW.cell (p := ⟨Bm, 0, none⟩) hBl).trans hB
  have hM := MapI.keep hm hW
  have HM := Lib.hid hM
  have HY := Lib.hid hY
  have HJ := Lib.hid hJ
  have H0 := Lib.hid h0
  clear hW hB hM hY hJ h0 hm hJx
  refine callsIn_of_wp Tryd.func90 rfl trivial ?_ rfl
  simp only [Tryd.ntmps90, List.size_toArray, List.length_cons, List.length_nil, Nat.reduceAdd, Nat.reduceSub, Array.replicate_succ, Array.replicate_zero, List.push_toArray, List.append_toArray, List.nil_append, List.cons_append]
  gi_wp2_with (gi_at_range; refine wpListIn_rangeI _ rfl _ _ rfl 2 kInt Tryd.underlying106 mb _ rfl HM.out ?_; intro w0 hrg0 hg0 hs0; have HR0 := Lib.hid hrg0; have HG0 := Lib.hid hg0; clear hrg0 hg0 hs0)
  have HJ0 := Lib.hid (HJ.out [] W w0 none H0.out HG0.out (fun r e => by cases e))
  clear H0
  obtain ⟨it, hit⟩ : ∃ it, it = W.heap.size := ⟨_, rfl⟩
  rw [← hit] at HR0 ⊢
  have HIt := Lib.hid hit
  clear hit
  gi_loopw [] (fun wr => ∃ done : List (Int × Value), Hid (RangesI Tryd.prog 3 wr mb it (r.map ev) done) ∧ Hid (J (donV done) wr)) (fun wr => wr.rangeLeft mb it)
  case atStart => exact ⟨[], HR0, HJ0⟩
  case round =>
    obtain ⟨done, HRg, HJd⟩ := hrel
    gi_wp2_with (gi_at_next; refine wpListIn_nextI _ rfl _ rfl kInt mb it _ done rfl HRg.out ?_ ?_)
    · intro hperm
      have HPm := Lib.hid hperm
      clear hperm
      gi_wp2
      go_end0
      refine ⟨⟨_, rfl⟩, .inl ⟨donV done, ?_, HJd.out⟩⟩
      have h := HPm.out.map fun p : Int × Value => valI p.2
      rw [List.map_map] at h
      exact h
    · intro x c w2 qa qb hq hqe hpd hrg2 hlt2 hg2 hs2 hen
      obtain ⟨rfl, rfl⟩ : qa = x ∧ Value.int .i64 qb = c := by unfold ev at hqe; exact Prod.mk.inj hqe
      clear hqe
      have HJ2 := Lib.hid (HJ.out _ _ _ (some it) HJd.out hg2 (fun r e => by cases e; exact ⟨by have := HIt.out; omega, rng_walk HRg.out⟩))
      have hle := done_le hrg2
      rw [List.length_append, List.length_map] at hle
      have hyl : (donV done).length < r.length := by unfold donV; rw [List.length_map]; simp at hle; omega
      obtain ⟨fn, tmps, assign, body, hy, hR⟩ := HY.out (donV done) qb w2 HJ2.out trivial hyl
      have hdv : donV (done ++ [ev (qa, qb)]) = donV done ++ [qb] := by unfold donV; rw [List.map_append]; rfl
      rw [← hdv] at hR
      have HRr := Lib.hid hR
      have HRg2 := Lib.hid hrg2
      have HLt := Lib.hid hlt2
      clear hR hrg2 hlt2 hq hpd hg2 hs2 hle hyl hdv
      gi_wp2_with ((try refine ⟨fun h => (by cases h), ?_⟩); refine HRr.out.mono ?_; clear HRr; rintro e W3 (⟨rfl, hJ3, hk3⟩ | ⟨rfl, hx3⟩))
      · have HJ3 := Lib.hid hJ3
        have HR3 := Lib.hid (rngI_walks HRg2.out hk3)
        have HK3 := Lib.hid hk3
        clear hJ3 hk3 hy hen
        go_roundw
        case rel => exact ⟨done ++ [ev (qa, qb)], HR3, HJ3⟩
        case measure =>
          obtain ⟨left, cnt, h1, _⟩ := HRg2.out
          have h2 := h1.of_walks HK3.out
          rw [h2.left_eq, ← h1.left_eq]
          exact HLt.out
      · refine bodyPost_ret (results_none rfl _ _ _) rfl ?_
        exact ⟨⟨_, rfl⟩, .inr ⟨_, trivial, hx3⟩⟩
theorem Values64_any (mb : Option Nat) (w : World) : Calls Tryd.prog 59 #[.map mb] w fun e w' => e = .returned (.func (.func 90) #[] #[.pointer (some ⟨w.heap.size, 0, none⟩)]) ∧ w' = w.alloc (.cells #[.map mb] 106) := by
  go_enter Tryd.func59, Tryd.ntmps59
  go_wp2_with fail
  go_ret
  exact ⟨rfl, rfl⟩

set_option maxHeartbeats 4000000 in
theorem AppendSeq64_any (r : Rv) (Bm mb : Nat) (w : World) (hB : w.cell? ⟨Bm, 0, none⟩ = some (.map (some mb))) (hBl : Bm < w.heap.size) (hm : MapV w mb r) (hn : r.length ≤ 1048576) :
    Calls Tryd.prog 89 #[.slice none 0 0, .func (.func 90) #[] #[.pointer (some ⟨Bm, 0, none⟩)]] w fun e w' => ∃ (v : Value) (xs : List Int), e = .returned v ∧ xs.Perm (r.map (·.2)) ∧ w'.ownsRow w.heap.size 2 1 v xs.length (xs.map (Value.int .i64)) ∧ Below w.heap.size w w' := by
  refine (callsIn_wide (n := 5)).1 ?_
  refine callsIn_of_wp_marks Tryd.func89 rfl trivial ?_ rfl
  simp only [Tryd.ntmps89, List.size_toArray, List.length_cons, List.length_nil, Nat.reduceAdd, Nat.reduceSub, Array.replicate_succ, Array.replicate_zero, List.push_toArray, List.append_toArray, List.nil_append, List.cons_append]
  gi_wp2
  have hw1 : (w.alloc (.cells #[.slice none 0 0] 107)).heap.size = w.heap.size + 1 := by simp
  have hb1 := bel_al (Below.refl w.heap.size w) (.cells #[.slice none 0 0] 107)
  have hgv := values64_gives (5 - 1) Bm mb (by omega) r _ ((hb1.cell (p := ⟨Bm, 0, none⟩) hBl).trans hB) (by rw [hw1]; omega) (MapI.keep hm hb1)
  obtain ⟨i0, hi, hz0, hz1, hz2⟩ := info_parts elemI64r.hi
  refine rangeFunc_one (fun x b => { b with tmps := b.tmps.setIfInBounds 5 (.int .i64 x) }) rfl (by omega) (gf := 90) (lb := #[.pointer (some ⟨Bm, 0, none⟩)]) rfl trivial (enters_of Tryd.func90 (by kernel_rfl) rfl)
    hgv (fun pre x W l o o' hl ho h => trivial) (fun h k => h.trans k) (fun _ W l o o' _ hl ho hw => KeepsWalks.putObj _ hl hw) (Below.refl _ _)
    (fun pre W => (∃ v, Boxed W w.heap.size 107 v ∧ W.ownsRow w.heap.size 2 1 v pre.length (pre.map (Value.int .i64)) ∧ True) ∧ Below w.heap.size w W) (fun _ _ _ => False)
    (OwnFrom.and (Own.from (holdsRow_own w.heap.size w.heap.size 107 2 1 (fun pre : List Int => pre.length) (fun pre => pre.map (Value.int .i64)) (fun _ _ => True)) _) (ownFrom_below (Nat.le_refl _) (by rw [hw1]; omega)))
    (fun c s A B row hs _ _ => hs.elim) ⟨⟨_, Boxed.new _ _ _, World.ownsRow_nil _ _ _ _, trivial⟩, hb1⟩ ?assign ?body ?done ?stop
  case assign =>
    intro l x W K hK
    gi_wp2
    exact hK
  case body =>
    rintro lp pre x W ⟨⟨v, hv, hrow, _⟩, hB2⟩ hx hlt
    have hc := hv.cell
    have HV := Lib.hid hv
    have HR := Lib.hid hrow
    have HB := Lib.hid hB2
    clear hv hrow hB2 hgv
    gi_wp2_with (gi_at_builtin; refine wpListIn_append_own _ rfl _ _ 107 rfl w.heap.size 2 i0 (.int .i64 0) 1 8 Tryd.underlying107 hi hz0 hz1 hz2 rfl (by decide) _ _ _ rfl (HR.out.alloc _) ⟨W.heap.size, 0, none⟩ 1 1 [.int .i64 x] rfl rfl (cell_one_new _ _ _) (by simp [Value.oneCell']) (by unfold maxLen; omega) (by omega) (by have := HB.out.size; simp; omega) ?_; intro v' w1 hown' hgrow _; obtain ⟨g', cap', rfl⟩ := ownsRow_succ hown'; obtain ⟨hv1, hv2, hr2, hk2, hb2⟩ := HV.out.appended (by decide) HR.out HB.out.size (Nat.le_refl _) hown' hgrow; have hc1 := hv1.cell; have hf1 := hv1.frozen)
    refine ⟨hk2, hk2.walks, ⟨_, hv2, ?_, trivial⟩, HB.out.trans hb2⟩
    rw [List.length_append, List.map_append]
    exact hr2
  case done =>
    rintro D xs W hD hS ⟨⟨v, hv, hrow, _⟩, hB2⟩ hK
    have hc := hv.cell
    rw [hw1] at hD
    gi_wp2
    refine ⟨by simp, .inl ⟨_, _, rfl, run_takeDeferred hK, ?_⟩⟩
    refine ⟨_, results_tmp rfl _ _ _, _, xs, rfl, hS, ?_, hB2.trans (belowK_b (w := w) (Nat.le_refl _) W D _ _ (by omega) hK rfl rfl)⟩
    exact ownsRow_putObj hrow _ hK rfl
  case stop =>
    rintro D c pre W _ _ h _
    exact h.elim

theorem Collect64_any (r : Rv) (Bm mb : Nat) (w : World) (hB : w.cell? ⟨Bm, 0, none⟩ = some (.map (some mb))) (hBl : Bm < w.heap.size) (hm : MapV w mb r) (hn : r.length ≤ 1048576) :
    Calls Tryd.prog 58 #[.func (.func 90) #[] #[.pointer (some ⟨Bm, 0, none⟩)]] w fun e w' => ∃ (v : Value) (xs : List Int), e = .returned v ∧ xs.Perm (r.map (·.2)) ∧ w'.ownsRow w.heap.size 2 1 v xs.length (xs.map (Value.int .i64)) ∧ Below w.heap.size w w' := by
  have HC := Lib.hid (AppendSeq64_any r Bm mb w hB hBl hm hn)
  clear hB hBl hm hn
  go_enter Tryd.func58, Tryd.ntmps58
  go_wp2_with fail
  refine HC.out.mono ?_
  rintro e w' ⟨v, xs, rfl, hp, hown, hb⟩
  have HP := Lib.hid hp
  have HO := Lib.hid hown
  have HB := Lib.hid hb
  clear hp hown hb
  go_wp2_with fail
  go_ret
  exact ⟨v, xs, rfl, HP.out, HO.out, HB.out⟩
end Go.Proofs.YtmonepclhbappaaDoor
/-
  Odags: Count: how many paths there are.
-/
namespace Go.Proofs.YtmonepclhbappaaDoor
open Go.RowKit Go.Maps
set_option maxRecDepth 100000
set_option linter.unusedVariables false

theorem sumZ_perm {a b : List Int} (h : a.Perm b) : sumZ a = sumZ b := by
  induction h with
  | nil => rfl
  | cons x _ ih => rw [sumZ, sumZ, ih]
  | swap x y l => simp only [sumZ]; omega
  | trans _ _ h1 h2 => rw [h1, h2]
def putV (r : Rv) (y v : Int) : Rv := (r.filter fun p => decide (p.1 < y)) ++ (y, v) :: r.filter fun p => decide (y < p.1)
theorem put_ev (r : Rv) (y v : Int) : putI (r.map ev) y (.int .i64 v) = (putV r y v).map ev := by
  unfold putI putV
  rw [List.map_append, List.map_cons, List.filter_map, List.filter_map]
  rfl
theorem putV_keys (r : Rv) (y v k : Int) : k ∈ (putV r y v).map (·.1) ↔ k = y ∨ k ∈ r.map (·.1) := by
  unfold putV
  simp only [List.map_append, List.map_cons, List.mem_append, List.mem_cons, List.mem_map, List.mem_filter, decide_eq_true_eq]
  constructor
  · rintro (⟨p, ⟨h1, _⟩, rfl⟩ | rfl | ⟨p, ⟨h1, _⟩, rfl⟩)
    · exact .inr ⟨p, h1, rfl⟩
    · exact .inl rfl
    · exact .inr ⟨p, h1, rfl⟩
  · rintro (rfl | ⟨p, h1, rfl⟩)
    · exact .inr (.inl rfl)
    · rcases Int.lt_trichotomy p.1 y with h | h | h
      · exact .inl ⟨p, ⟨h1, h⟩, rfl⟩
      · exact .inr (.inl h)
      · exact .inr (.inr ⟨p, ⟨h1, h⟩, rfl⟩)
theorem putV_len (r : Rv) (y v : Int) : (putV r y v).length ≤ r.length + 1 := by
  unfold putV
  have h : ∀ r : Rv, (r.filter fun p => decide (p.1 < y)).length + (r.filter fun p => decide (y < p.1)).length ≤ r.length := by
    intro r
    induction r with
    | nil => simp
    | cons p r ih =>
      rw [List.filter_cons, List.filter_cons]
      by_cases h1 : p.1 < y
      · have h2 : ¬ y < p.1 := by omega
        simp [h1, h2]
        omega
      · by_cases h2 : y < p.1
        · simp [h1, h2]
          omega
        · simp [h1, h2]
          omega
  have := h r
  simp
  omega
/-- A map of counts: of these numbers of a row. -/
def CntMap (w : World) (b : Nat) (od : List Rw) (i : Nat) (K : List Int) : Prop := ∃ r : Rv, MapV w b r ∧ (∀ k, k ∈ r.map (·.1) ↔ k ∈ K) ∧ (∀ p ∈ r, p.2 = cnt od i p.1) ∧ r.length ≤ K.length
theorem CntMap.look {od : List Rw} {i : Nat} {r : Rv} {K : List Int} (hk : ∀ k, k ∈ r.map (·.1) ↔ k ∈ K) (hc : ∀ p ∈ r, p.2 = cnt od i p.1) {y : Int} (hy : y ∈ K) (z : Value) : (atI (r.map ev) y).getD z = .int .i64 (cnt od i y) := by
  cases h : atI (r.map ev) y with
  | none =>
    have := atI_none.1 h
    rw [List.map_map] at this
    exact absurd ((hk y).2 hy) this
  | some v =>
    have h1 := atI_mem h
    obtain ⟨q, hq, hqe⟩ := List.mem_map.1 h1
    unfold ev at hqe
    obtain ⟨h2, h3⟩ := Prod.mk.inj hqe
    rw [Option.getD_some, ← h3, hc q hq, h2]
theorem CntMap.all {w : World} {b : Nat} {od : List Rw} {i : Nat} {r : Rv} {K : List Int} (hm : MapV w b r) (hk : ∀ k, k ∈ r.map (·.1) ↔ k ∈ K) (hc : ∀ p ∈ r, p.2 = cnt od i p.1) (hI : Inc K) : r.map (·.2) = K.map (cnt od i) := by
  have h1 := MapI.inc kInt hm
  have h2 : Inc (r.map (·.1)) := by
    unfold IncK at h1
    rw [List.pairwise_map] at h1
    exact List.pairwise_map.2 h1
  rw [← inc_ext h2 hI hk, List.map_map]
  exact List.map_congr_left fun p hp => hc p hp
theorem CntMap.keep {w w' : World} {b : Nat} {od : List Rw} {i : Nat} {K : List Int} (h : CntMap w b od i K) (hb : Below w.heap.size w w') : CntMap w' b od i K := by
  obtain ⟨r, h1, h2⟩ := h
  exact ⟨r, MapI.keep h1 hb, h2⟩
theorem CntMap.other {w w' : World} {b : Nat} {row : Option Nat} {od : List Rw} {i : Nat} {K : List Int} (h : CntMap w b od i K) (hg : w.grownBy w' row) (hne : some b ≠ row) : CntMap w' b od i K := by
  obtain ⟨r, h1, h2⟩ := h
  exact ⟨r, MapI.kept h1 hg hne, h2⟩
theorem CntMap.lt {w : World} {b : Nat} {od : List Rw} {i : Nat} {K : List Int} (h : CntMap w b od i K) : b < w.heap.size := by
  obtain ⟨r, h1, _⟩ := h
  exact MapI.lt h1
theorem CntMap.nc {w : World} {b : Nat} {od : List Rw} {i : Nat} {K : List Int} (h : CntMap w b od i K) : NC w b := by
  obtain ⟨r, h1, _⟩ := h
  obtain ⟨es, cl, h4⟩ := MapI.isMap h1
  exact NC.of_map h4
theorem RangesR.other {w w' : World} {b i b' : Nat} {r done : Rw} (h : RangesR w b i r done) (hm : NC w b') (hg : w.grownBy w' (some b')) (h1 : b ≠ b') (h2 : i ≠ b') : RangesR w' b i r done := by
  obtain ⟨m, d, e1, e2, h3, h4, h5⟩ := h
  exact ⟨m, d, e1, e2, h3.kept hg (fun e => h1 (by cases e; rfl)) (fun e => h2 (by cases e; rfl)), h4, fun e he => (h5 e he).turned hm hg⟩
theorem RangesR.lti {w : World} {b i : Nat} {r done : Rw} (h : RangesR w b i r done) : i < w.heap.size := by
  obtain ⟨m, d, _, _, h3, _⟩ := h
  exact h3.ltr
theorem RangesR.nci {w : World} {b i : Nat} {r done : Rw} (h : RangesR w b i r done) : NC w i := by
  obtain ⟨m, d, _, _, h3, _⟩ := h
  obtain ⟨o, h1, h2⟩ := rng_walk h3
  exact ⟨o, h1, Obj.not_cells_of_walk h2⟩

theorem neq_mapV (a : Option Nat) (W : World) : (binOp .neq 106 (.map a) (.map none)).run Tryd.prog W = .ok (.bool a.isSome) W := by
  have hu := run_underlying Tryd.underlying106
  have he : (Op.equal 106 (.map a) (.map none)).run Tryd.prog W = .ok a.isNone W := by
    show (Op.equalIn (9999 + 1) 106 (.map a) (.map none)).run Tryd.prog W = _
    unfold Op.equalIn
    cases a <;> simp [hu, Sem.run_bind]
  unfold binOp
  simp only [Sem.run_bind, he, Result.andThen_ok, Sem.run_pure]
  cases a <;> rfl
theorem done_leR {w : World} {b i : Nat} {r done : Rw} (h : RangesR w b i r done) : done.length ≤ r.length := by
  obtain ⟨m, d, rfl, rfl, h3, _, _⟩ := h
  have := done_le h3
  rw [List.length_map, List.length_map] at this
  rw [List.length_map, List.length_map]
  exact this

set_option maxHeartbeats 32000000 in
theorem Count_any (p N : Nat) (od : List Rw) (w : World) (h : OdM w p od) (hO : OdOK od N) :
    Calls Tryd.prog 22 #[.pointer (some ⟨p, 0, none⟩)] w fun e w' => e = .returned (.tuple #[.int .i64 (totP od), .nilIface]) ∧ Below w.heap.size w w' := by
  have hmm := @run_makeMap Tryd.prog
  have HOd := Lib.hid h
  have HO := Lib.hid hO
  have HLn := Lib.hid (OdLen_any p od w h)
  rw [hO.len] at HLn
  have hN1 := hO.h1
  have hN8 := hO.h8
  have hw0 : IntKind.i64.wrap ((N : Int) - 1) = (N : Int) - 1 := by rw [IntKind.wrap_i64]; omega
  clear h hO
  go_enter Tryd.func22, Tryd.ntmps22
  go_wp2_with (go_at_call 52; refine HLn.out.mono ?_; clear HLn; rintro e w' ⟨rfl, rfl⟩)
  clear hw0
  go_loopw [4, 5] (fun bv iv wr => ∃ (k : Nat), k ≤ N ∧ (∃ z : Int, z = (k : Int) - 1 ∧ iv = .int .i64 z) ∧ Hid (Below w.heap.size w wr) ∧ ((k = N ∧ bv = .map none) ∨ (k < N ∧ ∃ bb, bv = .map (some bb) ∧ Hid (CntMap wr bb od k ((od.getD k []).map (·.1)))))) (fun _ iv _ => (intOf iv + 1).toNat)
  case atStart => exact ⟨N, Nat.le_refl _, ⟨_, rfl, rfl⟩, Lib.hid (Below.refl _ _), .inl ⟨rfl, rfl⟩⟩
  case round =>
    obtain ⟨k, hk, ⟨z, hz, rfl⟩, HB, hcase⟩ := hrel
    rcases Nat.eq_zero_or_pos k with h0 | h0
    · subst h0
      obtain rfl : z = -1 := by omega
      clear hz
      rcases hcase with ⟨h9, _⟩ | ⟨_, bb, rfl, HC⟩
      · omega
      · obtain ⟨r, hm, hr1, hr2, hr3⟩ := HC.out
        have hal := CntMap.all hm hr1 hr2 (List.pairwise_map.2 (HO.out.S 0 (by rw [HO.out.len]; omega)).1)
        have hrl : r.length ≤ 1000000 := by
          have := (HO.out.B _ (getD_memO (show 0 < od.length by rw [HO.out.len]; omega))).1
          rw [List.length_map] at hr3
          omega
        have hal2 := bel_al (Below.refl wr.heap.size wr) (.cells #[.map (some bb)] 106)
        have HCo := Lib.hid (Collect64_any r wr.heap.size bb (wr.alloc (.cells #[.map (some bb)] 106)) (by have := (Blk.new wr 106 #[.map (some bb)]).cell 0; simp at this ⊢) (by simp) (MapI.keep hm hal2) (by omega))
        have HTo := Lib.hid (show ∀ (xs : List Int) (A : Option Addr) (c : Nat) (W : World), xs.Perm (r.map (·.2)) → Sl W 1 A xs.length (xs.map (Value.int .i64)) → Calls Tryd.prog 57 #[.slice A xs.length c] W (fun e w' => e = .returned (.tuple #[.int .i64 (totP od), .nilIface]) ∧ Below W.heap.size W w') from fun xs A c W hp hs => by
          have hsum : sumZ xs = totP od := by rw [sumZ_perm hp, hal, totP_sum]
          have hfit : fitB (totP od) = true := fit_nn (Int.natCast_nonneg _) HO.out.F.2
          refine (NumsTotal_any xs A xs.length c W rfl (by have := hp.length_eq; rw [List.length_map] at this; omega) (fun x hx => ?_) hs).mono ?_
          · have h1 := hp.mem_iff.1 hx
            rw [hal] at h1
            obtain ⟨y, hy, rfl⟩ := List.mem_map.1 h1
            have h2 := HO.out.F.1 0 y (by rw [HO.out.len]; omega)
            have h3 := cnt_nn od 0 y
            omega
          · rintro e w' ⟨ev', h1, h2, h3⟩
            rw [hsum, te_fit hfit] at h2
            rw [hsum, tn_fit hfit] at h1
            have h4 : ev' = .nilIface := h2
            rw [h4] at h1
            exact ⟨h1, h3⟩)
        clear hm hr1 hr2 hr3 hal hal2 HC hmm
        go_wp2_with (first
          | (go_at_call 59; refine (Values64_any _ _).mono ?_; rintro e w1 ⟨rfl, rfl⟩)
          | (go_at_call 58; refine HCo.out.mono ?_; clear HCo; rintro e w2 ⟨v, xs, rfl, hp, hown, hb⟩; obtain ⟨A2, c2, rfl, hs2⟩ := Sl.own hown; have HP := Lib.hid hp; have HS2 := Lib.hid hs2; have HB2 := Lib.hid hb; clear hp hown hs2 hb)
          | (go_at_call 57; refine (HTo.out xs A2 c2 w2 HP.out HS2.out).mono ?_; clear HTo; rintro e w3 ⟨rfl, hb⟩; have HB3 := Lib.hid hb; clear hb))
        go_ret2
        exact ⟨rfl, HB.out.andThen (((bel_al (Below.refl _ _) _).andThen HB2.out).andThen HB3.out)⟩
    · obtain ⟨i, rfl⟩ : ∃ i, k = i + 1 := ⟨k - 1, by omega⟩
      obtain rfl : z = (i : Int) := by omega
      clear hz
      have hiN : i < od.length := by rw [HO.out.len]; omega
      obtain ⟨rb, ro, on, oc, mb, hon, co0, hoc, co1, hrow0⟩ := (HOd.out.keep HB.out).row hiN
      have hal := bel_al (Below.refl wr.heap.size wr) (.map #[] 0)
      have d0 := (hal.cell (p := ⟨p, 0, none⟩) (World.block_lt_of_cell? wr _ co0)).trans co0
      have d1 := (hal.cell (p := ⟨rb, ro + i, none⟩) (World.block_lt_of_cell? wr _ co1)).trans co1
      obtain ⟨row, hrow⟩ : ∃ row, row = od.getD i [] := ⟨_, rfl⟩
      rw [← hrow] at hrow0
      have HRowE := Lib.hid hrow
      have HRw := Lib.hid (hrow0.keep hal)
      have HInc := Lib.hid (show IncR row ∧ (∀ a, Inc (lkR row a)) ∧ row.length ≤ 60000 ∧ (∀ q ∈ row, q.2.length ≤ 60000) ∧ (∀ q ∈ row, i64ok q.1 ∧ ∀ b ∈ q.2, i64ok b) from by
        rw [hrow]
        have h1 := HO.out.S i hiN
        have h2 := HO.out.B _ (getD_memO hiN)
        exact ⟨h1.1, h1.2, h2.1, h2.2, fun q hq => ⟨(HO.out.Nu _ (getD_memO hiN) q hq).1.ok, fun b hb => ((HO.out.Nu _ (getD_memO hiN) q hq).2 b hb).ok⟩⟩)
      have hio : (i : Int) < (on : Int) := by rw [hon]; omega
      have hi0 : (0 : Int) ≤ (i : Int) := by omega
      have HBa := Lib.hid (HB.out.andThen hal)
      have HIN := Lib.hid hiN
      have HHere := Lib.hid (show CntMap (wr.alloc (.map #[] 0)) wr.heap.size od i [] from ⟨[], MapI.made _ _ wr, fun k => by simp, (fun p hp => by cases hp), Nat.le_refl _⟩)
      have HBeh := Lib.hid (show (i + 1 = N ∧ u4 = .map none) ∨ (i + 1 < N ∧ ∃ bb, u4 = .map (some bb) ∧ bb < wr.heap.size ∧ CntMap (wr.alloc (.map #[] 0)) bb od (i + 1) ((od.getD (i + 1) []).map (·.1))) from by
        rcases hcase with h9 | ⟨h9, bb, h8, HC⟩
        · exact .inl h9
        · exact .inr ⟨h9, bb, h8, HC.out.lt, HC.out.keep hal⟩)
      have HMb := Lib.hid hrow0.lt
      clear hcase hrow0 hal co0 co1 hrow hon hiN
      go_wp2_with (at_range; refine wpList_rangeR _ rfl _ rfl mb row rfl HRw.out ?_; intro w2 hrg hb2 hs2; have HRg := Lib.hid hrg; have HB2 := Lib.hid hb2; clear hrg hb2 hs2)
      clear hmm d0 d1
      obtain ⟨it, hit⟩ : ∃ it, it = (wr.alloc (.map #[] 0)).heap.size := ⟨_, rfl⟩
      have HIt := Lib.hid (show wr.heap.size < it ∧ w.heap.size ≤ wr.heap.size from ⟨by rw [hit]; simp, HB.out.size⟩)
      have HHere2 := Lib.hid (HHere.out.keep HB2.out)
      have HBeh2 := Lib.hid (show (i + 1 = N ∧ u4 = .map none) ∨ (i + 1 < N ∧ ∃ bb, u4 = .map (some bb) ∧ bb < wr.heap.size ∧ CntMap w2 bb od (i + 1) ((od.getD (i + 1) []).map (·.1))) from by
        rcases HBeh.out with h9 | ⟨h9, bb, h8, h7, HC⟩
        · exact .inl h9
        · exact .inr ⟨h9, bb, h8, h7, HC.keep HB2.out⟩)
      have HB22 := Lib.hid (HBa.out.andThen HB2.out)
      rw [← hit] at HRg ⊢
      obtain ⟨hb, hhb⟩ : ∃ hb, hb = wr.heap.size := ⟨_, rfl⟩
      rw [← hhb] at HHere2 HBeh2 HIt HMb ⊢
      clear HHere HBeh HBa HB2 HRw hit hhb HB
      go_wp2_with fail
      go_frame
      go_loopw [] (fun wx => ∃ done : Rw, Hid (RangesR wx mb it row done) ∧ Hid (CntMap wx hb od i (done.map (·.1))) ∧ Hid (Below w.heap.size w wx) ∧ Hid ((i + 1 = N ∧ u4 = .map none) ∨ (i + 1 < N ∧ ∃ bb, u4 = .map (some bb) ∧ bb < hb ∧ CntMap wx bb od (i + 1) ((od.getD (i + 1) []).map (·.1))))) (fun wx => wx.rangeLeft mb it)
      case atStart => exact ⟨[], HRg, HHere2, HB22, HBeh2⟩
      case round =>
        clear HRg HHere2 HB22 HBeh2
        obtain ⟨done, HRg, HHe, HBx, HBe⟩ := hrel
        go_wp2_with (at_next; refine wpList_nextR _ rfl _ rfl mb it _ done rfl HRg.out ?_ ?_)
        · intro hperm
          have HPm := Lib.hid hperm
          clear hperm
          go_wp2_with fail
          go_roundw
          case rel =>
            refine ⟨i, by omega, ⟨(i : Int) - 1, rfl, by go_num⟩, HBx, .inr ⟨by omega, hb, rfl, Lib.hid ?_⟩⟩
            obtain ⟨r, h1, h2, h3, h4⟩ := HHe.out
            have hpk := HPm.out.map (fun q : Int × List Int => q.1)
            rw [← HRowE.out]
            exact ⟨r, h1, fun k => (h2 k).trans hpk.mem_iff, h3, by rw [← hpk.length_eq]; exact h4⟩
          case measure => (simp [intOf] <;> omega)
        · intro y A c l w3 hyl hyk hrow3 hrg3 hlt3 hg3 hnc3 hsz3 hen3
          have hII := HInc.out
          have hsi := HIt.out
          have hyx := hII.2.2.2.2 (y, l) hyl
          have hlk : lkR row y = l := hII.1.lk hyl
          have hll : l.length ≤ 60000 := hII.2.2.2.1 (y, l) hyl
          have HYx := Lib.hid hyx
          have HLk := Lib.hid hlk
          have HHe3 := Lib.hid (HHe.out.other hg3 (fun e => by cases e; omega))
          have HB3 := Lib.hid (bel_turn HBx.out hg3 (by omega) HBx.out.size)
          have HBe3 := Lib.hid (show (i + 1 = N ∧ u4 = .map none) ∨ (i + 1 < N ∧ ∃ bb, u4 = .map (some bb) ∧ bb < hb ∧ CntMap w3 bb od (i + 1) ((od.getD (i + 1) []).map (·.1))) from by
            rcases HBe.out with h9 | ⟨h9, bb, h8, h7, HC⟩
            · exact .inl h9
            · exact .inr ⟨h9, bb, h8, h7, HC.other hg3 (fun e => by cases e; omega)⟩)
          have HRow3 := Lib.hid hrow3
          have HRg3 := Lib.hid hrg3
          have HLt3 := Lib.hid hlt3
          have HDn := Lib.hid (done_leR hrg3)
          clear hII hsi hyx hlk hyk hrow3 hrg3 hlt3 hg3 hnc3 hsz3 hyl HBe HBx HHe HRg
          go_upto_region 10 with (fail)
          obtain ⟨w4, hw4⟩ : ∃ w4, w3.alloc (.cells #[.int .i64 1] 2) = w4 := ⟨_, rfl⟩
          have hb4 : Below w3.heap.size w3 w4 := by rw [← hw4]; exact bel_al (Below.refl _ _) _
          have hs4 : Sl w4 1 (some ⟨w3.heap.size, 0, none⟩) 1 ([1].map (Value.int .i64)) := by rw [← hw4]; exact Sl.newAt w3 [.int .i64 1] _ 1 rfl
          rw [hw4]
          clear hw4
          have HB4 := Lib.hid hb4
          have HS4 := Lib.hid hs4
          clear hb4 hs4 hen3
          go_cut [37] from 36 to 37 (fun v wx => v = .bool (decide (i + 1 < N)) ∧ w4 = wx)
          case first =>
            rcases HBe3.out with ⟨h9, rfl⟩ | ⟨h9, bb, rfl, h7, HC⟩
            · have hd : decide (i + 1 < N) = false := by simp; omega
              have hq : ∀ W, (binOp .neq 106 (.map none) (.map none)).run Tryd.prog W = .ok (.bool false) W := fun W => neq_mapV none W
              go_wp2_with fail
              go_meet
              exact ⟨by rw [hd], rfl⟩
            · have hd : decide (i + 1 < N) = true := by simp; omega
              have hq : ∀ W, (binOp .neq 106 (.map (some bb)) (.map none)).run Tryd.prog W = .ok (.bool true) W := fun W => neq_mapV (some bb) W
              go_wp2_with fail
              go_meet
              exact ⟨by rw [hd], rfl⟩
          case rest =>
          obtain ⟨rfl, rfl⟩ := hcut
          go_upto_if 37 with (fail)
          go_cut [9] from 37 to 50 (fun lv wx => ∃ (B : Option Addr) (m c9 : Nat) (vals : List Int), lv = .slice B m c9 ∧ vals.length = m ∧ m ≤ 60000 ∧ Hid (Sl wx 1 B m (vals.map (Value.int .i64))) ∧ Hid (sumZ vals = cnt od i y) ∧ Hid (∀ v ∈ vals, i64ok v) ∧ Hid (Below w4.heap.size w4 wx))
          case first =>
            rcases HBe3.out with ⟨h9, rfl⟩ | ⟨h9, bb, rfl, h7, HC⟩
            · have hd : decide (i + 1 < N) = false := by simp; omega
              rw [hd]
              go_wp2_with fail
              go_meet
              exact ⟨_, 1, _, [1], rfl, rfl, by omega, HS4, Lib.hid (by rw [cnt_last (by rw [HO.out.len]; exact h9)]; rfl), Lib.hid (fun v hv => by rw [List.mem_singleton.1 hv]; exact ⟨by omega, by omega⟩), Lib.hid (Below.refl _ _)⟩
            · have hd : decide (i + 1 < N) = true := by simp; omega
              rw [hd]
              have HC4 := Lib.hid (HC.keep HB4.out)
              have HRow4 := Lib.hid (HRow3.out.keep HB4.out)
              have HKl := Lib.hid (show ∀ x ∈ l, x ∈ (od.getD (i + 1) []).map (·.1) from fun x hx => HO.out.C.link (by rw [HO.out.len]; exact h9) (by rw [← HRowE.out, HLk.out]; exact hx))
              clear HC hd
              go_wp2_with fail
              go_loopw [9, 40] (fun lv jv wx => ∃ j : Nat, j ≤ l.length ∧ jv = .int .i64 (j : Int) ∧ Hid (wx.ownsRow w4.heap.size 2 1 lv j (((l.take j).map (cnt od (i + 1))).map (Value.int .i64))) ∧ Hid (Below w4.heap.size w4 wx)) (fun _ jv _ => l.length - (intOf jv).toNat)
              case atStart => exact ⟨0, Nat.zero_le _, rfl, Lib.hid (World.ownsRow_nil _ _ _ _), Lib.hid (Below.refl _ _)⟩
              case round =>
                obtain ⟨j, hj, rfl, HO9, HB9⟩ := hrel
                by_cases hjl : j < l.length
                · have hjl' : (j : Int) < (l.length : Int) := by omega
                  obtain ⟨x, hx⟩ : ∃ x, l[j] = x := ⟨_, rfl⟩
                  obtain ⟨b5, o5, rfl, hc5⟩ := (HRow4.out.keep HB9.out).1.i64 rfl hjl
                  have hxm : x ∈ l := by rw [← hx]; exact List.getElem_mem hjl
                  have HXx := Lib.hid (HYx.out.2 x hxm)
                  have HXk := Lib.hid (HKl.out x hxm)
                  have HTk := Lib.hid (show (((l.take j).map (cnt od (i + 1))).map (Value.int .i64)) ++ [.int .i64 (cnt od (i + 1) x)] = ((l.take (j + 1)).map (cnt od (i + 1))).map (Value.int .i64) from by rw [List.take_succ_eq_append_getElem hjl, hx]; simp)
                  obtain ⟨r, hm, hr1, hr2, _⟩ := HC4.out.keep HB9.out
                  have HM := Lib.hid hm
                  have HLo := Lib.hid (CntMap.look hr1 hr2 HXk.out (.int .i64 0))
                  simp only [hx] at hc5
                  clear hx hxm hm hr1 hr2
                  go_wp2_with (first
                    | (at_lookup; refine wpList_lookI _ rfl _ _ _ rfl 2 kInt Tryd.underlying106 (.int .i64 0) (by kernel_rfl) bb _ (by go_simp) HM.out x (by go_simp) HXx.out.1 HXx.out.2 ?_; rw [HLo.out])
                    | (at_builtin; refine wpList_push elemI64r _ _ rfl rfl HO9.out HB9.out (Nat.le_refl _) rfl rfl rfl (by simp [Value.oneCell']) (by unfold lim; omega) (by unfold lim; omega) ?_; intro v' w8 hown8 hb8; have HO8 := Lib.hid hown8; have HB8 := Lib.hid hb8; clear hown8 hb8))
                  go_roundw
                  case rel => exact ⟨j + 1, by omega, by go_num, Lib.hid (by rw [← HTk.out]; exact HO8.out), HB8⟩
                  case measure => simp [intOf]; omega
                · obtain rfl : j = l.length := by omega
                  have hjl' : ¬ (l.length : Int) < (l.length : Int) := by omega
                  obtain ⟨R, c', rfl, hsl⟩ := Sl.own HO9.out
                  have HSl := Lib.hid hsl
                  go_wp2_with fail
                  go_meet
                  refine ⟨R, l.length, c', l.map (cnt od (i + 1)), rfl, List.length_map .., hll, Lib.hid ?_, Lib.hid ?_, Lib.hid ?_, HB9⟩
                  · have h := HSl.out
                    rw [List.take_length] at h
                    exact h
                  · rw [cnt_step (by rw [HO.out.len]; exact h9), ← HRowE.out, HLk.out]
                  · intro v hv
                    obtain ⟨x, _, rfl⟩ := List.mem_map.1 hv
                    have h1 := cnt_nn od (i + 1) x
                    have h2 := HO.out.F.1 (i + 1) x (by rw [HO.out.len]; exact h9)
                    exact ⟨by omega, by omega⟩
          case rest =>
            obtain ⟨B, m, c9, vals, rfl, hvl, hm6, HSv, HSm, HVo, HBv⟩ := hcut
            have HTo := Lib.hid (show Calls Tryd.prog 57 #[.slice B m c9] wc (fun e w' => e = .returned (.tuple #[.int .i64 (cnt od i y), .nilIface]) ∧ Below wc.heap.size wc w') from by
              have hfit : fitB (cnt od i y) = true := fit_nn (cnt_nn _ _ _) (HO.out.F.1 i y HIN.out)
              refine (NumsTotal_any vals B m c9 wc hvl (by omega) HVo.out HSv.out).mono ?_
              rintro e w' ⟨ev', h1, h2, h3⟩
              rw [HSm.out, te_fit hfit] at h2
              rw [HSm.out, tn_fit hfit] at h1
              have h4 : ev' = .nilIface := h2
              rw [h4] at h1
              exact ⟨h1, h3⟩)
            obtain ⟨cv, hcv⟩ : ∃ cv, cv = cnt od i y := ⟨_, rfl⟩
            rw [← hcv] at HTo
            have HCv := Lib.hid hcv
            have HHe4 := Lib.hid ((HHe3.out.keep HB4.out).keep HBv.out)
            clear hcv hvl
            go_wp2_with (first
              | (go_at_call 57; refine HTo.out.mono ?_; clear HTo; rintro e w6 ⟨rfl, hb6⟩; obtain ⟨r, hm6, hr1, hr2, hr3⟩ := HHe4.out.keep hb6; have HM6 := Lib.hid hm6; have HR1 := Lib.hid hr1; have HR2 := Lib.hid hr2; have HR3 := Lib.hid hr3; have HB6 := Lib.hid hb6; clear hb6 hm6 hr1 hr2 hr3)
              | (at_mapUpdate; refine wpList_putI _ rfl _ _ _ _ rfl 2 kInt Tryd.underlying106 hb _ rfl HM6.out (by have h1 := HR3.out; have h2 := HDn.out; have h3 := HInc.out.2.2.1; rw [List.length_map] at h1 ⊢; rw [List.length_append] at h2; unfold maxLen; omega) y (.int .i64 cv) rfl rfl HYx.out.1.1 HYx.out.1.2 ?_; intro w7 hM7 hg7; have HM7 := Lib.hid hM7; have HG7 := Lib.hid hg7; clear hM7 hg7))
            have hbb := HB4.out.andThen (HBv.out.andThen HB6.out)
            have hrg6 := HRg3.out.keep hbb
            have hsi := HIt.out
            have hmb := HMb.out
            have hnc6 : NC w6 hb := by
              obtain ⟨es, cl, h4⟩ := MapI.isMap HM6.out
              exact NC.of_map h4
            go_frame
            go_roundw
            case rel =>
              refine ⟨done ++ [(y, l)], Lib.hid (hrg6.other hnc6 HG7.out (by omega) (by omega)), Lib.hid ⟨putV r y cv, ?_, fun k => ?_, fun q hq => ?_, ?_⟩, Lib.hid (bel_turn (HB3.out.andThen hbb) HG7.out HIt.out.2 (HB3.out.andThen hbb).size), Lib.hid ?_⟩
              · have h := HM7.out
                rw [put_ev] at h
                exact h
              · rw [putV_keys, HR1.out, List.map_append, List.mem_append]
                simp
                constructor
                · rintro (h | h)
                  · exact .inr h
                  · exact .inl h
                · rintro (h | h)
                  · exact .inr h
                  · exact .inl h
              · unfold putV at hq
                rcases List.mem_append.1 hq with h | h
                · exact HR2.out q (List.mem_filter.1 h).1
                · rcases List.mem_cons.1 h with h | h
                  · rw [h]; exact HCv.out
                  · exact HR2.out q (List.mem_filter.1 h).1
              · have h1 := putV_len r y cv
                have h2 := HR3.out
                rw [List.length_map] at h2 ⊢
                rw [List.length_append]
                simp
                omega
              · rcases HBe3.out with h9 | ⟨h9, bb, h8, h7, HC⟩
                · exact .inl h9
                · exact .inr ⟨h9, bb, h8, h7, (HC.keep hbb).other HG7.out (fun e => by cases e; omega)⟩
            case measure =>
              have h1 : w7.rangeLeft mb it = w3.rangeLeft mb it := by
                have e1 : w7.heap[mb]? = w3.heap[mb]? := (HG7.out.block mb (by have := hbb.size; have := HRg3.out.row.lt; omega) (fun e => by cases e; omega)).trans (hbb.block mb HRg3.out.row.lt)
                have e2 : w7.heap[it]? = w3.heap[it]? := (HG7.out.block it (by have := hbb.size; have := HRg3.out.lti; omega) (fun e => by cases e; omega)).trans (hbb.block it HRg3.out.lti)
                unfold World.rangeLeft
                rw [e1, e2]
              rw [h1]
              exact HLt3.out
end Go.Proofs.YtmonepclhbappaaDoor
