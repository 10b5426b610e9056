/-
  Part 9 of the proof of OdagAdds: Vals, RankO, RankT, RankQ.
-/
import Derived.Sort.MapsRangeIn
import Derived.RangeFuncNested
import Derived.RangeFuncBound
import Derived.RangeFuncCalls
import Derived.RangeFuncLeaves
import Derived.Shelf.Abstract
import Derived.Shelf.RegionOpen
import Derived.OwnWalkIn
import Derived.TacticsInMore
import Derived.LoopNIn
import Derived.LoopIn
import Derived.Test.YtmonepclhbappaaDoorOdagAddsM2
import Derived.Test.YtmonepclhbappaaDoorOdagAddsM8
import Derived.Test.YtmonepclhbappaaDoorOdagAddsM4
import Derived.Deep.RegionHeld3
/-
  Maps keyed by ints: the words of a range, in a fence; maps.Values at map[int]int64; slices.AppendSeq, slices.Collect at int64.
-/
namespace Go.Proofs.YtmonepclhbappaaDoor
open Go.RowKit Go.Maps Go.Shelf
attribute [local go_sem] Oper.semAt_some
set_option maxRecDepth 100000
set_option linter.unusedVariables false
section
variable {F : Fence} {n : Nat} {P : Program} (w : World) {ops : Array Oper} {rest : List Oper} {o : Oper} {a : Act} {Q : Exit → Act → World → Prop} {kT : TypeId}
/-- 'range m'. -/
theorem wpListIn_rangeI (hg : o.guard = none) (m : Operand) (t : TypeId) (hop : o.op = Op.range t m) (e : TypeId) (hk : P.underlying kT = some (.int .i64)) (ht : P.underlying t = some (.map kT e)) (b : Nat) (es : List (Int × Value))
    (hm : a.eval m = .map (some b)) (hown : MapI P kT w b es)
    (hK : ∀ w', RangesI P kT w' b w.heap.size es [] → w.grownBy w' none → w'.heap.size = w.heap.size + 1 → wpListIn F n P ops Q rest (a.put o.dst (.pointer (some ⟨w.heap.size, 0, none⟩))) w') :
    wpListIn F n P ops Q (o :: rest) a w := by
  refine wpListIn_range_own w hg m t hop kT e (int_keyed hk) ht rawR b es.length (asD es) hm hown fun w' h1 h2 h3 => hK w' ⟨_, _, h1, (fun p hp => ?_), (fun p hp => absurd hp (by simp)), List.nodup_nil⟩ h2 h3
  rw [has_asD, atI_of_mem (MapI.inc hk hown) hp]
  simp

/-- The step. -/
theorem wpListIn_nextI (hg : o.guard = none) (it : Operand) (hop : o.op = Op.next it false) (hk : P.underlying kT = some (.int .i64)) (b r : Nat) (es done : List (Int × Value))
    (hit : a.eval it = .pointer (some ⟨r, 0, none⟩)) (h : RangesI P kT w b r es done)
    (hDone : done.Perm es → wpListIn F n P ops Q rest (a.put o.dst (.tuple #[.bool false])) w)
    (hMore : ∀ (p : Int × Value) (w' : World), p ∈ es → p ∉ done → RangesI P kT w' b r es (done ++ [p]) → w'.rangeLeft b r < w.rangeLeft b r → w.grownBy w' (some r) → w'.heap.size = w.heap.size →
      (Instr.entry (.pointer (some ⟨r, 0, none⟩))).run P w' = .ok (.tuple #[.int .i64 p.1, p.2]) w' → wpListIn F n P ops Q rest (a.put o.dst (.tuple #[.bool true, .int .i64 p.1, p.2])) w') :
    wpListIn F n P ops Q (o :: rest) a w := by
  have hI := h.map.inc hk
  have hperm := fun hall => h.done_perm hk hall
  obtain ⟨left, cnt, hrg, hleft, hsub, hnd⟩ := h
  refine wpListIn_next_ranges w hg it hop kT (int_keyed hk) rawR (Value.int .i64) id (fun key kl hkey => by obtain ⟨x, rfl, _⟩ := Maps.keyOf_int_inv hk hkey; exact ⟨x, rfl⟩) (fun v y hv => ⟨v, rfl⟩) b r es.length (asD es) left cnt hit hrg (fun _ hl => hDone (hperm fun p hp => ?_)) (fun x c kl y w' cnt' hkey hlk hv hat hrg' hlt hgr hsz hen => ?_)
  · have := hleft p hp
    rw [hl] at this
    simpa using this
  · obtain ⟨x', ex, rfl, hwx⟩ := Maps.keyOf_int_inv hk hkey
    cases ex
    have hhas : (atI es x).isSome = true := by rw [← has_asD]; exact Maps.has_true_of_atKey hat
    obtain ⟨v, hv'⟩ := Option.isSome_iff_exists.1 hhas
    have hc : c = v := by
      have h1 := hat (.held (.bool false))
      rw [atKey_asD, hv'] at h1
      have h2 := (Prod.mk.inj (Option.some.inj hv)).1
      rw [← h1] at h2
      exact DataW.held.inj h2
    subst hc
    have hp := atI_mem hv'
    have hnot : (x, c) ∉ done := fun hm => by
      exact (hleft _ hp).1 hlk hm
    refine hMore (x, c) w' hp hnot ⟨_, cnt', hrg', fun p hp' => ?_, fun p hp' => ?_, ?_⟩ (by rw [hrg'.left_eq, hrg.left_eq]; exact hlt) hgr hsz hen
    · show (left (.int .i64 p.1) && !(Lit.int .i64 p.1).sameKey (.int .i64 x)) = true ↔ _
      rw [Bool.and_eq_true, hleft p hp']
      by_cases hpx : p.1 = x
      · obtain rfl := inc_key hI hp' hp hpx
        simp [Lit.sameKey]
      · have hne : p ≠ (x, c) := fun e => hpx (by rw [e])
        simp [Lit.sameKey, hpx, hne]
    · rcases List.mem_append.1 hp' with h1 | h1
      · exact hsub p h1
      · obtain rfl := List.mem_singleton.1 h1
        exact hp
    · rw [List.nodup_append]
      exact ⟨hnd, by simp, fun p hp1 q hq => by obtain rfl := List.mem_singleton.1 hq; exact fun e => hnot (e ▸ hp1)⟩
end

/-- A map of int64s plainly. -/
abbrev Rv := List (Int × Int)
def ev (p : Int × Int) : Int × Value := (p.1, .int .i64 p.2)
abbrev MapV (w : World) (b : Nat) (r : Rv) : Prop := MapI Tryd.prog 3 w b (r.map ev)
def valI : Value → Int
  | .int _ x => x
  | _ => 0
def donV (d : List (Int × Value)) : List Int := d.map fun p => valI p.2
theorem rng_walk {P : Program} {kT : TypeId} {w : World} {b r : Nat} {es done : List (Int × Value)} (h : RangesI P kT w b r es done) : ∃ o : Obj, w.heap[r]? = some o ∧ o.isWalk = true := by
  obtain ⟨left, cnt, h1, _⟩ := h
  exact h1.iter_walk
theorem rngI_walks {P : Program} {kT : TypeId} {w w' : World} {b r : Nat} {es done : List (Int × Value)} (h : RangesI P kT w b r es done) (hk : KeepsWalks w w') : RangesI P kT w' b r es done := by
  obtain ⟨left, cnt, h1, h2⟩ := h
  have hw := h1.iter_walk
  obtain ⟨es', clock, since, seen, c0, g1, F, hs, hD, g2, rest⟩ := h1
  refine ⟨left, cnt, ⟨es', clock, since, seen, c0, hk.same _ _ g1 rfl, F, hs, hD, ?_, rest⟩, h2⟩
  exact hk.same _ _ g2 rfl
open Classical in
theorem sub_lenC {α : Type} : ∀ (a b : List α), a.Nodup → (∀ x ∈ a, x ∈ b) → a.length ≤ b.length
  | [], b, _, _ => Nat.zero_le _
  | x :: a, b, hn, h => by
    obtain ⟨h1, h2⟩ := List.nodup_cons.1 hn
    have hx := h x (List.mem_cons_self ..)
    have h3 := sub_lenC a (b.erase x) h2 fun y hy => (List.mem_erase_of_ne (fun e => h1 (by rw [← e]; exact hy))).2 (h y (List.mem_cons_of_mem _ hy))
    rw [List.length_erase_of_mem hx] at h3
    have : 0 < b.length := List.length_pos_of_mem hx
    rw [List.length_cons]
    omega
theorem done_le {P : Program} {kT : TypeId} {w : World} {b r : Nat} {es done : List (Int × Value)} (h : RangesI P kT w b r es done) : done.length ≤ es.length := by
  obtain ⟨left, cnt, _, _, h3, h4⟩ := h
  exact sub_lenC _ _ h4 fun p hp => h3 p hp

set_option maxHeartbeats 4000000 in
theorem values64_gives (d Bm mb : Nat) (hd : 1 ≤ d) (r : Rv) (w : World) (hB : w.cell? ⟨Bm, 0, none⟩ = some (.map (some mb))) (hBl : Bm < w.heap.size) (hm : MapV w mb r) :
    GivesKnown Fence.wide d Tryd.prog 90 #[.pointer (some ⟨Bm, 0, none⟩)] (fun x : Int => #[.int .i64 x]) (fun _ _ _ => True) (fun _ => KeepsWalks) (fun xs => xs.Perm (r.map (·.2))) (fun _ => True) r.length w := by
  intro l J Jx W hW hJ hJx hY h0
  have cm : W.cell? ⟨Bm, 0, none⟩ = some (.map (some mb)) := (hW.cell (p := ⟨Bm, 0, none⟩) hBl).trans hB
  have hM := MapI.keep hm hW
  have HM := Lib.hid hM
  have HY := Lib.hid hY
  have HJ := Lib.hid hJ
  have H0 := Lib.hid h0
  clear hW hB hM hY hJ h0 hm hJx
  refine callsIn_of_wp Tryd.func90 rfl trivial ?_ rfl
  simp only [Tryd.ntmps90, List.size_toArray, List.length_cons, List.length_nil, Nat.reduceAdd, Nat.reduceSub, Array.replicate_succ, Array.replicate_zero, List.push_toArray, List.append_toArray, List.nil_append, List.cons_append]
  gi_wp2_with (gi_at_range; refine wpListIn_rangeI _ rfl _ _ rfl 2 kInt Tryd.underlying106 mb _ rfl HM.out ?_; intro w0 hrg0 hg0 hs0; have HR0 := Lib.hid hrg0; have HG0 := Lib.hid hg0; clear hrg0 hg0 hs0)
  have HJ0 := Lib.hid (HJ.out [] W w0 none H0.out HG0.out (fun r e => by cases e))
  clear H0
  obtain ⟨it, hit⟩ : ∃ it, it = W.heap.size := ⟨_, rfl⟩
  rw [← hit] at HR0 ⊢
  have HIt := Lib.hid hit
  clear hit
  gi_loopw [] (fun wr => ∃ done : List (Int × Value), Hid (RangesI Tryd.prog 3 wr mb it (r.map ev) done) ∧ Hid (J (donV done) wr)) (fun wr => wr.rangeLeft mb it)
  case atStart => exact ⟨[], HR0, HJ0⟩
  case round =>
    obtain ⟨done, HRg, HJd⟩ := hrel
    gi_wp2_with (gi_at_next; refine wpListIn_nextI _ rfl _ rfl kInt mb it _ done rfl HRg.out ?_ ?_)
    · intro hperm
      have HPm := Lib.hid hperm
      clear hperm
      gi_wp2
      go_end0
      refine ⟨⟨_, rfl⟩, .inl ⟨donV done, ?_, HJd.out⟩⟩
      have h := HPm.out.map fun p : Int × Value => valI p.2
      rw [List.map_map] at h
      exact h
    · intro x c w2 qa qb hq hqe hpd hrg2 hlt2 hg2 hs2 hen
      obtain ⟨rfl, rfl⟩ : qa = x ∧ Value.int .i64 qb = c := by unfold ev at hqe; exact Prod.mk.inj hqe
      clear hqe
      have HJ2 := Lib.hid (HJ.out _ _ _ (some it) HJd.out hg2 (fun r e => by cases e; exact ⟨by have := HIt.out; omega, rng_walk HRg.out⟩))
      have hle := done_le hrg2
      rw [List.length_append, List.length_map] at hle
      have hyl : (donV done).length < r.length := by unfold donV; rw [List.length_map]; simp at hle; omega
      obtain ⟨fn, tmps, assign, body, hy, hR⟩ := HY.out (donV done) qb w2 HJ2.out trivial hyl
      have hdv : donV (done ++ [ev (qa, qb)]) = donV done ++ [qb] := by unfold donV; rw [List.map_append]; rfl
      rw [← hdv] at hR
      have HRr := Lib.hid hR
      have HRg2 := Lib.hid hrg2
      have HLt := Lib.hid hlt2
      clear hR hrg2 hlt2 hq hpd hg2 hs2 hle hyl hdv
      gi_wp2_with ((try refine ⟨fun h => (by cases h), ?_⟩); refine HRr.out.mono ?_; clear HRr; rintro e W3 (⟨rfl, hJ3, hk3⟩ | ⟨rfl, hx3⟩))
      · have HJ3 := Lib.hid hJ3
        have HR3 := Lib.hid (rngI_walks HRg2.out hk3)
        have HK3 := Lib.hid hk3
        clear hJ3 hk3 hy hen
        go_roundw
        case rel => exact ⟨done ++ [ev (qa, qb)], HR3, HJ3⟩
        case measure =>
          obtain ⟨left, cnt, h1, _⟩ := HRg2.out
          have h2 := h1.of_walks HK3.out
          rw [h2.left_eq, ← h1.left_eq]
          exact HLt.out
      · refine bodyPost_ret (results_none rfl _ _ _) rfl ?_
        exact ⟨⟨_, rfl⟩, .inr ⟨_, trivial, hx3⟩⟩
theorem Values64_any (mb : Option Nat) (w : World) : Calls Tryd.prog 59 #[.map mb] w fun e w' => e = .returned (.func (.func 90) #[] #[.pointer (some ⟨w.heap.size, 0, none⟩)]) ∧ w' = w.alloc (.cells #[.map mb] 106) := by
  go_enter Tryd.func59, Tryd.ntmps59
  go_wp2_with fail
  go_ret
  exact ⟨rfl, rfl⟩

set_option maxHeartbeats 4000000 in
theorem AppendSeq64_any (r : Rv) (Bm mb : Nat) (w : World) (hB : w.cell? ⟨Bm, 0, none⟩ = some (.map (some mb))) (hBl : Bm < w.heap.size) (hm : MapV w mb r) (hn : r.length ≤ 1048576) :
    Calls Tryd.prog 89 #[.slice none 0 0, .func (.func 90) #[] #[.pointer (some ⟨Bm, 0, none⟩)]] w fun e w' => ∃ (v : Value) (xs : List Int), e = .returned v ∧ xs.Perm (r.map (·.2)) ∧ w'.ownsRow w.heap.size 2 1 v xs.length (xs.map (Value.int .i64)) ∧ Below w.heap.size w w' := by
  refine (callsIn_wide (n := 5)).1 ?_
  refine callsIn_of_wp_marks Tryd.func89 rfl trivial ?_ rfl
  simp only [Tryd.ntmps89, List.size_toArray, List.length_cons, List.length_nil, Nat.reduceAdd, Nat.reduceSub, Array.replicate_succ, Array.replicate_zero, List.push_toArray, List.append_toArray, List.nil_append, List.cons_append]
  gi_wp2
  have hw1 : (w.alloc (.cells #[.slice none 0 0] 107)).heap.size = w.heap.size + 1 := by simp
  have hb1 := bel_al (Below.refl w.heap.size w) (.cells #[.slice none 0 0] 107)
  have hgv := values64_gives (5 - 1) Bm mb (by omega) r _ ((hb1.cell (p := ⟨Bm, 0, none⟩) hBl).trans hB) (by rw [hw1]; omega) (MapI.keep hm hb1)
  obtain ⟨i0, hi, hz0, hz1, hz2⟩ := info_parts elemI64r.hi
  refine rangeFunc_one (fun x b => { b with tmps := b.tmps.setIfInBounds 5 (.int .i64 x) }) rfl (by omega) (gf := 90) (lb := #[.pointer (some ⟨Bm, 0, none⟩)]) rfl trivial (enters_of Tryd.func90 (by kernel_rfl) rfl)
    hgv (fun pre x W l o o' hl ho h => trivial) (fun h k => h.trans k) (fun _ W l o o' _ hl ho hw => KeepsWalks.putObj _ hl hw) (Below.refl _ _)
    (fun pre W => (∃ v, Boxed W w.heap.size 107 v ∧ W.ownsRow w.heap.size 2 1 v pre.length (pre.map (Value.int .i64)) ∧ True) ∧ Below w.heap.size w W) (fun _ _ _ => False)
    (OwnFrom.and (Own.from (holdsRow_own w.heap.size w.heap.size 107 2 1 (fun pre : List Int => pre.length) (fun pre => pre.map (Value.int .i64)) (fun _ _ => True)) _) (ownFrom_below (Nat.le_refl _) (by rw [hw1]; omega)))
    (fun c s A B row hs _ _ => hs.elim) ⟨⟨_, Boxed.new _ _ _, World.ownsRow_nil _ _ _ _, trivial⟩, hb1⟩ ?assign ?body ?done ?stop
  case assign =>
    intro l x W K hK
    gi_wp2
    exact hK
  case body =>
    rintro lp pre x W ⟨⟨v, hv, hrow, _⟩, hB2⟩ hx hlt
    have hc := hv.cell
    have HV := Lib.hid hv
    have HR := Lib.hid hrow
    have HB := Lib.hid hB2
    clear hv hrow hB2 hgv
    gi_wp2_with (gi_at_builtin; refine wpListIn_append_own _ rfl _ _ 107 rfl w.heap.size 2 i0 (.int .i64 0) 1 8 Tryd.underlying107 hi hz0 hz1 hz2 rfl (by decide) _ _ _ rfl (HR.out.alloc _) ⟨W.heap.size, 0, none⟩ 1 1 [.int .i64 x] rfl rfl (cell_one_new _ _ _) (by simp [Value.oneCell']) (by unfold maxLen; omega) (by omega) (by have := HB.out.size; simp; omega) ?_; intro v' w1 hown' hgrow _; obtain ⟨g', cap', rfl⟩ := ownsRow_succ hown'; obtain ⟨hv1, hv2, hr2, hk2, hb2⟩ := HV.out.appended (by decide) HR.out HB.out.size (Nat.le_refl _) hown' hgrow; have hc1 := hv1.cell; have hf1 := hv1.frozen)
    refine ⟨hk2, hk2.walks, ⟨_, hv2, ?_, trivial⟩, HB.out.trans hb2⟩
    rw [List.length_append, List.map_append]
    exact hr2
  case done =>
    rintro D xs W hD hS ⟨⟨v, hv, hrow, _⟩, hB2⟩ hK
    have hc := hv.cell
    rw [hw1] at hD
    gi_wp2
    refine ⟨by simp, .inl ⟨_, _, rfl, run_takeDeferred hK, ?_⟩⟩
    refine ⟨_, results_tmp rfl _ _ _, _, xs, rfl, hS, ?_, hB2.trans (belowK_b (w := w) (Nat.le_refl _) W D _ _ (by omega) hK rfl rfl)⟩
    exact ownsRow_putObj hrow _ hK rfl
  case stop =>
    rintro D c pre W _ _ h _
    exact h.elim

theorem Collect64_any (r : Rv) (Bm mb : Nat) (w : World) (hB : w.cell? ⟨Bm, 0, none⟩ = some (.map (some mb))) (hBl : Bm < w.heap.size) (hm : MapV w mb r) (hn : r.length ≤ 1048576) :
    Calls Tryd.prog 58 #[.func (.func 90) #[] #[.pointer (some ⟨Bm, 0, none⟩)]] w fun e w' => ∃ (v : Value) (xs : List Int), e = .returned v ∧ xs.Perm (r.map (·.2)) ∧ w'.ownsRow w.heap.size 2 1 v xs.length (xs.map (Value.int .i64)) ∧ Below w.heap.size w w' := by
  have HC := Lib.hid (AppendSeq64_any r Bm mb w hB hBl hm hn)
  clear hB hBl hm hn
  go_enter Tryd.func58, Tryd.ntmps58
  go_wp2_with fail
  refine HC.out.mono ?_
  rintro e w' ⟨v, xs, rfl, hp, hown, hb⟩
  have HP := Lib.hid hp
  have HO := Lib.hid hown
  have HB := Lib.hid hb
  clear hp hown hb
  go_wp2_with fail
  go_ret
  exact ⟨v, xs, rfl, HP.out, HO.out, HB.out⟩
end Go.Proofs.YtmonepclhbappaaDoor
/-
  Ranks: the contract of Of.
-/
namespace Go.Proofs.YtmonepclhbappaaDoor
open Go.RowKit Go.Maps
set_option maxRecDepth 100000
set_option linter.unusedVariables false

def Nums (od : List Rw) : Prop := ∀ r ∈ od, ∀ q ∈ r, numOK q.1 ∧ ∀ b ∈ q.2, numOK b
theorem numOK.ok {x : Int} (h : numOK x) : i64ok x := ⟨by have := h.1; omega, by have := h.2; omega⟩
theorem getD_memO {od : List Rw} {i : Nat} (h : i < od.length) : od.getD i [] ∈ od := by rw [List.getD_eq_getElem?_getD, List.getElem?_eq_getElem h]; exact List.getElem_mem h
theorem Nums.key {od : List Rw} (h : Nums od) {i : Nat} (hi : i < od.length) {a : Int} (ha : a ∈ (od.getD i []).map (·.1)) : i64ok a := by
  obtain ⟨q, hq, rfl⟩ := List.mem_map.1 ha
  exact (h _ (getD_memO hi) q hq).1.ok
theorem Nums.link {od : List Rw} (h : Nums od) {i : Nat} (hi : i < od.length) {a b : Int} (hb : b ∈ lkR (od.getD i []) a) : i64ok b := by
  obtain ⟨q, hq, _, hb⟩ := lkR_mem hb
  exact ((h _ (getD_memO hi) q hq).2 b hb).ok
theorem Closed.link {od : List Rw} (h : Closed od) {i : Nat} (hi : i + 1 < od.length) {a b : Int} (hb : b ∈ lkR (od.getD i []) a) : b ∈ (od.getD (i + 1) []).map (·.1) := by
  obtain ⟨q, hq, _, hb⟩ := lkR_mem hb
  exact h i hi q hq b hb
theorem fit_nn {z : Int} (h0 : 0 ≤ z) (h1 : z ≤ 4611686018427387904) : fitB z = true := by
  unfold fitB
  simp
  omega
theorem keysAt_in {od : List Rw} {i : Nat} (h : i < od.length) : keysAt od (i : Int) = (od.getD i []).map (·.1) := if_pos (by omega)
theorem linksAt_in {od : List Rw} {i : Nat} (h : i < od.length) (a : Int) : linksAt od (i : Int) a = lkR (od.getD i []) a := if_pos (by omega)

/-- Rows behind i are done, of row i the first k numbers. -/
def Don (od : List Rw) (f : Int → Int → Int) (i k : Nat) : Prop :=
  (∀ (j : Nat) (a : Int), i < j → j < od.length → a ∈ (od.getD j []).map (·.1) → f j a = cnt od j a) ∧ ∀ a ∈ ((od.getD i []).map (·.1)).take k, f i a = cnt od i a
theorem Don.step {od : List Rw} {f : Int → Int → Int} {i k : Nat} {a : Int} (h : Don od f i k) (ha : ((od.getD i []).map (·.1))[k]? = some a) : Don od (updF f i a (cnt od i a)) i (k + 1) := by
  refine ⟨fun j b hj hn hb => ?_, fun b hb => ?_⟩
  · unfold updF
    rw [if_neg (by omega)]
    exact h.1 j b hj hn hb
  · unfold updF
    by_cases hba : b = a
    · subst hba
      rw [if_pos ⟨rfl, rfl⟩]
    · rw [if_neg (fun e => hba e.2)]
      refine h.2 b ?_
      obtain ⟨e1, e2⟩ := List.getElem?_eq_some_iff.1 ha
      rw [List.take_succ_eq_append_getElem e1, e2] at hb
      rcases List.mem_append.1 hb with hb | hb
      · exact hb
      · exact absurd (List.mem_singleton.1 hb) hba
def DonR (od : List Rw) (f : Int → Int → Int) (t : Nat) : Prop := ∀ (j : Nat) (a : Int), t ≤ j → j < od.length → a ∈ (od.getD j []).map (·.1) → f j a = cnt od j a
theorem DonR.don {od : List Rw} {f : Int → Int → Int} {i : Nat} (h : DonR od f (i + 1)) : Don od f i 0 := ⟨fun j a hj => h j a hj, fun a ha => by cases ha⟩
theorem Don.donR {od : List Rw} {f : Int → Int → Int} {i k : Nat} (h : Don od f i k) (hk : ((od.getD i []).map (·.1)).length ≤ k) : DonR od f i := fun j a hj hn ha => by
  by_cases e : i = j
  · subst e
    exact h.2 a (by rw [List.take_of_length_le hk]; exact ha)
  · exact h.1 j a (by omega) hn ha

/-- What Of holds while it counts. -/
def RkW (w0 w : World) (q p mb K : Nat) (f : Int → Int → Int) : Prop :=
  Blk w q 121 #[.pointer (some ⟨p, 0, none⟩), .map (some mb), .int .i64 0] ∧ w0.heap.size ≤ mb ∧ w0.heap.size ≤ q ∧ Below w0.heap.size w0 w ∧ ∃ m, m ≤ K ∧ OnMap w mb m f
theorem RkW.keep {w0 w w' : World} {q p mb K : Nat} {f : Int → Int → Int} (h : RkW w0 w q p mb K f) (hb : Below w.heap.size w w') : RkW w0 w' q p mb K f := by
  obtain ⟨h1, h2, h3, h4, m, h5, h6⟩ := h
  exact ⟨h1.keep hb, h2, h3, h4.andThen hb, m, h5, h6.keep hb⟩
theorem RkW.put {w0 w w' : World} {q p mb K m : Nat} {f f' : Int → Int → Int} (h : RkW w0 w q p mb K f) (hM : NC w mb) (hg : w.grownBy w' (some mb)) (hm : m ≤ K) (ho : OnMap w' mb (m + 1) f') : RkW w0 w' q p mb (K + 1) f' := by
  obtain ⟨h1, h2, h3, h4, _⟩ := h
  exact ⟨h1.turned hM hg, h2, h3, bel_turn h4 hg h2 h4.size, m + 1, by omega, ho⟩

theorem RkW.mono {w0 w : World} {q p mb K K' : Nat} {f : Int → Int → Int} (h : RkW w0 w q p mb K f) (hK : K ≤ K') : RkW w0 w q p mb K' f := by
  obtain ⟨h1, h2, h3, h4, m, h5, h6⟩ := h
  exact ⟨h1, h2, h3, h4, m, Nat.le_trans h5 hK, h6⟩
theorem OnMap.other {w w' : World} {b b' n : Nat} {f : Int → Int → Int} (h : OnMap w b n f) (hg : w.grownBy w' (some b')) (hne : b ≠ b') : OnMap w' b n f := by
  obtain ⟨D, h1, h2⟩ := h
  exact ⟨D, World.ownsMap.kept h1 hg (fun e => hne (Option.some.inj e)), h2⟩
/-- The sum of numbers whose ways are known. -/
theorem Sum_known {q mb m : Nat} {pv tv : Value} {f : Int → Int → Int} {row : Int} {l : List Int} {z : Int} (hrow : i64ok row) (hx : ∀ x ∈ l, i64ok x) (hf : ∀ x ∈ l, i64ok (f row x)) (hl : l.length ≤ 1000000) (hz : sumZ (l.map (f row)) = z) (hfit : fitB z = true)
    (A : Option Addr) (c : Nat) (w : World) (hq : Blk w q 121 #[pv, .map (some mb), tv]) (hm : OnMap w mb m f) (hs : Sl w 1 A l.length (l.map (Value.int .i64))) :
    Calls Tryd.prog 67 #[.pointer (some ⟨q, 0, none⟩), .int .i64 row, .slice A l.length c] w fun e w' => e = .returned (.tuple #[.int .i64 z, .nilIface]) ∧ Below w.heap.size w w' :=
  (RankSum_any q pv tv mb m f row l A l.length c w hq hm rfl hl hs hrow hx hf).mono fun e w' ⟨ev, h1, h2, h3⟩ => by
    rw [hz, te_fit hfit] at h2
    rw [hz, tn_fit hfit] at h1
    have h4 : ev = .nilIface := h2
    rw [h4] at h1
    exact ⟨h1, h3⟩

set_option maxHeartbeats 16000000 in
theorem RankOf_any (p n : Nat) (od : List Rw) (w : World) (h : OdM w p od) (hB : OdB 60000 od) (hn : od.length = n) (h1 : 1 ≤ n) (h8 : n ≤ 8) (hN : Nums od) (hC : Closed od) (hF : Fits od) :
    Calls Tryd.prog 30 #[.pointer (some ⟨p, 0, none⟩)] w fun e w' => ∃ q, e = .returned (.tuple #[.pointer (some ⟨q, 0, none⟩), .nilIface]) ∧ RkM w' q p od ∧ Below w.heap.size w w' := by
  have hmm := @run_makeMap Tryd.prog
  have HOd := Lib.hid h
  have HLen := Lib.hid hn
  have HN := Lib.hid hN
  have HC := Lib.hid hC
  have HF := Lib.hid hF
  have HLn := Lib.hid (fun (W : World) (hb : Below w.heap.size w W) => by have := OdLen_any p od W (h.keep hb); rw [hn] at this; exact this)
  have HRow := Lib.hid (fun (i : Nat) (W : World) (hb : Below w.heap.size w W) => OdRow_any p od (i : Int) W (h.keep hb) (fun r hr => (hB r hr).mono (by omega)) (by omega))
  have HLk := Lib.hid (fun (i : Nat) (a : Int) (W : World) (hb : Below w.heap.size w W) (ha : i64ok a) => OdLinks_any p od (i : Int) a W (h.keep hb) (fun r hr => (hB r hr).mono (by omega)) (by omega) ha)
  have HB := Lib.hid (show ∀ i, i < n → ((od.getD i []).map (·.1)).length ≤ 60000 ∧ ∀ a, (lkR (od.getD i []) a).length ≤ 60000 from fun i hi => by
    have := hB _ (getD_memO (show i < od.length by omega))
    exact ⟨by rw [List.length_map]; exact this.1, fun a => lkR_B this a⟩)
  have hw0 : IntKind.i64.wrap ((n : Int) - 1) = (n : Int) - 1 := by rw [IntKind.wrap_i64]; omega
  clear h hB hn hN hC hF
  obtain ⟨mb, hmb⟩ : ∃ mb, mb = w.heap.size := ⟨_, rfl⟩
  obtain ⟨q, hq⟩ : ∃ q, q = mb + 1 := ⟨_, rfl⟩
  have HI := Lib.hid (show RkW w ((w.alloc (.map #[] 0)).alloc (.cells #[.pointer (some ⟨p, 0, none⟩), .map (some mb), .int .i64 0] 121)) q p mb 0 (fun _ _ => 0) from by
    subst hmb hq
    refine ⟨?_, Nat.le_refl _, by omega, bel_al (bel_al (Below.refl _ _) _) _, 0, Nat.le_refl _, (OnMap.made w).keep (bel_al (Below.refl _ _) _)⟩
    have := Blk.new (w.alloc (.map #[] 0)) 121 #[.pointer (some ⟨p, 0, none⟩), .map (some w.heap.size), .int .i64 0]
    rw [World.size_alloc] at this
    exact this)
  go_enter Tryd.func30, Tryd.ntmps30
  go_wp2_with (go_at_call 52; refine (HLn.out _ (bel_al (bel_al (Below.refl _ _) _) _)).mono ?_; rintro e w' ⟨rfl, rfl⟩)
  rw [← hmb, ← hq]
  clear hmb hq hmm hw0
  go_loopw [5] (fun iv wr => ∃ (t : Nat) (f : Int → Int → Int), t ≤ n ∧ (∃ z : Int, z = (t : Int) - 1 ∧ iv = .int .i64 z) ∧ Hid (RkW w wr q p mb ((n - t) * 1000000) f) ∧ Hid (DonR od f t)) (fun iv _ => (intOf iv + 1).toNat)
  case atStart => exact ⟨n, _, Nat.le_refl _, ⟨_, rfl, rfl⟩, by rw [Nat.sub_self, Nat.zero_mul]; exact HI, Lib.hid fun j a h1 h2 => by have := HLen.out; omega⟩
  case round =>
    obtain ⟨t, f, ht, ⟨z, hz, rfl⟩, HR, HD⟩ := hrel
    clear HI
    rcases Nat.eq_zero_or_pos t with h0 | h0
    · subst h0
      obtain rfl : z = -1 := by omega
      clear hz
      have hb := HR.out.2.2.2.1
      have HRw := Lib.hid (HRow.out 0 wr hb)
      rw [keysAt_in (by rw [HLen.out]; omega)] at HRw
      have HRw' := Lib.hid (show Calls Tryd.prog 62 #[.pointer (some ⟨p, 0, none⟩), .int .i64 0] wr _ from HRw.out)
      have hkl := (HB.out 0 (by omega)).1
      have HKn := Lib.hid (fun a ha => HN.out.key (i := 0) (a := a) (by rw [HLen.out]; omega) ha)
      have HFb := Lib.hid (show ∀ b ∈ (od.getD 0 []).map (·.1), f 0 b = cnt od 0 b from fun b hb => HD.out 0 b (Nat.zero_le _) (by rw [HLen.out]; omega) hb)
      have HSum := Lib.hid (show sumZ (((od.getD 0 []).map (·.1)).map (f 0)) = totP od from by rw [totP_sum, List.map_congr_left HFb.out])
      have HFit := Lib.hid (fit_nn (Int.natCast_nonneg _) HF.out.2)
      have HFo := Lib.hid (show ∀ b ∈ (od.getD 0 []).map (·.1), i64ok (f 0 b) from fun b hb => by
        rw [HFb.out b hb]
        have h1 := cnt_nn od 0 b
        have h2 := HF.out.1 0 b (by rw [HLen.out]; omega)
        exact ⟨by omega, by omega⟩)
      have HBl := Lib.hid HR.out.1
      have HQ := Lib.hid HR.out.2.2.1
      have HBe := Lib.hid hb
      obtain ⟨m, hm, hon⟩ := HR.out.2.2.2.2
      have HOn := Lib.hid hon
      obtain ⟨ks, hks⟩ : ∃ ks, ks = (od.getD 0 []).map (·.1) := ⟨_, rfl⟩
      rw [← hks] at HRw' hkl HKn HFb HSum HFo
      have HSm := Lib.hid (Sum_known (q := q) (mb := mb) (m := m) (pv := .pointer (some ⟨p, 0, none⟩)) (tv := .int .i64 0) ⟨by omega, by omega⟩ HKn.out HFo.out (Nat.le_trans hkl (by decide)) HSum.out HFit.out)
      clear HRw hks hb hon hm hkl
      go_wp2_with (first
        | (go_at_call 62; refine HRw'.out.mono ?_; rintro e w2 ⟨v, rfl, hown, hb1⟩; obtain ⟨R2, c2, rfl, hsl⟩ := Sl.own hown; have HS2 := Lib.hid hsl; have HB2 := Lib.hid hb1; clear hown hsl hb1)
        | (go_at_call 67; refine (HSm.out R2 c2 w2 (HBl.out.keep HB2.out) (HOn.out.keep HB2.out) HS2.out).mono ?_; rintro e w3 ⟨rfl, hb⟩; have HB3 := Lib.hid (HB2.out.andThen hb); have fq := (HBl.out.keep HB3.out).frozen 2; have cq := (HBl.out.keep HB3.out).cell 2; simp at cq; clear hb))
      go_ret2
      have h3 := HBl.out.keep HB3.out
      have hne : mb ≠ q := fun e => by
        obtain ⟨o, h4, h5⟩ := (HOn.out.keep HB3.out).isMap
        subst e
        unfold Blk at h3
        rw [h3] at h4
        cases h4
        cases h5
      have hbl := (HBe.out.andThen HB3.out).setCell (p := ⟨q, 2, none⟩) HQ.out (.int .i64 (totP od))
      exact ⟨q, rfl, ⟨mb, m, f, h3.set_ 2 _, (HOn.out.keep HB3.out).other (gb_set _) hne, HOd.out.keep hbl, fun i a hi ha => HD.out i a (Nat.zero_le _) hi ha⟩, hbl⟩
    · obtain ⟨i, rfl⟩ : ∃ i, t = i + 1 := ⟨t - 1, by omega⟩
      obtain rfl : z = (i : Int) := by omega
      clear hz
      have hb := HR.out.2.2.2.1
      have HRw := Lib.hid (HRow.out i wr hb)
      rw [keysAt_in (by rw [HLen.out]; omega)] at HRw
      have hkl := (HB.out i (by omega)).1
      have HKn := Lib.hid (fun a ha => HN.out.key (i := i) (a := a) (by rw [HLen.out]; omega) ha)
      have HDo := Lib.hid HD.out.don
      obtain ⟨ks, hks⟩ : ∃ ks, ks = (od.getD i []).map (·.1) := ⟨_, rfl⟩
      have HKs := Lib.hid hks
      rw [← hks] at HRw hkl HKn
      clear hb hks HD
      have hi0 : (0 : Int) ≤ (i : Int) := by omega
      go_wp2_with (go_at_call 62; refine HRw.out.mono ?_; rintro e w1 ⟨v, rfl, hown, hb1⟩; obtain ⟨R, c, rfl, hsl⟩ := Sl.own hown; have HS := Lib.hid hsl; have HB1 := Lib.hid hb1; clear hown hsl hb1)
      have HR1 := Lib.hid (HR.out.keep HB1.out)
      clear HR HB1 HRw
      go_loopw [30] (fun iv wr => ∃ (k : Nat) (f : Int → Int → Int), k ≤ ks.length ∧ iv = .int .i64 k ∧ Hid (RkW w wr q p mb ((n - (i + 1)) * 1000000 + k) f) ∧ Hid (Don od f i k) ∧ Hid (Sl wr 1 R ks.length (ks.map (Value.int .i64)))) (fun iv _ => ks.length - (intOf iv).toNat)
      case atStart => exact ⟨0, f, Nat.zero_le _, rfl, by rw [Nat.add_zero]; exact HR1, HDo, HS⟩
      case round =>
        clear HR1 HDo HS
        obtain ⟨k, f, hk, rfl, HR, HD, HS⟩ := hrel
        by_cases hlt : k < ks.length
        · have hlt' : (k : Int) < (ks.length : Int) := by omega
          obtain ⟨a, hak⟩ : ∃ a, ks[k]? = some a := ⟨_, List.getElem?_eq_getElem hlt⟩
          have ham : a ∈ ks := List.mem_of_getElem? hak
          have HAo := Lib.hid (HKn.out a ham)
          have HMem := Lib.hid (show a ∈ (od.getD i []).map (·.1) from HKs.out ▸ ham)
          obtain ⟨rb, ro, rfl, hcell⟩ := HS.out.i64 rfl hlt
          have hE : ks[k] = a := (List.getElem?_eq_some_iff.1 hak).2
          rw [hE] at hcell
          have HStep := Lib.hid (HD.out.step (HKs.out ▸ hak))
          have HBl := Lib.hid HR.out.1
          have HBe := Lib.hid HR.out.2.2.2.1
          obtain ⟨m, hm, hon⟩ := HR.out.2.2.2.2
          have HM := Lib.hid hm
          have HOn := Lib.hid hon
          clear hak ham hm hon hE
          by_cases hin : i + 1 < n
          · have g1 : (i : Int) + 1 < (n : Int) := by omega
            have g2 : IntKind.i64.wrap ((i : Int) + 1) = (i : Int) + 1 := by rw [IntKind.wrap_i64]; omega
            have HCl := Lib.hid (fun b hb => HC.out.link (i := i) (a := a) (b := b) (by rw [HLen.out]; exact hin) hb)
            have HNl := Lib.hid (fun b hb => HN.out.link (i := i) (a := a) (b := b) (by rw [HLen.out]; omega) hb)
            have HFb := Lib.hid (show ∀ b ∈ lkR (od.getD i []) a, f ((i : Int) + 1) b = cnt od (i + 1) b from fun b hb => HD.out.1 (i + 1) b (by omega) (by rw [HLen.out]; exact hin) (HCl.out b hb))
            have HSum := Lib.hid (show sumZ ((lkR (od.getD i []) a).map (f ((i : Int) + 1))) = cnt od i a from by rw [cnt_step (by rw [HLen.out]; exact hin), List.map_congr_left HFb.out])
            have HFit := Lib.hid (fit_nn (cnt_nn od i a) (HF.out.1 i a (by rw [HLen.out]; omega)))
            have HFo := Lib.hid (show ∀ b ∈ lkR (od.getD i []) a, i64ok (f ((i : Int) + 1) b) from fun b hb => by
              rw [HFb.out b hb]
              have h1 := cnt_nn od (i + 1) b
              have h2 := HF.out.1 (i + 1) b (by rw [HLen.out]; exact hin)
              exact ⟨by omega, by omega⟩)
            have HLb := Lib.hid (Nat.le_trans ((HB.out i (by omega)).2 a) (show 60000 ≤ 1000000 by decide))
            have HLi := Lib.hid (HLk.out i a wr HBe.out HAo.out)
            rw [linksAt_in (by rw [HLen.out]; omega)] at HLi
            obtain ⟨l, hl⟩ : ∃ l, l = lkR (od.getD i []) a := ⟨_, rfl⟩
            rw [← hl] at HLi HLb HFo HSum HFb HNl HCl
            have HSm := Lib.hid (Sum_known (q := q) (mb := mb) (m := m) (pv := .pointer (some ⟨p, 0, none⟩)) (tv := .int .i64 0) ⟨by omega, by omega⟩ HNl.out HFo.out HLb.out HSum.out HFit.out)
            clear hl HCl HFb
            go_wp2_with (first
              | (go_at_call 52; refine (HLn.out _ HBe.out).mono ?_; rintro e w' ⟨rfl, rfl⟩)
              | (go_at_call 68; refine HLi.out.mono ?_; rintro e w2 ⟨v, rfl, hown, hb1⟩; obtain ⟨R2, c2, rfl, hsl⟩ := Sl.own hown; have HS2 := Lib.hid hsl; have HB2 := Lib.hid hb1; clear hown hsl hb1)
              | (go_at_call 67; refine (HSm.out R2 c2 w2 (HBl.out.keep HB2.out) (HOn.out.keep HB2.out) HS2.out).mono ?_; rintro e w3 ⟨rfl, hb⟩; have HB3 := Lib.hid (HB2.out.andThen hb); have cq := (HBl.out.keep HB3.out).cell 1; simp at cq; clear hb)
              | (at_mapUpdate; refine wpList_putS _ rfl _ _ _ rfl mb m f rfl (HOn.out.keep HB3.out) (by have := HM.out; unfold maxLen; omega) i a (cnt od i a) rfl rfl ⟨by omega, by omega⟩ HAo.out ?_; intro w4 hM hg; have HM4 := Lib.hid hM; have HG4 := Lib.hid hg; clear hM hg))
            go_roundw
            case rel => exact ⟨k + 1, _, by omega, by go_num, by rw [← Nat.add_assoc]; exact Lib.hid ((HR.out.keep HB3.out).put (HOn.out.keep HB3.out).isMap HG4.out HM.out HM4.out), HStep, Lib.hid ((HS.out.keep HB3.out).turned (HOn.out.keep HB3.out).isMap HG4.out)⟩
            case measure => simp [intOf]; omega
          · have hi : i + 1 = n := by omega
            have g1 : ¬ (i : Int) + 1 < (n : Int) := by omega
            have g2 : IntKind.i64.wrap ((i : Int) + 1) = (i : Int) + 1 := by rw [IntKind.wrap_i64]; omega
            rw [cnt_last (by rw [HLen.out]; exact hi) a] at HStep
            have cq := HBl.out.cell 1
            simp at cq
            clear hi
            go_wp2_with (first
              | (go_at_call 52; refine (HLn.out _ HBe.out).mono ?_; rintro e w' ⟨rfl, rfl⟩)
              | (at_mapUpdate; refine wpList_putS _ rfl _ _ _ rfl mb m f rfl HOn.out (by have := HM.out; unfold maxLen; omega) i a 1 rfl rfl ⟨by omega, by omega⟩ HAo.out ?_; intro w4 hM hg; have HM4 := Lib.hid hM; have HG4 := Lib.hid hg; clear hM hg))
            go_roundw
            case rel => exact ⟨k + 1, _, by omega, by go_num, by rw [← Nat.add_assoc]; exact Lib.hid (HR.out.put HOn.out.isMap HG4.out HM.out HM4.out), HStep, Lib.hid (HS.out.turned HOn.out.isMap HG4.out)⟩
            case measure => simp [intOf]; omega
        · obtain rfl : k = ks.length := by omega
          have hlt' : ¬ (ks.length : Int) < (ks.length : Int) := by omega
          have g2 : IntKind.i64.wrap ((i : Int) - 1) = (i : Int) - 1 := by rw [IntKind.wrap_i64]; omega
          have HDn := Lib.hid (HD.out.donR (by rw [← HKs.out]; exact Nat.le_refl _))
          go_wp2_with fail
          go_roundw
          case rel => exact ⟨i, f, by omega, ⟨_, rfl, rfl⟩, Lib.hid (HR.out.mono (by omega)), HDn⟩
          case measure => simp [intOf]
end Go.Proofs.YtmonepclhbappaaDoor
/-
  Ranks: the contracts of next, At.
-/
namespace Go.Proofs.YtmonepclhbappaaDoor
open Go.RowKit Go.Maps
set_option maxRecDepth 100000
set_option linter.unusedVariables false

/-- What may come behind a path's beginning. -/
def nextL (od : List Rw) (l : List Int) : List Int := if l = [] then keysAt od 0 else linksAt od ((l.length : Int) - 1) (l.getD (l.length - 1) 0)

set_option maxHeartbeats 4000000 in
theorem Next_any (q p : Nat) (od : List Rw) (l : List Int) (A : Option Addr) (n c : Nat) (w : World) (h : RkM w q p od) (hB : OdB 60000 od) (h8 : od.length ≤ 100) (hl : l.length = n) (hn : n ≤ 1000000) (hs : Sl w 1 A n (l.map (Value.int .i64))) (hx : ∀ x ∈ l, i64ok x) :
    Calls Tryd.prog 73 #[.pointer (some ⟨q, 0, none⟩), .slice A n c] w fun e w' => ∃ v, e = .returned v ∧ w'.ownsRow w.heap.size 3 1 v (nextL od l).length ((nextL od l).map (Value.int .i64)) ∧ Below w.heap.size w w' := by
  obtain ⟨mb, m, f, hq, _, hod, _⟩ := h
  have c0 := hq.cell 0
  simp at c0
  by_cases h0 : n = 0
  · subst h0
    have hE : nextL od l = keysAt od 0 := if_pos (List.eq_nil_of_length_eq_zero hl)
    have HRw := Lib.hid (OdRow_any p od 0 w hod (fun r hr => (hB r hr).mono (by omega)) h8)
    rw [hE]
    clear hq hod hE hs hx hl hB h8 hn
    go_enter Tryd.func73, Tryd.ntmps73
    go_wp2_with (go_at_call 62; refine HRw.out.mono ?_; clear HRw; rintro e w1 ⟨v, rfl, hown, hb⟩; have HO := Lib.hid hown; have HB1 := Lib.hid hb; clear hown hb)
    go_ret
    exact ⟨_, rfl, HO.out, HB1.out⟩
  · obtain ⟨k, hk⟩ : ∃ k, n = k + 1 := ⟨n - 1, by omega⟩
    have hlk : k < l.length := by omega
    obtain ⟨b, off, rfl, hc⟩ := hs.i64 hl (show k < n by omega)
    obtain ⟨x, hxk⟩ : ∃ x, l[k] = x := ⟨_, rfl⟩
    have hxo := hx x (by rw [← hxk]; exact List.getElem_mem hlk)
    rw [hxk] at hc
    have hE : nextL od l = linksAt od (k : Int) x := by
      unfold nextL
      rw [if_neg (fun e => by rw [e] at hlk; cases hlk), hl, hk, List.getD_eq_getElem?_getD, show k + 1 - 1 = k from rfl, List.getElem?_eq_getElem hlk, hxk, show (((k + 1 : Nat) : Int) - 1) = (k : Int) by omega]
      rfl
    have HLi := Lib.hid (OdLinks_any p od (k : Int) x w.drew (hod.keep (bel_drewN (Below.refl _ _) 1)) (fun r hr => (hB r hr).mono (by omega)) h8 hxo)
    rw [hE]
    have hw : IntKind.i64.wrap ((n : Int) - 1) = (k : Int) := by rw [IntKind.wrap_i64]; omega
    have g1 : (0 : Int) ≤ (k : Int) := by omega
    have g2 : (k : Int) < (n : Int) := by omega
    have g3 : ¬ (n : Int) = 0 := by omega
    have g4 : ((n : Int) == 0) = false := by simpa using g3
    have HKc := Lib.hid (show ∀ W, Below w.drew.heap.size w.drew W → W.cell? ⟨q, 0, none⟩ = some (.pointer (some ⟨p, 0, none⟩)) ∧ W.cell? ⟨b, off + k, none⟩ = some (.int .i64 x) from fun W hb => ⟨(hb.cell (p := ⟨q, 0, none⟩) (World.block_lt_of_cell? w _ c0)).trans c0, (hb.cell (p := ⟨b, off + k, none⟩) (World.block_lt_of_cell? w _ hc)).trans hc⟩)
    clear hq hod hE hs hx hl hB h8 hn hk hlk hxk hxo h0
    go_enter Tryd.func73, Tryd.ntmps73
    go_wp2_with fail
    go_region_held3 (fun w' => w'.cell? ⟨q, 0, none⟩ = some (.pointer (some ⟨p, 0, none⟩)) ∧ w'.cell? ⟨b, off + k, none⟩ = some (.int .i64 x)) (go_keep)
      ((go_at_call 68; refine HLi.out.mono ?_; clear HLi; rintro e' w3 ⟨v, rfl, hown, hb⟩; have zz := HKc.out _ hb; have HO := Lib.hid hown; have HB1 := Lib.hid hb; clear hown hb))
    go_wp2_with fail
    go_ret
    exact ⟨_, rfl, HO.out, (bel_drewN (Below.refl w.heap.size w) 1).andThen HB1.out⟩
end Go.Proofs.YtmonepclhbappaaDoor
/-
  Ranks plainly: which path a rank picks, step by step.
-/
namespace Go.Proofs.YtmonepclhbappaaDoor
open Go.RowKit
set_option linter.unusedVariables false

/-- What may still come behind a beginning. -/
def sfx (od : List Rw) (l : List Int) : List (List Int) := (nextL od l).flatMap (tls (od.drop l.length))
theorem tls_last {od : List Rw} {i : Nat} (h : i + 1 = od.length) (a : Int) : tls (od.drop i) a = [[a]] := by rw [drop_one h]; rfl
theorem tls_step {od : List Rw} {i : Nat} (h : i + 1 < od.length) (a : Int) : tls (od.drop i) a = ((lkR (od.getD i []) a).flatMap (tls (od.drop (i + 1)))).map (a :: ·) := by
  obtain ⟨r2, rs, h1, h2⟩ := drop_two h
  rw [h1, h2, List.map_flatMap]
  rfl
theorem nextL_nil (od : List Rw) : nextL od [] = keysAt od 0 := if_pos rfl
theorem nextL_snoc (od : List Rw) (l : List Int) (a : Int) : nextL od (l ++ [a]) = linksAt od (l.length : Int) a := by
  unfold nextL
  rw [if_neg (by simp)]
  have e1 : (((l ++ [a]).length : Int) - 1) = (l.length : Int) := by rw [List.length_append]; simp
  have e2 : (l ++ [a]).getD ((l ++ [a]).length - 1) 0 = a := by
    rw [List.getD_eq_getElem?_getD, List.length_append]
    simp
  rw [e1, e2]
theorem sfx_snoc {od : List Rw} {l : List Int} (h : l.length + 1 < od.length) (a : Int) : tls (od.drop l.length) a = (sfx od (l ++ [a])).map (a :: ·) := by
  unfold sfx
  rw [tls_step h, nextL_snoc, linksAt_in (by omega), List.length_append]
  rfl
theorem sfx_nil {od : List Rw} (h : 1 ≤ od.length) : sfx od [] = allP od := by
  unfold sfx allP
  rw [nextL_nil, List.length_nil, List.drop_zero]
  have := keysAt_in (od := od) (i := 0) (by omega)
  rw [show ((0 : Nat) : Int) = 0 from rfl] at this
  rw [this]
/-- The path of a rank: a beginning, what is left of the rank. -/
def Leads (od : List Rw) (n : Nat) (P : List Int) (l : List Int) (k : Nat) : Prop := ∃ s, (sfx od l)[k]? = some s ∧ P = l ++ s
/-- .. while the numbers behind a beginning are gone through. -/
def LeadsIn (od : List Rw) (P : List Int) (l : List Int) (left : List Int) (k : Nat) : Prop := ∃ s, (left.flatMap (tls (od.drop l.length)))[k]? = some s ∧ P = l ++ s
theorem Leads.begin {od : List Rw} {n : Nat} {P l : List Int} {k : Nat} (h : Leads od n P l k) : LeadsIn od P l (nextL od l) k := h
theorem LeadsIn.skip {od : List Rw} {P l left : List Int} {a : Int} {k : Nat} (h : LeadsIn od P l (a :: left) k) (hk : (cnt od l.length a) ≤ (k : Int)) : LeadsIn od P l left (k - (cnt od l.length a).toNat) := by
  obtain ⟨s, h1, h2⟩ := h
  refine ⟨s, ?_, h2⟩
  unfold cnt at hk ⊢
  rw [List.flatMap_cons, List.getElem?_append_right (by omega)] at h1
  exact h1
theorem LeadsIn.left {od : List Rw} {P l left : List Int} {k : Nat} (h : LeadsIn od P l left k) : left ≠ [] := fun e => by
  obtain ⟨s, h1, _⟩ := h
  rw [e] at h1
  cases h1
theorem LeadsIn.pick {od : List Rw} {P l left : List Int} {a : Int} {k : Nat} (h : LeadsIn od P l (a :: left) k) (hl : l.length + 1 < od.length) (hk : (k : Int) < cnt od l.length a) (n : Nat) : Leads od n P (l ++ [a]) k := by
  obtain ⟨s, h1, h2⟩ := h
  unfold cnt at hk
  rw [List.flatMap_cons, List.getElem?_append_left (by omega), sfx_snoc hl, List.getElem?_map] at h1
  obtain ⟨s', h3, rfl⟩ := Option.map_eq_some_iff.1 h1
  exact ⟨s', h3, by rw [h2, List.append_assoc]; rfl⟩
theorem LeadsIn.last {od : List Rw} {P l left : List Int} {a : Int} {k : Nat} (h : LeadsIn od P l (a :: left) k) (hl : l.length + 1 = od.length) (hk : (k : Int) < cnt od l.length a) : P = l ++ [a] := by
  obtain ⟨s, h1, h2⟩ := h
  unfold cnt at hk
  rw [List.flatMap_cons, List.getElem?_append_left (by omega), tls_last hl] at h1
  rw [h2, List.mem_singleton.1 (List.mem_of_getElem? h1)]
end Go.Proofs.YtmonepclhbappaaDoor
