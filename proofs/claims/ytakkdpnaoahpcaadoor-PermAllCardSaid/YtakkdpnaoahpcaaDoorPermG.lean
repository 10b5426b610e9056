/-
  perm.All: the iterator's contract: its orders come one by one as the plain list says.
-/
import Derived.RangeFuncNested
import Derived.RangeFuncBound
import Derived.RangeFuncCalls
import Derived.RangeFuncLeaves
import Derived.Shelf.Abstract
import Derived.Shelf.RegionOpen
import Derived.WalkKit
import Derived.OwnWalkIn
import Derived.TacticsInMore
import Derived.LoopNIn
import Derived.LoopIn
import Derived.Test.YtakkdpnaoahpcaaDoorPermF
namespace Go.Proofs.YtakkdpnaoahpcaaDoor
open Go.RowKit Go.Shelf
attribute [local go_sem] Oper.semAt_some
set_option maxRecDepth 100000
set_option linter.unusedVariables false

theorem room_none {F : Fence} (hd : F.depth = none) (k : Nat) : F.room k := fun d h => by rw [hd] at h; cases h
theorem roundIn_any {F : Fence} (hd : F.depth = none) {m m' : Nat} {P : Program} {l : Nat} {f : FuncId} {tmps : Array Value} {assign body : Code} {w : World} {R : Ending → World → Prop}
    (h : RoundIn F m P l f tmps assign body w R) : RoundIn F m' P l f tmps assign body w R := ⟨h.1, fun c cs _ => h.2 c cs (room_none hd _)⟩
theorem yieldAt_any {F : Fence} (hd : F.depth = none) {m : Nat} (m' : Nat) {P : Program} {l : Nat} {args : Array Value} {W : World} {R : Ending → World → Prop} (h : YieldAt F m P l args W R) : YieldAt F m' P l args W R := by
  obtain ⟨fn, tmps, assign, body, hy, hR⟩ := h
  exact ⟨fn, tmps, assign, body, hy, roundIn_any hd hR⟩

/-- What a round is asked: where it may be called, and what it leaves. -/
def Asks (l n₁ N : Nat) (G : List (List Int)) (J Jx : List Row → World → Prop) : Prop :=
  ∀ (m : Nat) (pre : List Row) (x : Row) (W1 : World), J pre W1 → (RowOK W1 x ∧ G[pre.length]? = some x.2.2) → pre.length < N → YieldAt Fence.wide m Tryd.prog l #[rv x] W1 fun e W' =>
    (e = .returned (.bool true) ∧ J (pre ++ [x]) W' ∧ Kpp n₁ W1 W') ∨ (e = .returned (.bool false) ∧ Jx (pre ++ [x]) W')

set_option maxHeartbeats 4000000 in
theorem fill_leaf {l n₁ N : Nat} {G : List (List Int)} {J Jx : List Row → World → Prop} (hJ : ∀ s A B, J s A → A.grownBy B none → J s B) (hY : Asks l n₁ N G J Jx) : FillOK l n₁ N G J Jx 0 := by
  intro P L A B a b pre W hPm hL hA hPa hA0 hB hmb hb63 hn1 hG hN hJ0
  have hGP : G[pre.length]? = some P := by
    have := hG 0 [] rfl
    simpa using this
  have hlt : pre.length < N := by
    have : fac 0 = 1 := rfl
    omega
  have HC := Lib.hid ((CloneI_any P A P.length a W rfl (by omega) hA.1).mono (R' := fun e W1 => ∃ C k, e = .returned (.slice C P.length k) ∧ Kpp n₁ W W1 ∧ YieldAt Fence.wide 2 Tryd.prog l #[.slice C P.length k] W1 fun e W' =>
    (e = .returned (.bool true) ∧ J (pre ++ [(C, k, P)]) W' ∧ Kpp n₁ W1 W') ∨ (e = .returned (.bool false) ∧ Jx (pre ++ [(C, k, P)]) W')) (fun e W1 h => by
      obtain ⟨C, k, rfl, hs, hk, hb⟩ := h
      exact ⟨C, k, rfl, Kpp.of_below hb, hY 2 pre (C, k, P) W1 (hJ _ _ _ hJ0 (gb_below hb none)) ⟨⟨hs, hk.1, hk.2⟩, hGP⟩ hlt⟩))
  clear hY hJ hA hB hG hJ0 hA0
  obtain rfl : L = [] := List.eq_nil_of_length_eq_zero hL
  refine (callsIn_wide (n := 3)).1 ?_
  refine callsIn_of_wp Tryd.func15 rfl trivial ?_ rfl
  simp only [Tryd.ntmps15, List.size_toArray, List.length_cons, List.length_nil, Nat.reduceAdd, Nat.reduceSub, Array.replicate_succ, Array.replicate_zero, List.push_toArray, List.append_toArray, List.nil_append, List.cons_append]
  gi_wp2_with (first
    | ((try refine ⟨trivial, ?_⟩); gi_at_call 24; refine (callsIn_wide.2 HC.out).mono ?_; clear HC; rintro e W1 ⟨C, k, rfl, hk1, fn, tmps, assign, body, hy, hR⟩)
    | (refine hR.mono ?_; clear hR; rintro e W2 (⟨rfl, hJ2, hk2⟩ | ⟨rfl, hx2⟩)))
  · go_ret
    exact ⟨true, rfl, .inl ⟨rfl, ⟨[(C, k, P)], rfl, hJ2⟩, hk1.trans hk2⟩⟩
  · go_ret
    exact ⟨false, rfl, .inr ⟨rfl, [(C, k, P)], hx2⟩⟩

theorem fill_ok {l n₁ N : Nat} {G : List (List Int)} {J Jx : List Row → World → Prop} (hJ : ∀ s A B, J s A → A.grownBy B none → J s B) (hY : Asks l n₁ N G J Jx) (m : Nat) : FillOK l n₁ N G J Jx m := by
  induction m with
  | zero => exact fill_leaf hJ hY
  | succ m ih => exact fill_step hJ ih

/-- The orders of n; none where n is no size. -/
def orders (n : Int) : List (List Int) := if 0 ≤ n ∧ n ≤ 8 then fills n.toNat (ids n.toNat) else []
theorem orders_nat {n : Nat} (h : n ≤ 8) : orders (n : Int) = fills n (ids n) := by
  unfold orders
  rw [if_pos (by omega)]
  rfl
theorem orders_none {n : Int} (h : n < 0 ∨ 8 < n) : orders n = [] := by
  unfold orders
  rw [if_neg (by omega)]

set_option maxHeartbeats 4000000 in
theorem all_gives (k n₁ : Nat) (n : Int) (B : Nat) (w : World) (hc : w.cell? ⟨B, 0, none⟩ = some (.int .i64 n)) (hB : B < w.heap.size) (hn₁ : n₁ ≤ w.heap.size) :
    GivesKnown Fence.wide k Tryd.prog 14 #[.pointer (some ⟨B, 0, none⟩)] (fun x : Row => #[rv x]) (fun pre x W => RowOK W x ∧ (orders n)[pre.length]? = some x.2.2) (fun _ => Kpp n₁) (fun xs => xs.length = (orders n).length) (fun _ => True) (orders n).length w := by
  intro l J Jx W hW hJ hJx hY h0
  have hJ' : ∀ s A B, J s A → A.grownBy B none → J s B := fun s A B h hg => hJ s A B none h hg (fun r e => by cases e)
  have hc' : W.cell? ⟨B, 0, none⟩ = some (.int .i64 n) := (hW.cell (p := ⟨B, 0, none⟩) hB).trans hc
  have hsz : n₁ ≤ W.heap.size := Nat.le_trans hn₁ hW.size
  have hA : Asks l n₁ (orders n).length (orders n) J Jx := fun m pre x W1 h1 h2 h3 => yieldAt_any rfl m (hY pre x W1 h1 h2 h3)
  clear hW hc hn₁ hY hJ hJx
  by_cases hn : 0 ≤ n ∧ n ≤ 8
  · obtain ⟨m, rfl⟩ : ∃ m : Nat, n = (m : Int) := ⟨n.toNat, by omega⟩
    have hm8 : m ≤ 8 := by omega
    have hm0 : (0 : Int) ≤ (m : Int) := by omega
    have hm8' : (m : Int) ≤ 8 := by omega
    rw [orders_nat hm8] at hA ⊢
    have HI := Lib.hid ((Id_any m W hm8).mono (R' := fun e W1 => ∃ (C : Option Addr) (c : Nat), e = .returned (.slice C m c) ∧ Calls Tryd.prog 15 #[.slice none 0 0, .slice C m c, .func (.yield l) #[] #[]] W1 (FillEnd n₁ (fac m) J Jx [] W1)) (fun e W1 h => by
      obtain ⟨v, rfl, hown, hb⟩ := h
      obtain ⟨C, c, rfl, hs⟩ := Sl.own hown
      have hcap := own_cap hown
      refine ⟨C, c, rfl, ?_⟩
      have := fill_ok hJ' hA m [] (ids m) none C 0 c [] W1 (by simpa using hm8) (by simp [ids]) ⟨Sl.nil _ _ _, fun x h => by cases h⟩ (Nat.le_refl _) (fun _ => rfl) ⟨hs, fun x hx => by
        subst hx
        exact Nat.le_trans hsz (hown.lt _ rfl).1⟩ hcap.1 hcap.2 (Nat.le_trans hsz hb.size) (fun i q h => by simpa using h) (by rw [fills_len]; simp) (hJ' _ _ _ h0 (gb_below hb none))
      exact this))
    clear hA hJ' h0
    have HF := Lib.hid (fills_len m (ids m))
    refine callsIn_of_wp Tryd.func14 rfl trivial ?_ rfl
    simp only [Tryd.ntmps14, List.size_toArray, List.length_cons, List.length_nil, Nat.reduceAdd, Nat.reduceSub, Array.replicate_succ, Array.replicate_zero, List.push_toArray, List.append_toArray, List.nil_append, List.cons_append]
    gi_wp2_with (first
      | ((try refine ⟨trivial, ?_⟩); (try refine ⟨fun h => (by cases h), ?_⟩); gi_at_call 5; refine (callsIn_wide.2 HI.out).mono ?_; clear HI; rintro e W1 ⟨C, c, rfl, hfl⟩; have HFl := Lib.hid hfl; clear hfl)
      | ((try refine ⟨trivial, ?_⟩); (try refine ⟨fun h => (by cases h), ?_⟩); gi_at_call 15; refine (callsIn_wide.2 HFl.out).mono ?_; clear HFl; rintro e W2 ⟨r, rfl, hres⟩; have HR := Lib.hid hres; clear hres))
    go_end0
    refine ⟨⟨_, rfl⟩, ?_⟩
    rcases HR.out with ⟨_, ⟨ys, h1, h2⟩, _⟩ | ⟨_, ys, h2⟩
    · exact .inl ⟨ys, by rw [HF.out]; exact h1, by simpa using h2⟩
    · exact .inr ⟨ys, trivial, by simpa using h2⟩
  · have hne : orders n = [] := orders_none (by omega)
    have HE := Lib.hid hne
    have H0 := Lib.hid h0
    clear hne hA h0 hJ'
    by_cases hn0 : 0 ≤ n
    · have hn8 : ¬ n ≤ 8 := by omega
      refine callsIn_of_wp Tryd.func14 rfl trivial ?_ rfl
      simp only [Tryd.ntmps14, List.size_toArray, List.length_cons, List.length_nil, Nat.reduceAdd, Nat.reduceSub, Array.replicate_succ, Array.replicate_zero, List.push_toArray, List.append_toArray, List.nil_append, List.cons_append]
      gi_wp2
      go_end0
      exact ⟨⟨_, rfl⟩, .inl ⟨[], by rw [HE.out]; rfl, H0.out⟩⟩
    · refine callsIn_of_wp Tryd.func14 rfl trivial ?_ rfl
      simp only [Tryd.ntmps14, List.size_toArray, List.length_cons, List.length_nil, Nat.reduceAdd, Nat.reduceSub, Array.replicate_succ, Array.replicate_zero, List.push_toArray, List.append_toArray, List.nil_append, List.cons_append]
      gi_wp2
      go_end0
      exact ⟨⟨_, rfl⟩, .inl ⟨[], by rw [HE.out]; rfl, H0.out⟩⟩

theorem All_any (n : Int) (w : World) : Calls Tryd.prog 6 #[.int .i64 n] w fun e w' => e = .returned (.func (.func 14) #[] #[.pointer (some ⟨w.heap.size, 0, none⟩)]) ∧ w' = w.alloc (.cells #[.int .i64 n] 3) := by
  go_enter Tryd.func6, Tryd.ntmps6
  go_wp2_with fail
  go_ret
  exact ⟨rfl, rfl⟩
end Go.Proofs.YtakkdpnaoahpcaaDoor
