/-
  sets.Picks: the iterator's contract: its choices come one by one as the plain list says.
-/
import Derived.RangeFuncNested
import Derived.RangeFuncBound
import Derived.RangeFuncCalls
import Derived.RangeFuncLeaves
import Derived.Shelf.Abstract
import Derived.Shelf.RegionOpen
import Derived.WalkKit
import Derived.OwnWalkIn
import Derived.TacticsInMore
import Derived.LoopNIn
import Derived.LoopIn
import Derived.Test.YtakkdpnaoahpcaaPicksF
namespace Go.Proofs.Ytakkdpnaoahpcaa
open Go.RowKit Go.Shelf
attribute [local go_sem] Oper.semAt_some
set_option maxRecDepth 100000
set_option linter.unusedVariables false

theorem room_none {F : Fence} (hd : F.depth = none) (k : Nat) : F.room k := fun d h => by rw [hd] at h; cases h
theorem roundIn_any {F : Fence} (hd : F.depth = none) {m m' : Nat} {P : Program} {l : Nat} {f : FuncId} {tmps : Array Value} {assign body : Code} {w : World} {R : Ending → World → Prop}
    (h : RoundIn F m P l f tmps assign body w R) : RoundIn F m' P l f tmps assign body w R := ⟨h.1, fun c cs _ => h.2 c cs (room_none hd _)⟩
theorem yieldAt_any {F : Fence} (hd : F.depth = none) {m : Nat} (m' : Nat) {P : Program} {l : Nat} {args : Array Value} {W : World} {R : Ending → World → Prop} (h : YieldAt F m P l args W R) : YieldAt F m' P l args W R := by
  obtain ⟨fn, tmps, assign, body, hy, hR⟩ := h
  exact ⟨fn, tmps, assign, body, hy, roundIn_any hd hR⟩

/-- What a round knows of the row that it is handed: a new one, the next of the list. -/
def Kn (n₁ : Nat) (G : List (List Int)) (pre : List Row) (x : Row) (W : World) : Prop :=
  W.ownsRow n₁ 3 1 (rv x) x.2.2.length (x.2.2.map (Value.int .i64)) ∧ G[pre.length]? = some x.2.2
/-- What a round is asked: where it may be called, and what it leaves. -/
def Asks (l : Nat) (Q : Nat → Prop) (n₁ N : Nat) (G : List (List Int)) (J Jx : List Row → World → Prop) : Prop :=
  ∀ (m : Nat) (pre : List Row) (x : Row) (W1 : World), J pre W1 → Kn n₁ G pre x W1 → pre.length < N → YieldAt Fence.wide m Try.prog l #[rv x] W1 fun e W' =>
    (e = .returned (.bool true) ∧ J (pre ++ [x]) W' ∧ Kq Q x W1 W') ∨ (e = .returned (.bool false) ∧ Jx (pre ++ [x]) W')

set_option maxHeartbeats 4000000 in
theorem picks_leaf {l n₁ N : Nat} {Q : Nat → Prop} {G : List (List Int)} {J Jx : List Row → World → Prop} (hJ : ∀ s A B, J s A → A.grownBy B none → J s B) (hY : Asks l Q n₁ N G J Jx) : PickOK l Q n₁ N G J Jx 0 := by
  intro P L A B a b pre W hPm hL1 hA hPa hA0 hB hmb hb63 hn1 hG hN hJ0
  rw [combos_zero] at hG hN ⊢
  have hGP : G[pre.length]? = some P := by
    have := hG 0 [] rfl
    simpa using this
  have hlt : pre.length < N := hN
  have HC := Lib.hid ((CloneI_own P A P.length a W rfl (by omega) hA.1).mono (R' := fun e W1 => ∃ C c, e = .returned (.slice C P.length c) ∧ (Below W.heap.size W W1 ∧ ∀ y : Addr, C = some y → W.heap.size ≤ y.block) ∧ YieldAt Fence.wide 2 Try.prog l #[.slice C P.length c] W1 fun e W' =>
    (e = .returned (.bool true) ∧ J (pre ++ [(C, c, P)]) W' ∧ Kq Q (C, c, P) W1 W') ∨ (e = .returned (.bool false) ∧ Jx (pre ++ [(C, c, P)]) W')) (fun e W1 h => by
      obtain ⟨v, rfl, hown, hb⟩ := h
      obtain ⟨C, c, rfl, hs⟩ := Sl.own hown
      exact ⟨C, c, rfl, ⟨hb, fun y hy => by subst hy; exact (hown.lt _ rfl).1⟩, hY 2 pre (C, c, P) W1 (hJ _ _ _ hJ0 (gb_below hb none)) ⟨own_mono hown hn1, hGP⟩ hlt⟩))
  clear hY hJ hA hA0 hB hG hJ0
  refine (callsIn_wide (n := 3)).1 ?_
  refine callsIn_of_wp Try.func40 rfl trivial ?_ rfl
  simp only [Try.ntmps40, List.size_toArray, List.length_cons, List.length_nil, Nat.reduceAdd, Nat.reduceSub, Array.replicate_succ, Array.replicate_zero, List.push_toArray, List.append_toArray, List.nil_append, List.cons_append]
  gi_wp2_with (first
    | ((try refine ⟨trivial, ?_⟩); gi_at_call 33; refine (callsIn_wide.2 HC.out).mono ?_; clear HC; rintro e W1 ⟨C, c, rfl, hk1, fn, tmps, assign, body, hy, hR⟩; have HK1 := Lib.hid hk1; clear hk1)
    | (refine hR.mono ?_; clear hR; rintro e W2 (⟨rfl, hJ2, hk2⟩ | ⟨rfl, hx2⟩)))
  · go_ret
    exact ⟨true, rfl, .inl ⟨rfl, ⟨[(C, c, P)], rfl, hJ2⟩, Kept.then_round HK1.out.1 HK1.out.2 hk2⟩⟩
  · go_ret
    exact ⟨false, rfl, .inr ⟨rfl, [(C, c, P)], Nat.one_pos, Nat.le_refl _, hx2⟩⟩

theorem picks_ok {l n₁ N : Nat} {Q : Nat → Prop} {G : List (List Int)} {J Jx : List Row → World → Prop} (hQ : ∀ k, n₁ ≤ k → Q k) (hJ : ∀ s A B, J s A → A.grownBy B none → J s B) (hY : Asks l Q n₁ N G J Jx) (k : Nat) : PickOK l Q n₁ N G J Jx k := by
  induction k with
  | zero => exact picks_leaf hJ hY
  | succ k ih => exact picks_step hQ hJ ih

theorem choices_nat {S : List Int} {k : Nat} (h : k ≤ S.length) : choices S (k : Int) = combos k S := by
  unfold choices
  rw [if_pos (by omega)]
  rfl
theorem choices_none {S : List Int} {k : Int} (h : k < 0 ∨ (S.length : Int) < k) : choices S k = [] := by
  unfold choices
  rw [if_neg (by omega)]

set_option maxHeartbeats 4000000 in
theorem picks_gives (d n₁ : Nat) (Q : Nat → Prop) (hQ : ∀ k, n₁ ≤ k → Q k) (S : List Int) (k : Int) (A : Option Addr) (n c : Nat) (Bk Bs : Nat) (w : World) (hk : w.cell? ⟨Bk, 0, none⟩ = some (.int .i64 k)) (hBk : Bk < w.heap.size) (hsB : w.cell? ⟨Bs, 0, none⟩ = some (.slice A n c)) (hBs : Bs < w.heap.size)
    (hS : S.length = n) (hn : n ≤ 1000) (hnc : n ≤ c) (hc : c ≤ 9223372036854775807) (hA : Sl w 1 A n (S.map (Value.int .i64))) (hAQ : ∀ x : Addr, A = some x → Q x.block) (hn₁ : n₁ ≤ w.heap.size) :
    GivesKnown Fence.wide d Try.prog 39 #[.pointer (some ⟨Bk, 0, none⟩), .pointer (some ⟨Bs, 0, none⟩)] (fun x : Row => #[rv x]) (Kn n₁ (choices S k)) (Kq Q) (fun xs => xs.length = (choices S k).length) (fun pre => 0 < pre.length ∧ pre.length ≤ (choices S k).length) (choices S k).length w := by
  intro l J Jx W hW hJ hJx hY h0
  have hJ' : ∀ s A B, J s A → A.grownBy B none → J s B := fun s A B h hg => hJ s A B none h hg (fun r e => by cases e)
  have ck : W.cell? ⟨Bk, 0, none⟩ = some (.int .i64 k) := (hW.cell (p := ⟨Bk, 0, none⟩) hBk).trans hk
  have cs : W.cell? ⟨Bs, 0, none⟩ = some (.slice A n c) := (hW.cell (p := ⟨Bs, 0, none⟩) hBs).trans hsB
  have hsl := hA.keep hW
  have hsz : n₁ ≤ W.heap.size := Nat.le_trans hn₁ hW.size
  have hAs : Asks l Q n₁ (choices S k).length (choices S k) J Jx := fun m pre x W1 h1 h2 h3 => yieldAt_any rfl m (hY pre x W1 h1 h2 h3)
  clear hW hk hsB hn₁ hY hJ hJx hA
  by_cases hkn : 0 ≤ k ∧ k ≤ (n : Int)
  · obtain ⟨m, rfl⟩ : ∃ m : Nat, k = (m : Int) := ⟨k.toNat, by omega⟩
    have hm0 : (0 : Int) ≤ (m : Int) := by omega
    have hmn : (m : Int) ≤ (n : Int) := hkn.2
    have hmS : m ≤ S.length := by omega
    rw [choices_nat hmS] at hAs ⊢
    have hp := picks_ok hQ hJ' hAs m [] S none A 0 c [] W (by show 0 + m ≤ 1000; omega) (by omega) ⟨Sl.nil _ _ _, fun x h => by cases h⟩ (Nat.le_refl _) (fun _ => rfl) ⟨by rw [hS]; exact hsl, hAQ⟩ (by omega) hc hsz (fun i q h => by simpa using h) (by simp) h0
    rw [hS] at hp
    have HP := Lib.hid hp
    clear hp hAs hJ' h0 hsl hS hAQ hQ
    refine callsIn_of_wp Try.func39 rfl trivial ?_ rfl
    simp only [Try.ntmps39, List.size_toArray, List.length_cons, List.length_nil, Nat.reduceAdd, Nat.reduceSub, Array.replicate_succ, Array.replicate_zero, List.push_toArray, List.append_toArray, List.nil_append, List.cons_append]
    gi_wp2_with ((try refine ⟨trivial, ?_⟩); (try refine ⟨fun h => (by cases h), ?_⟩); gi_at_call 40; refine (callsIn_wide.2 HP.out).mono ?_; clear HP; rintro e W2 ⟨r, rfl, hres⟩; have HR := Lib.hid hres; clear hres)
    go_end0
    refine ⟨⟨_, rfl⟩, ?_⟩
    rcases HR.out with ⟨_, ⟨ys, h1, h2⟩, _⟩ | ⟨_, ys, h1, h2, h3⟩
    · exact .inl ⟨ys, h1, by simpa using h2⟩
    · exact .inr ⟨ys, ⟨h1, h2⟩, by simpa using h3⟩
  · have hne : choices S k = [] := choices_none (by omega)
    have HE := Lib.hid hne
    have H0 := Lib.hid h0
    clear hne hAs h0 hJ' hsl hS hAQ hQ
    by_cases hn0 : 0 ≤ k
    · have hn8 : ¬ k ≤ (n : Int) := by omega
      refine callsIn_of_wp Try.func39 rfl trivial ?_ rfl
      simp only [Try.ntmps39, List.size_toArray, List.length_cons, List.length_nil, Nat.reduceAdd, Nat.reduceSub, Array.replicate_succ, Array.replicate_zero, List.push_toArray, List.append_toArray, List.nil_append, List.cons_append]
      gi_wp2
      go_end0
      exact ⟨⟨_, rfl⟩, .inl ⟨[], by rw [HE.out]; rfl, H0.out⟩⟩
    · refine callsIn_of_wp Try.func39 rfl trivial ?_ rfl
      simp only [Try.ntmps39, List.size_toArray, List.length_cons, List.length_nil, Nat.reduceAdd, Nat.reduceSub, Array.replicate_succ, Array.replicate_zero, List.push_toArray, List.append_toArray, List.nil_append, List.cons_append]
      gi_wp2
      go_end0
      exact ⟨⟨_, rfl⟩, .inl ⟨[], by rw [HE.out]; rfl, H0.out⟩⟩

theorem Picks_any (A : Option Addr) (n c : Nat) (k : Int) (w : World) : Calls Try.prog 25 #[.slice A n c, .int .i64 k] w fun e w' => e = .returned (.func (.func 39) #[] #[.pointer (some ⟨w.heap.size + 1, 0, none⟩), .pointer (some ⟨w.heap.size, 0, none⟩)]) ∧ w' = (w.alloc (.cells #[.slice A n c] 22)).alloc (.cells #[.int .i64 k] 3) := by
  go_enter Try.func25, Try.ntmps25
  go_wp2_with fail
  go_ret
  exact ⟨rfl, rfl⟩

/-! ### words for the laws' walks -/
theorem boxed_keep {W W' : World} {B : Nat} {t : TypeId} {v : Value} (h : Boxed W B t v) (hb : Below W.heap.size W W') : Boxed W' B t v := (hb.block B h.lt).trans h
theorem kn_put {n₁ : Nat} {G : List (List Int)} (pre : List Row) (x : Row) (W : World) (l : Nat) (o o' : Obj) (hl : W.heap[l]? = some o) (ho : o.isCells = false) (h : Kn n₁ G pre x W) : Kn n₁ G pre x (W.putObj l o') := ⟨ownsRow_putObj h.1 o' hl ho, h.2⟩
theorem ko_below {W W' : World} (hb : Below W.heap.size W W') : KeepsOthers W W' := ⟨hb.size, fun k o hk _ => (hb.block k (Array.getElem?_eq_some_iff.1 hk).1).trans hk⟩
theorem marks_end {F : Fence} {n : Nat} {P : Program} {fn : Func} {R : Ending → World → Prop} {a : Act} {w : World} {v : Value}
    (hd : a.defers = []) (hr : (results fn a.tmps).run P w = .ok v w) (hR : R (.returned v) w) : bodyPostM F n P fn R .ret a w := by
  show LeavesInM F n P fn a.tmps R a.defers .returning w
  rw [hd]
  exact ⟨v, hr, hR⟩
theorem marks_end1 {F : Fence} {n : Nat} {P : Program} {fn : Func} {R : Ending → World → Prop} {a : Act} {w : World} {v : Value} {D : Nat}
    (hd : a.defers = [{ target := .collected D, args := #[] }]) (hK : w.heap[D]? = some (.deferred (some []))) (hr : (results fn a.tmps).run P (w.putObj D (.deferred none)) = .ok v (w.putObj D (.deferred none))) (hR : R (.returned v) (w.putObj D (.deferred none))) : bodyPostM F n P fn R .ret a w := by
  show LeavesInM F n P fn a.tmps R a.defers .returning w
  rw [hd]
  refine ⟨by simp, .inl ⟨_, _, rfl, run_takeDeferred hK, ?_⟩⟩
  exact ⟨v, hr, hR⟩
end Go.Proofs.Ytakkdpnaoahpcaa
