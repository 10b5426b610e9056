/-
  A range over a function whose rounds are handed memory: what a round may know of the value that it is handed (Kn). One law, over the kit's rule for the statement (wpIn_rangeFunc).
-/
import Derived.RangeFuncFrom
namespace Go.Proofs.YtmonepclhbappaaDoor
open Go.RowKit
set_option linter.unusedVariables false
variable {F : Fence} {n : Nat} {P : Program}

/-- An iterator's contract: each round is asked only where Kn holds of the value and the world. -/
def GivesKnown {α : Type} (F : Fence) (n : Nat) (P : Program) (g : Nat) (lb : Array Value) (encs : α → Array Value) (Kn : List α → α → World → Prop) (Kp : α → World → World → Prop) (S Sp : List α → Prop) (N : Nat) (w : World) : Prop :=
  ∀ (l : Nat) (J Jx : List α → World → Prop) (W : World), Below w.heap.size w W → AbidesFrom W.heap.size J → AbidesFrom W.heap.size Jx →
    (∀ pre x W1, J pre W1 → Kn pre x W1 → pre.length < N → YieldAt F (n - 1) P l (encs x) W1 fun e W' =>
      (e = .returned (.bool true) ∧ J (pre ++ [x]) W' ∧ Kp x W1 W') ∨ (e = .returned (.bool false) ∧ Jx (pre ++ [x]) W')) →
    J [] W →
    CallsIn F n P g (#[.func (.yield l) #[] #[]] ++ lb) W fun e W' => (∃ v, e = .returned v) ∧ ((∃ xs, S xs ∧ J xs W') ∨ (∃ pre, Sp pre ∧ Jx pre W'))

/-- The loop's two blocks, the record in this state. -/
def LoopLies (D : Nat) (r : Loop) (W : World) : Prop := W.heap[D + 1]? = some (.loop r) ∧ W.heap[D]? = some (.deferred (some []))
theorem LoopLies.kept {D : Nat} {r : Loop} {A B : World} {row : Option Nat} (h : LoopLies D r A) (hg : A.grownBy B row) (hr : ∀ k, row = some k → ∃ o : Obj, A.heap[k]? = some o ∧ o.isWalk = true) : LoopLies D r B :=
  ⟨(grownBy_keeps hg hr h.1 rfl).trans h.1, (grownBy_keeps hg hr h.2 rfl).trans h.2⟩
theorem LoopLies.turn {D : Nat} {r r' : Loop} {W : World} (h : LoopLies D r W) : LoopLies D r' (W.putObj (D + 1) (.loop r')) :=
  ⟨World.putObj_heap_same (Array.getElem?_eq_some_iff.1 h.1).1, (World.putObj_heap_other (by omega)).trans h.2⟩
theorem LoopLies.others {D : Nat} {r : Loop} {W W' : World} (h : LoopLies D r W) (hk : KeepsOthers W W') : LoopLies D r W' := ⟨hk.same _ _ h.1 rfl, hk.same _ _ h.2 rfl⟩

/-- A round's end: how the record stands, and what the loop's owner holds. -/
theorem round_end {D : Nat} {r : Loop} {W : World} (hs : r.state = .busy) (h : LoopLies D r W) (jump : Option Code) :
    (Instr.endRound (D + 1) jump).run P W = .ok (.bool jump.isNone) (W.putObj (D + 1) (.loop { r with state := if jump.isNone then .ready else .done, pending := jump })) ∧ LoopLies D { r with state := if jump.isNone then .ready else .done, pending := jump } (W.putObj (D + 1) (.loop { r with state := if jump.isNone then .ready else .done, pending := jump })) := by
  obtain ⟨st, pe, fn, tmps, ps, as_, bd, df⟩ := r
  cases hs
  refine ⟨?_, h.turn⟩
  have := run_endRound (P := P) jump h.1
  exact this

/-- 'for x := range f': the rounds know Kn of what they are handed. -/
theorem rangeFunc_known {α : Type} {g : Operand} {ps : Array Tmp} {assign body : Code} {Q : Exit → Act → World → Prop} {a : Act} {w : World} {gf : Nat} {lb : Array Value} {encs : α → Array Value} {Kn : List α → α → World → Prop} {Kp : α → World → World → Prop} {S Sp : List α → Prop} {N : Nat} {w0 : World}
    (hro : F.round = none) (h1 : 1 ≤ n) (hg : a.eval g = .func (.func gf) #[] lb) (hFg : F.fn gf) (eg : ∀ args w, (callFunc gf args).run P w = .ok (.enter gf args) w)
    (hseq : GivesKnown F (n - 1) P gf lb encs Kn Kp S Sp N w0)
    (hKn : ∀ (pre : List α) (x : α) (W : World) (l : Nat) (o o' : Obj), W.heap[l]? = some o → o.isCells = false → Kn pre x W → Kn pre x (W.putObj l o'))
    (hKt : ∀ {x : α} {A B C : World}, Kp x A B → Kp x B C → Kp x A C) (hKb : ∀ (x : α) (W : World) (l : Nat) (o o' : Obj), w.heap.size ≤ l → W.heap[l]? = some o → o.isCells = false → o.isWalk = false → Kp x W (W.putObj l o'))
    (hb0 : Below w0.heap.size w0 w) (hps : ∀ x, (encs x).size = ps.size)
    (I : List α → World → Prop) (Ix : Code → List α → World → Prop) (hI : OwnFrom w.heap.size I) (hIx : ∀ c, OwnFrom w.heap.size (Ix c)) (h0 : I [] w) (a₁ : α → Act)
    (hassign : ∀ (l : Nat) (x : α) (W : World) (K : Act → World → Prop), K (a₁ x) W → assign.wpIn (F.inRound l) (n - 1 - 1) P (Exit.then K (fun _ _ _ => False)) { tmps := (ps.zip (encs x)).foldl (fun t (p, v) => t.setIfInBounds p v) a.tmps, defers := [] } W)
    (hbody : ∀ (l : Nat) (pre : List α) (x : α) (W : World), I pre W → Kn pre x W → pre.length < N → body.wpIn (F.inRound l) (n - 1 - 1) P (ownPostK (Kp x) I Ix (pre ++ [x]) W) (a₁ x) W)
    (hdone : ∀ (D : Nat) (xs : List α) (W : World), w.heap.size ≤ D → S xs → I xs W → W.heap[D]? = some (.deferred (some [])) → Q .normal { a with defers := { target := .collected D, args := #[] } :: a.defers } W)
    (hstop : ∀ (D : Nat) (c : Code) (pre : List α) (W : World), w.heap.size ≤ D → Sp pre → Ix c pre W → W.heap[D]? = some (.deferred (some [])) → c.wpIn F n P Q { a with defers := { target := .collected D, args := #[] } :: a.defers } W) :
    (Code.rangeFunc g ps assign body).wpIn F n P Q a w := by
  refine wpIn_rangeFunc ?_
  intro fn hfn
  rw [hro]
  obtain ⟨r0, hr0⟩ : ∃ r0 : Loop, r0 = { state := .ready, pending := none, fn, tmps := a.tmps, params := ps, assign, body, defers := w.heap.size } := ⟨_, rfl⟩
  obtain ⟨W1, hW1⟩ : ∃ W1, (w.alloc (.deferred (some []))).alloc (.loop r0) = W1 := ⟨_, rfl⟩
  have hL1 : LoopLies w.heap.size r0 W1 := by
    rw [← hW1]
    exact ⟨by simpa using World.alloc_heap_new (w.alloc (.deferred (some []))) (.loop r0), (Below.heap_alloc _ _ _ (by simp)).trans (World.alloc_heap_new w _)⟩
  have hI1 : I [] W1 := by rw [← hW1]; exact hI.alloc _ (hI.alloc _ h0)
  have hb1 : Below w0.heap.size w0 W1 := by rw [← hW1]; exact hb0.trans ((((Below.refl _ w).alloc (Nat.le_refl _) _).alloc (by simp) _).mono hb0.size)
  have hs1 : w.heap.size ≤ W1.heap.size := by rw [← hW1]; simp; omega
  refine ⟨w.heap.size + 1, [{ target := .collected w.heap.size, args := #[] }], W1, { target := .fn (.func gf) lb, args := #[.func (.yield (w.heap.size + 1)) #[] #[]] }, W1, gf, #[.func (.yield (w.heap.size + 1)) #[] #[]] ++ lb, W1, ?enter, ?target, ?leads, ?call, fun _ => h1, ?run⟩
  case enter => rw [← hW1, hr0]; exact run_enterLoop_outer _ _ _ _ _
  case target =>
    simp only [resolve, hg]
    simp [go_sem]
  case leads => intro f' hf'; simp [Target.leads] at hf'; subst hf'; exact hFg
  case call => simp [invoke, go_sem, eg]
  case run =>
  refine (hseq (w.heap.size + 1) (fun pre W => I pre W ∧ LoopLies w.heap.size r0 W) (fun pre W => ∃ c, Ix c pre W ∧ LoopLies w.heap.size { r0 with state := .done, pending := some c } W) W1 hb1 ?ab ?abx ?round ⟨hI1, hL1⟩).mono ?behind
  case ab =>
    intro s A B row hs hg' hr
    exact ⟨hI s A B row hs.1 hg' (fun r e => ⟨Nat.le_trans hs1 (hr r e).1, (hr r e).2.imp fun o h => ⟨h.1, Obj.not_cells_of_walk h.2⟩⟩), hs.2.kept hg' (fun r e => (hr r e).2)⟩
  case abx =>
    rintro s A B row ⟨c, hc, hl⟩ hg' hr
    exact ⟨c, hIx c s A B row hc hg' (fun r e => ⟨Nat.le_trans hs1 (hr r e).1, (hr r e).2.imp fun o h => ⟨h.1, Obj.not_cells_of_walk h.2⟩⟩), hl.kept hg' (fun r e => (hr r e).2)⟩
  case round =>
    rintro pre x W ⟨hi, hl⟩ hkn hlen
    have hy := run_yield (P := P) (args := encs x) hl.1 (by rw [hr0]; exact hps x)
    rw [hr0] at hy
    refine ⟨fn, _, assign, body, hy, roundIn_of_wpIn hfn (hassign _ x W _ ⟨_, run_beginRound hl.1 (by rw [hr0]), ?_⟩)⟩
    have hbusy : LoopLies w.heap.size { r0 with state := .busy } (W.putObj (w.heap.size + 1) (.loop { r0 with state := .busy })) := hl.turn
    have hw2 : Kp x W (W.putObj (w.heap.size + 1) (.loop { r0 with state := .busy })) := hKb _ _ _ _ _ (by omega) hl.1 rfl rfl
    refine wpIn_mono (hbody _ pre x _ (hI.putObj _ hi (by omega) hl.1 rfl) (hKn _ _ _ _ _ _ hl.1 rfl hkn) hlen) ?_
    have leave : ∀ (c : Code) (W3 : World), KeepsOthers (W.putObj (w.heap.size + 1) (.loop { r0 with state := .busy })) W3 → Ix c (pre ++ [x]) W3 →
        (Instr.endRound (w.heap.size + 1) (some c)).run P W3 = .ok (.bool false) (W3.putObj (w.heap.size + 1) (.loop { r0 with state := .done, pending := some c })) ∧ ∃ c', Ix c' (pre ++ [x]) (W3.putObj (w.heap.size + 1) (.loop { r0 with state := .done, pending := some c })) ∧ LoopLies w.heap.size { r0 with state := .done, pending := some c' } (W3.putObj (w.heap.size + 1) (.loop { r0 with state := .done, pending := some c })) := fun c W3 hk3 hi3 => by
      have hl3 := hbusy.others hk3
      have he := round_end (P := P) rfl hl3 (some c)
      exact ⟨he.1, c, (hIx c).putObj _ hi3 (by omega) hl3.1 rfl, he.2⟩
    intro e a3 W3 hp
    cases e with
    | normal =>
      obtain ⟨hk3, hkp3, hi3⟩ := hp
      have hl3 := hbusy.others hk3
      have he := round_end (P := P) rfl hl3 none
      have hr1 : { r0 with state := .ready, pending := none } = r0 := by rw [hr0]
      refine ⟨_, _, he.1, .inl ⟨rfl, ⟨hI.putObj _ hi3 (by omega) hl3.1 rfl, ?_⟩, hKt (hKt hw2 hkp3) (hKb _ _ _ _ _ (by omega) hl3.1 rfl rfl)⟩⟩
      have h2 := he.2
      simp only [Option.isNone_none, if_true] at h2 ⊢
      rw [hr1] at h2 ⊢
      exact h2
    | ret => obtain ⟨hr, hx⟩ := leave .ret W3 hp.1 hp.2; exact ⟨_, _, hr, .inr ⟨rfl, hx⟩⟩
    | exit id => obtain ⟨hr, hx⟩ := leave (.exit id) W3 hp.1 hp.2; exact ⟨_, _, hr, .inr ⟨rfl, hx⟩⟩
    | goto t => obtain ⟨hr, hx⟩ := leave (.goto t) W3 hp.1 hp.2; exact ⟨_, _, hr, .inr ⟨rfl, hx⟩⟩
    | panic ch => exact hp.elim
    | outgrown => exact hp.elim
  case behind =>
    rintro e W2 ⟨⟨v, rfl⟩, h⟩
    rcases h with ⟨xs, hS, hi, hl⟩ | ⟨pre, hSp, c, hi, hl⟩
    · have he := run_endLoop (P := P) hl.1 (by rw [hr0]; simp)
      rw [hr0] at he
      exact ⟨none, _, he, hdone _ xs _ (Nat.le_refl _) hS (hI.putObj _ hi (by omega) hl.1 rfl) ((World.putObj_heap_other (by omega)).trans hl.2)⟩
    · have he := run_endLoop (P := P) hl.1 (by simp)
      exact ⟨some c, _, he, hstop _ c pre _ (Nat.le_refl _) hSp ((hIx c).putObj _ hi (by omega) hl.1 rfl) ((World.putObj_heap_other (by omega)).trans hl.2)⟩

/-- The same with one loop variable: what the assignment makes of the act is said by asg. -/
theorem rangeFunc_one {α : Type} {g : Operand} {p : Tmp} {assign body : Code} {Q : Exit → Act → World → Prop} {a : Act} {w : World} {gf : Nat} {lb : Array Value} {enc : α → Value} {Kn : List α → α → World → Prop} {Kp : α → World → World → Prop} {S Sp : List α → Prop} {N : Nat} {w0 : World}
    (asg : α → Act → Act) (hro : F.round = none) (h1 : 1 ≤ n) (hg : a.eval g = .func (.func gf) #[] lb) (hFg : F.fn gf) (eg : ∀ args w, (callFunc gf args).run P w = .ok (.enter gf args) w)
    (hseq : GivesKnown F (n - 1) P gf lb (fun x => #[enc x]) Kn Kp S Sp N w0)
    (hKn : ∀ (pre : List α) (x : α) (W : World) (l : Nat) (o o' : Obj), W.heap[l]? = some o → o.isCells = false → Kn pre x W → Kn pre x (W.putObj l o'))
    (hKt : ∀ {x : α} {A B C : World}, Kp x A B → Kp x B C → Kp x A C) (hKb : ∀ (x : α) (W : World) (l : Nat) (o o' : Obj), w.heap.size ≤ l → W.heap[l]? = some o → o.isCells = false → o.isWalk = false → Kp x W (W.putObj l o'))
    (hb0 : Below w0.heap.size w0 w)
    (I : List α → World → Prop) (Ix : Code → List α → World → Prop) (hI : OwnFrom w.heap.size I) (hIx : ∀ c, OwnFrom w.heap.size (Ix c)) (h0 : I [] w)
    (hassign : ∀ (l : Nat) (x : α) (W : World) (K : Act → World → Prop), K (asg x { tmps := a.tmps.setIfInBounds p (enc x), defers := [] }) W → assign.wpIn (F.inRound l) (n - 1 - 1) P (Exit.then K (fun _ _ _ => False)) { tmps := a.tmps.setIfInBounds p (enc x), defers := [] } W)
    (hbody : ∀ (l : Nat) (pre : List α) (x : α) (W : World), I pre W → Kn pre x W → pre.length < N → body.wpIn (F.inRound l) (n - 1 - 1) P (ownPostK (Kp x) I Ix (pre ++ [x]) W) (asg x { tmps := a.tmps.setIfInBounds p (enc x), defers := [] }) W)
    (hdone : ∀ (D : Nat) (xs : List α) (W : World), w.heap.size ≤ D → S xs → I xs W → W.heap[D]? = some (.deferred (some [])) → Q .normal { a with defers := { target := .collected D, args := #[] } :: a.defers } W)
    (hstop : ∀ (D : Nat) (c : Code) (pre : List α) (W : World), w.heap.size ≤ D → Sp pre → Ix c pre W → W.heap[D]? = some (.deferred (some [])) → c.wpIn F n P Q { a with defers := { target := .collected D, args := #[] } :: a.defers } W) :
    (Code.rangeFunc g #[p] assign body).wpIn F n P Q a w :=
  rangeFunc_known hro h1 hg hFg eg hseq hKn hKt hKb hb0 (fun _ => rfl) I Ix hI hIx h0 (fun x => asg x { tmps := a.tmps.setIfInBounds p (enc x), defers := [] }) (fun l x W K hK => by
    rw [show (Array.zip #[p] #[enc x]).foldl (fun t (p, v) => t.setIfInBounds p v) a.tmps = a.tmps.setIfInBounds p (enc x) from by simp]
    exact hassign l x W K hK) hbody hdone hstop
end Go.Proofs.YtmonepclhbappaaDoor
