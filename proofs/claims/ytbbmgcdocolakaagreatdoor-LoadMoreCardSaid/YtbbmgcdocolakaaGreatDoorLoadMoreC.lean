/-
  LoadMore: for every input that the row lets in the law returns true and leaves what it was given as it was (the tied card). Conditions: those of the row, and the listed variables (errors.errorType, the tables of unicode/utf8) as the program lays them.
-/
import Derived.Test.YtbbmgcdocolakaaGreatDoorLoadMoreM4
import Derived.Test.YtbbmgcdocolakaaGreatDoorLoadMoreM24
import Derived.Test.YtbbmgcdocolakaaGreatDoorLoadMoreM3
namespace Go.Proofs.YtbbmgcdocolakaaGreatDoor.LoadMoreC
open Go.ChangeShapes Go.WideShapes Go.ChangeAt Go.RowKit
open Go.ChangeMaps (open_string shut_string)
set_option linter.unusedVariables false

set_option maxRecDepth 100000 in
/-- What the walk gives, for every argument. -/
theorem contract (H : Type) (enc : TypeId × Value → H) (W : World) (base : Nat) (args : Array Value) (ds gs : List (DataW H)) (before : List MemPlace)
    (hval : ∀ (j : Nat) t v, Tryz.f3.params[j]? = some t → args[j]? = some v → Value.okWide Tryz.prog W .any base t v)
    (hW : DataW.Whole enc Tryz.prog Tryz.f3.params.toList Rows.loadMoreSpec.vars false W args.toList ds gs before) (hL : laidMetH Tryz.prog utfLaid W) (hS : W.ShapedOpen Tryz.prog) :
    Calls Tryz.prog 3 args W fun e W' => ∃ v, e = .returned v ∧ Rows.loadMoreSpec.post enc Tryz.prog Tryz.f3 false true false false W args v W' := by
  have hW' := hW
  obtain ⟨p, q, hA0, hV, rfl, hfz, hnd⟩ := hW
  have hA : DataW.TrodAll enc Tryz.prog W 0 (fun _ => true) true Tryz.f3.params.toList args.toList ds p := hA0
  rw [Tryz.params3] at hA hval
  obtain ⟨v0, vs0, d0, ds0, p0, q0, hargs, rfl, rfl, h0, r0⟩ := trodAll_cons hA
  obtain ⟨v1, vs1, d1, ds1, p1, q1, rfl, rfl, rfl, h1, r1⟩ := trodAll_cons r0
  obtain ⟨v2, vs2, d2, ds2, p2, q2, rfl, rfl, rfl, h2, r2⟩ := trodAll_cons r1
  obtain ⟨rfl, rfl, rfl⟩ := trodAll_nil r2
  obtain rfl : args = #[v0, v1, v2] := by cases args; simp_all
  obtain ⟨rfl, rfl⟩ := trodVars_none hV
  obtain ⟨A0, n0, c0, rfl⟩ := okWide_slice Tryz.underlying22 (hval 0 22 v0 rfl rfl)
  have k0 := h0
  have lt0 : ∀ x ∈ p0, x.block < W.heap.size := by obtain ⟨m, hm⟩ := k0; exact DataW.trod_lt m _ _ _ hm
  obtain ⟨m0, l0, e0, s0, w0⟩ : n0 ≤ maxLen ∧ _ := by
    obtain ⟨fuel, hf⟩ := h0
    exact open_sl_ints Tryz.underlying22 Tryz.underlying3 (by kernel_rfl) hf
  obtain ⟨A1, n1, c1, rfl⟩ := okWide_slice Tryz.underlying23 (hval 1 23 v1 rfl rfl)
  have k1 := h1
  have lt1 : ∀ x ∈ p1, x.block < W.heap.size := by obtain ⟨m, hm⟩ := k1; exact DataW.trod_lt m _ _ _ hm
  obtain ⟨m1, l1, e1, s1, w1⟩ : n1 ≤ maxLen ∧ _ := by
    obtain ⟨fuel, hf⟩ := h1
    exact open_sl_pairs Tryz.underlying23 Tryz.underlying32 (by kernel_rfl) rfl rfl (by kernel_rfl) (by kernel_rfl) Tryz.underlying3 Tryz.underlying3 hf
  obtain ⟨a2, rfl, rfl, rfl, w2⟩ := open_int Tryz.underlying5 (hval 2 5 v2 rfl rfl) h2
  clear hA0
  refine (LoadMore_main A0 n0 c0 l0 A1 n1 c1 l1 a2 W (errT_of_utf hL) (libW_of_shape hS) m0 e0 s0 w0 (cap_ok Tryz.underlying22 (hval 0 22 (.slice A0 n0 c0) rfl rfl)) m1 e1 s1 w1 (cap_ok Tryz.underlying23 (hval 1 23 (.slice A1 n1 c1) rfl rfl)) w2).mono fun e W' ⟨he, bel⟩ => ?_
  subst he
  exact ⟨_, rfl, _, _, _, [], _, [], hW', trodAll_mk1 (shut_bool Tryz.underlying4 _), (trodAll_cons_mk (Below.trod fr_laidOut (by kernel_rfl) (of_decide_eq_true (by kernel_rfl)) k0 bel lt0) (trodAll_cons_mk (Below.trod fr_laidOut (by kernel_rfl) (of_decide_eq_true (by kernel_rfl)) k1 bel lt1) (trodAll_cons_mk (shut_int Tryz.underlying5 w2) trodAll_mk0))), rfl, bel.frame _, fun h => by cases h⟩

theorem reads (os : Os) {H : Type} (enc : TypeId × Value → H) : ∃ places, DataW.whole enc Tryz.prog ((utfWorld os).forCall (fun _ _ => 0) ⟨#[], #[.slice none 0 0, .slice none 0 0, .int .u8 0], []⟩).memory Tryz.f3.params.toList Rows.loadMoreSpec.vars false (#[.slice none 0 0, .slice none 0 0, .int .u8 0] : Array Value).toList 8 = some ([.nil, .nil, .lit (.int .u8 0)], [], places) :=
  ⟨[], by kernel_rfl⟩

set_option maxRecDepth 100000 in
theorem lifted (os : Os) (started : os.Started) (H : Type) (enc : TypeId × Value → H) (F : Stop.Interp) :
    ReturnsInHanded {} Tryz.checked os 3 .any ((OpenSpec.ofChange Rows.loadMoreSpec).preRow enc Tryz.prog Tryz.f3 Rows.loadMoreRow.domain false Rows.loadMoreRow.laid) (((OpenSpec.ofChange Rows.loadMoreSpec).at F).post enc Tryz.prog Tryz.f3 false true false false) := by
  obtain ⟨places, hx⟩ := reads os enc
  refine returnsInHanded_of_row (C := Tryz.checked) (s := OpenSpec.ofChange Rows.loadMoreSpec) fr_own started (by kernel_rfl) Tryz.func3
    (witness_row_at (enc := enc) (C := Tryz.checked) false (utfWorld os) #[.slice none 0 0, .slice none 0 0, .int .u8 0] rfl (by kernel_rfl) (by kernel_rfl) (by kernel_rfl)
      (OpenSpec.preRow_of_cond 8 hx (by kernel_rfl) (fun k hk => by cases hk) (by kernel_rfl) (utf_met os _))) ?_
  intro W base args ds gs before hval hW _ _ _ hL hS _
  exact contract H enc W base args ds gs before hval hW hL hS

theorem cl0 : ((Rows.loadMoreRow).wf (OpenSpec.ofChange (OpenSpec.ofChange Rows.loadMoreSpec).bare) && laidOutB Tryz.pinned.checked.prog && mapsRowed Tryz.pinned.checked.prog && Tryz.f3.params.all (Tryz.pinned.checked.prog.readableRec ·) && namedTie Tryz.pinned.checked.prog (Rows.loadMoreRow).named (OpenSpec.ofChange Rows.loadMoreSpec).bare.vars && ((Rows.loadMoreRow).stops == []) && (Tryz.pinned.checked.prog.stops == []) && ((Rows.loadMoreRow).knobs == []) && (Tryz.pinned.checked.prog.stopKnobs == [])) = true := by kernel_rfl
theorem cl1 : ((Rows.loadMoreRow).inPlace == Tryz.pinned.checked.prog.inPlace 3) = true := by kernel_rfl
theorem cl2 : ((Rows.loadMoreRow).unfollowed == Tryz.pinned.checked.prog.unfollowed 3) = true := by kernel_rfl
theorem cl3 : ((Rows.loadMoreRow).recurses == Tryz.pinned.checked.prog.recurses 3) = true := by kernel_rfl
theorem cl4 : ((Rows.loadMoreRow).named == Tryz.pinned.checked.prog.varsNamed 3) = true := by kernel_rfl
theorem clFn : Tryz.pinned.checked.prog.funcNamed "fretwork/fretworklaw05.LoadMore" = some 3 := by kernel_rfl
theorem clAll : joinedFacts Tryz.pinned.checked.prog 3 Tryz.f3 (OpenSpec.ofChange Rows.loadMoreSpec).bare Rows.loadMoreRow = true := joined_of cl0 cl1 cl2 cl3 cl4 (by kernel_rfl) (by kernel_rfl) (by kernel_rfl)

theorem said : Rows.LoadMoreSaid :=
  OpenClaim.holds_of_cond 3 Tryz.f3 rfl rfl rfl rfl rfl rfl rfl ⟨rfl, rfl, rfl, rfl, rfl⟩ rfl rfl rfl rfl rfl clFn Tryz.func3 clAll
    (of_decide_eq_true (by kernel_rfl)) (by unfold Func.isWrapper; rw [if_neg (of_decide_eq_false (by kernel_rfl))]; exact ⟨rfl, rfl⟩)
    (fun os started H enc _ F => by rw [OpenClaim.pre_eq_preRow]; exact lifted os started H enc F)

theorem plain (f : FuncId) (fn : Func) (hf : Tryz.pinned.checked.prog.funcNamed "fretwork/fretworklaw05.LoadMore" = some f) (hfn : Tryz.pinned.checked.prog.funcs[f]? = some fn) :
    true = Tryz.pinned.checked.prog.looks [] ∧ ∀ (j : Nat) t, fn.params[j]? = some t → Tryz.pinned.checked.prog.wantsStandIn t = false := by
  obtain rfl : f = 3 := Option.some.inj ((show Tryz.prog.funcNamed "fretwork/fretworklaw05.LoadMore" = some 3 by kernel_rfl).symm.trans hf) |>.symm
  obtain rfl : fn = Tryz.f3 := (Option.some.inj (Tryz.func3.symm.trans hfn)).symm
  refine ⟨by kernel_rfl, fun j t ht => ?_⟩
  rw [Tryz.params3] at ht
  have hall : ((#[22, 23, 5] : Array TypeId).toList.all fun t => !(Tryz.prog.wantsStandIn t)) = true := by kernel_rfl
  have hm : t ∈ (#[22, 23, 5] : Array TypeId).toList := by simpa using Array.mem_of_getElem? ht
  have h1 := List.all_eq_true.1 hall t hm
  have h2 : Tryz.prog.wantsStandIn t = false := by simpa using h1
  exact h2

/-- The tied card of LoadMore. -/
theorem card : Rows.LoadMoreCardSaid :=
  Claim7.holds_tied_plain_at .later [] _ _ _ _ said (fun _ h => by cases h) (by kernel_rfl) (fun _ h => by cases h) loadMore_row_tie rfl ⟨rfl, rfl⟩ (by kernel_rfl) rfl plain (by kernel_rfl)
#print axioms card
end Go.Proofs.YtbbmgcdocolakaaGreatDoor.LoadMoreC
