/-
  ConfNumbers: for every input that the row lets in the law returns true and leaves what it was given as it was (the tied card). Conditions: those of the row, and the listed variables (errors.errorType, the two errors of strconv, the tables of math/bits, strconv and unicode/utf8) as the program lays them.
-/
import Derived.Test.YtddedghnnkcnhaaDoorConfNumbersM4
import Derived.Test.YtddedghnnkcnhaaDoorConfNumbersM12
import Derived.Test.YtddedghnnkcnhaaDoorConfNumbersM3
namespace Go.Proofs.YtddedghnnkcnhaaDoor.ConfNumbersC
open Go.ChangeShapes Go.WideShapes Go.ChangeAt Go.RowKit
open Go.ChangeMaps (open_string shut_string)
set_option linter.unusedVariables false

set_option maxRecDepth 100000 in
/-- What the walk gives, for every argument. -/
theorem contract (H : Type) (enc : TypeId × Value → H) (W : World) (base : Nat) (args : Array Value) (ds gs : List (DataW H)) (before : List MemPlace)
    (hval : ∀ (j : Nat) t v, Tryd.f3.params[j]? = some t → args[j]? = some v → Value.okWide Tryd.prog W .any base t v)
    (hW : DataW.Whole enc Tryd.prog Tryd.f3.params.toList Rows.confNumbersSpec.vars false W args.toList ds gs before) (hL : laidMetH Tryd.prog libLaid W) (hS : W.ShapedOpen Tryd.prog) :
    Calls Tryd.prog 3 args W fun e W' => ∃ v, e = .returned v ∧ Rows.confNumbersSpec.post enc Tryd.prog Tryd.f3 false true false false W args v W' := by
  have hW' := hW
  obtain ⟨p, q, hA0, hV, rfl, hfz, hnd⟩ := hW
  have hA : DataW.TrodAll enc Tryd.prog W 0 (fun _ => true) true Tryd.f3.params.toList args.toList ds p := hA0
  rw [Tryd.params3] at hA hval
  obtain ⟨v0, vs0, d0, ds0, p0, q0, hargs, rfl, rfl, h0, r0⟩ := trodAll_cons hA
  obtain ⟨v1, vs1, d1, ds1, p1, q1, rfl, rfl, rfl, h1, r1⟩ := trodAll_cons r0
  obtain ⟨rfl, rfl, rfl⟩ := trodAll_nil r1
  obtain rfl : args = #[v0, v1] := by cases args; simp_all
  obtain ⟨rfl, rfl⟩ := trodVars_none hV
  obtain ⟨a0, rfl, rfl, rfl, w0⟩ := open_int Tryd.underlying2 (hval 0 2 v0 rfl rfl) h0
  obtain ⟨a1, rfl, rfl, rfl, w1⟩ := open_int Tryd.underlying5 (hval 1 5 v1 rfl rfl) h1
  clear hA0
  refine (ConfNumbers_main a0 a1 W (errT_of_lib hL) (tabW_of_lib hL) (libW_of_lib hL hS) w0 w1).mono fun e W' ⟨he, bel⟩ => ?_
  subst he
  exact ⟨_, rfl, _, _, _, [], _, [], hW', trodAll_mk1 (shut_bool Tryd.underlying4 _), (trodAll_cons_mk (shut_int Tryd.underlying2 w0) (trodAll_cons_mk (shut_int Tryd.underlying5 w1) trodAll_mk0)), rfl, bel.frame _, fun h => by cases h⟩

theorem reads (os : Os) {H : Type} (enc : TypeId × Value → H) : ∃ places, DataW.whole enc Tryd.prog ((libWorld os).forCall (fun _ _ => 0) ⟨#[], #[.int .i64 0, .int .u8 0], []⟩).memory Tryd.f3.params.toList Rows.confNumbersSpec.vars false (#[.int .i64 0, .int .u8 0] : Array Value).toList 8 = some ([.lit (.int .i64 0), .lit (.int .u8 0)], [], places) :=
  ⟨[], by kernel_rfl⟩

set_option maxRecDepth 100000 in
theorem lifted (os : Os) (started : os.Started) (H : Type) (enc : TypeId × Value → H) (F : Stop.Interp) :
    ReturnsInHanded {} Tryd.checked os 3 .any ((OpenSpec.ofChange Rows.confNumbersSpec).preRow enc Tryd.prog Tryd.f3 Rows.confNumbersRow.domain false Rows.confNumbersRow.laid) (((OpenSpec.ofChange Rows.confNumbersSpec).at F).post enc Tryd.prog Tryd.f3 false true false false) := by
  obtain ⟨places, hx⟩ := reads os enc
  refine returnsInHanded_of_row (C := Tryd.checked) (s := OpenSpec.ofChange Rows.confNumbersSpec) fr_own started (by kernel_rfl) Tryd.func3
    (witness_row_at (enc := enc) (C := Tryd.checked) false (libWorld os) #[.int .i64 0, .int .u8 0] rfl (by kernel_rfl) (by kernel_rfl) (by kernel_rfl)
      (OpenSpec.preRow_of_cond 8 hx (by kernel_rfl) (fun k hk => by cases hk) (by kernel_rfl) (lib_met os _))) ?_
  intro W base args ds gs before hval hW _ _ _ hL hS _
  exact contract H enc W base args ds gs before hval hW hL hS

theorem cl0 : ((Rows.confNumbersRow).wf (OpenSpec.ofChange (OpenSpec.ofChange Rows.confNumbersSpec).bare) && laidOutB Tryd.pinned.checked.prog && mapsRowed Tryd.pinned.checked.prog && Tryd.f3.params.all (Tryd.pinned.checked.prog.readableRec ·) && namedTie Tryd.pinned.checked.prog (Rows.confNumbersRow).named (OpenSpec.ofChange Rows.confNumbersSpec).bare.vars && ((Rows.confNumbersRow).stops == []) && (Tryd.pinned.checked.prog.stops == []) && ((Rows.confNumbersRow).knobs == []) && (Tryd.pinned.checked.prog.stopKnobs == [])) = true := by kernel_rfl
theorem cl1 : ((Rows.confNumbersRow).inPlace == Tryd.pinned.checked.prog.inPlace 3) = true := by kernel_rfl
theorem cl2 : ((Rows.confNumbersRow).unfollowed == Tryd.pinned.checked.prog.unfollowed 3) = true := by kernel_rfl
theorem cl3 : ((Rows.confNumbersRow).recurses == Tryd.pinned.checked.prog.recurses 3) = true := by kernel_rfl
theorem cl4 : ((Rows.confNumbersRow).named == Tryd.pinned.checked.prog.varsNamed 3) = true := by kernel_rfl
theorem clFn : Tryd.pinned.checked.prog.funcNamed "fretwork/fretworklaw22.ConfNumbers" = some 3 := by kernel_rfl
theorem clAll : joinedFacts Tryd.pinned.checked.prog 3 Tryd.f3 (OpenSpec.ofChange Rows.confNumbersSpec).bare Rows.confNumbersRow = true := joined_of cl0 cl1 cl2 cl3 cl4 (by kernel_rfl) (by kernel_rfl) (by kernel_rfl)

theorem said : Rows.ConfNumbersSaid :=
  OpenClaim.holds_of_cond 3 Tryd.f3 rfl rfl rfl rfl rfl rfl rfl ⟨rfl, rfl, rfl, rfl, rfl⟩ rfl rfl rfl rfl rfl clFn Tryd.func3 clAll
    (of_decide_eq_true (by kernel_rfl)) (by unfold Func.isWrapper; rw [if_neg (of_decide_eq_false (by kernel_rfl))]; exact ⟨rfl, rfl⟩)
    (fun os started H enc _ F => by rw [OpenClaim.pre_eq_preRow]; exact lifted os started H enc F)

theorem plain (f : FuncId) (fn : Func) (hf : Tryd.pinned.checked.prog.funcNamed "fretwork/fretworklaw22.ConfNumbers" = some f) (hfn : Tryd.pinned.checked.prog.funcs[f]? = some fn) :
    true = Tryd.pinned.checked.prog.looks [] ∧ ∀ (j : Nat) t, fn.params[j]? = some t → Tryd.pinned.checked.prog.wantsStandIn t = false := by
  obtain rfl : f = 3 := Option.some.inj ((show Tryd.prog.funcNamed "fretwork/fretworklaw22.ConfNumbers" = some 3 by kernel_rfl).symm.trans hf) |>.symm
  obtain rfl : fn = Tryd.f3 := (Option.some.inj (Tryd.func3.symm.trans hfn)).symm
  refine ⟨by kernel_rfl, fun j t ht => ?_⟩
  rw [Tryd.params3] at ht
  have hall : ((#[2, 5] : Array TypeId).toList.all fun t => !(Tryd.prog.wantsStandIn t)) = true := by kernel_rfl
  have hm : t ∈ (#[2, 5] : Array TypeId).toList := by simpa using Array.mem_of_getElem? ht
  have h1 := List.all_eq_true.1 hall t hm
  have h2 : Tryd.prog.wantsStandIn t = false := by simpa using h1
  exact h2

/-- The tied card of ConfNumbers. -/
theorem card : Rows.ConfNumbersCardSaid :=
  Claim7.holds_tied_plain_at .later [] _ _ _ _ said (fun _ h => by cases h) (by kernel_rfl) (fun _ h => by cases h) confNumbers_row_tie rfl ⟨rfl, rfl⟩ (by kernel_rfl) rfl plain (by kernel_rfl)
#print axioms card
end Go.Proofs.YtddedghnnkcnhaaDoor.ConfNumbersC
