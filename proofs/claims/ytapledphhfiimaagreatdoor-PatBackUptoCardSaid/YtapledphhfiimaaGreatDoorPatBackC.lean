/-
  PatBack: for every input that the row lets in the law returns true and leaves what it was given as it was (the tied card, the second form). Conditions: those of the row, and the listed variables (errors.errorType, the tables of math/bits and strconv) as the program lays them.
-/
import Derived.Test.YtapledphhfiimaaGreatDoorPatBackM5
import Derived.Test.YtapledphhfiimaaGreatDoorPatBackM20
namespace Go.Proofs.YtapledphhfiimaaGreatDoor.PatBackC
open Go.ChangeShapes Go.WideShapes Go.ChangeAt Go.RowKit
open Go.ChangeMaps (open_string shut_string)
set_option linter.unusedVariables false

set_option maxRecDepth 100000 in
/-- What the walk gives, for every argument. -/
theorem contract (H : Type) (enc : TypeId × Value → H) (W : World) (base : Nat) (args : Array Value) (ds gs : List (DataW H)) (before : List MemPlace)
    (hval : ∀ (j : Nat) t v, Tryz.f5.params[j]? = some t → args[j]? = some v → Value.okWide Tryz.prog W .any base t v)
    (hW : DataW.Whole enc Tryz.prog Tryz.f5.params.toList Rows.patBackSpec.vars false W args.toList ds gs before) (hL : laidMetH Tryz.prog tabLaid W) (hcond : Rows.uptoSmall H (ds ++ gs) = true) :
    Calls Tryz.prog 5 args W fun e W' => ∃ v, e = .returned v ∧ Rows.patBackSpec.post enc Tryz.prog Tryz.f5 false true false false W args v W' := by
  have hW' := hW
  obtain ⟨p, q, hA0, hV, rfl, hfz, hnd⟩ := hW
  have hA : DataW.TrodAll enc Tryz.prog W 0 (fun _ => true) true Tryz.f5.params.toList args.toList ds p := hA0
  rw [Tryz.params5] at hA hval
  obtain ⟨v0, vs0, d0, ds0, p0, q0, hargs, rfl, rfl, h0, r0⟩ := trodAll_cons hA
  obtain ⟨v1, vs1, d1, ds1, p1, q1, rfl, rfl, rfl, h1, r1⟩ := trodAll_cons r0
  obtain ⟨v2, vs2, d2, ds2, p2, q2, rfl, rfl, rfl, h2, r2⟩ := trodAll_cons r1
  obtain ⟨rfl, rfl, rfl⟩ := trodAll_nil r2
  obtain rfl : args = #[v0, v1, v2] := by cases args; simp_all
  obtain ⟨rfl, rfl⟩ := trodVars_none hV
  have hbulk := of_decide_eq_true hcond
  have b0 : Rows.uptoBulk d0 ≤ 1048576 := by simp only [List.append_nil, Rows.uptoBulkAll] at hbulk; omega
  have b1 : Rows.uptoBulk d1 ≤ 1048576 := by simp only [List.append_nil, Rows.uptoBulkAll] at hbulk; omega
  have b2 : Rows.uptoBulk d2 ≤ 1048576 := by simp only [List.append_nil, Rows.uptoBulkAll] at hbulk; omega
  have k0 := h0
  have lt0 : ∀ x ∈ p0, x.block < W.heap.size := by obtain ⟨m, hm⟩ := k0; exact DataW.trod_lt m _ _ _ hm
  obtain ⟨A0, n0, c0, B0, m0, e0, L0, E0, rfl, hl0, hn0, hm0, s0, t0⟩ := open_pat_upto (hval 0 26 v0 rfl rfl) h0 b0
  obtain ⟨a1, rfl, rfl, rfl, w1⟩ := open_int Tryz.underlying55 (hval 1 55 v1 rfl rfl) h1
  obtain ⟨a2, rfl, rfl, rfl, w2⟩ := open_int Tryz.underlying55 (hval 2 55 v2 rfl rfl) h2
  clear hA0
  refine (PatBack_main A0 n0 c0 B0 m0 e0 L0 E0 a1 a2 W (errT_of_tab hL) (tabW_of_tab hL) hl0 hn0 hm0 s0 t0 w1 w2).mono fun e W' ⟨he, bel⟩ => ?_
  subst he
  exact ⟨_, rfl, _, _, _, [], _, [], hW', trodAll_mk1 (shut_bool Tryz.underlying4 _), (trodAll_cons_mk (Below.trod fr_laidOut (by kernel_rfl) (of_decide_eq_true (by kernel_rfl)) k0 bel lt0) (trodAll_cons_mk (shut_int Tryz.underlying55 w1) (trodAll_cons_mk (shut_int Tryz.underlying55 w2) trodAll_mk0))), rfl, bel.frame _, fun h => by cases h⟩

theorem reads (os : Os) {H : Type} (enc : TypeId × Value → H) : ∃ places, DataW.whole enc Tryz.prog ((tabWorld os).forCall (fun _ _ => 0) ⟨#[], #[.agg #[.slice none 0 0, .slice none 0 0], .int .u16 0, .int .u16 0], []⟩).memory Tryz.f5.params.toList Rows.patBackSpec.vars false (#[.agg #[.slice none 0 0, .slice none 0 0], .int .u16 0, .int .u16 0] : Array Value).toList 8 = some ([.agg [.nil, .nil], .lit (.int .u16 0), .lit (.int .u16 0)], [], places) :=
  ⟨[], by kernel_rfl⟩

set_option maxRecDepth 100000 in
theorem lifted (os : Os) (started : os.Started) (H : Type) (enc : TypeId × Value → H) (F : Stop.Interp) :
    ReturnsInHanded {} Tryz.checked os 5 .any ((Rows.OpenSpec.upto Rows.patBackSpec).preRow enc Tryz.prog Tryz.f5 Rows.patBackUptoRow.domain false Rows.patBackUptoRow.laid) (((Rows.OpenSpec.upto Rows.patBackSpec).at F).post enc Tryz.prog Tryz.f5 false true false false) := by
  obtain ⟨places, hx⟩ := reads os enc
  refine returnsInHanded_of_row (C := Tryz.checked) (s := Rows.OpenSpec.upto Rows.patBackSpec) fr_own started (by kernel_rfl) Tryz.func5
    (witness_row_at (enc := enc) (C := Tryz.checked) false (tabWorld os) #[.agg #[.slice none 0 0, .slice none 0 0], .int .u16 0, .int .u16 0] rfl (by kernel_rfl) (by kernel_rfl) (by kernel_rfl)
      (OpenSpec.preRow_of_cond 8 hx (by kernel_rfl) (fun k hk => by cases hk; kernel_rfl) (by kernel_rfl) (tab_met os _))) ?_
  intro W base args ds gs before hval hW _ hcond _ hL _ _
  exact contract H enc W base args ds gs before hval hW hL (hcond _ rfl)

theorem cl0 : ((Rows.patBackUptoRow).wf (OpenSpec.ofChange (Rows.OpenSpec.upto Rows.patBackSpec).bare) && laidOutB Tryz.pinned.checked.prog && mapsRowed Tryz.pinned.checked.prog && Tryz.f5.params.all (Tryz.pinned.checked.prog.readableRec ·) && namedTie Tryz.pinned.checked.prog (Rows.patBackUptoRow).named (Rows.OpenSpec.upto Rows.patBackSpec).bare.vars && ((Rows.patBackUptoRow).stops == []) && (Tryz.pinned.checked.prog.stops == []) && ((Rows.patBackUptoRow).knobs == []) && (Tryz.pinned.checked.prog.stopKnobs == [])) = true := by kernel_rfl
theorem cl1 : ((Rows.patBackUptoRow).inPlace == Tryz.pinned.checked.prog.inPlace 5) = true := by kernel_rfl
theorem cl2 : ((Rows.patBackUptoRow).unfollowed == Tryz.pinned.checked.prog.unfollowed 5) = true := by kernel_rfl
theorem cl3 : ((Rows.patBackUptoRow).recurses == Tryz.pinned.checked.prog.recurses 5) = true := by kernel_rfl
theorem cl4 : ((Rows.patBackUptoRow).named == Tryz.pinned.checked.prog.varsNamed 5) = true := by kernel_rfl
theorem clFn : Tryz.pinned.checked.prog.funcNamed "fretwork/fretworklaw08.PatBack" = some 5 := by kernel_rfl
theorem clAll : joinedFacts Tryz.pinned.checked.prog 5 Tryz.f5 (Rows.OpenSpec.upto Rows.patBackSpec).bare Rows.patBackUptoRow = true := joined_of cl0 cl1 cl2 cl3 cl4 (by kernel_rfl) (by kernel_rfl) (by kernel_rfl)

theorem said : Rows.PatBackUptoSaid :=
  OpenClaim.holds_of_cond 5 Tryz.f5 rfl rfl rfl rfl rfl rfl rfl ⟨rfl, rfl, rfl, rfl, rfl⟩ rfl rfl rfl rfl rfl clFn Tryz.func5 clAll
    (of_decide_eq_true (by kernel_rfl)) (by unfold Func.isWrapper; rw [if_neg (of_decide_eq_false (by kernel_rfl))]; exact ⟨rfl, rfl⟩)
    (fun os started H enc _ F => by rw [OpenClaim.pre_eq_preRow]; exact lifted os started H enc F)

theorem plain (f : FuncId) (fn : Func) (hf : Tryz.pinned.checked.prog.funcNamed "fretwork/fretworklaw08.PatBack" = some f) (hfn : Tryz.pinned.checked.prog.funcs[f]? = some fn) :
    true = Tryz.pinned.checked.prog.looks [] ∧ ∀ (j : Nat) t, fn.params[j]? = some t → Tryz.pinned.checked.prog.wantsStandIn t = false := by
  obtain rfl : f = 5 := Option.some.inj ((show Tryz.prog.funcNamed "fretwork/fretworklaw08.PatBack" = some 5 by kernel_rfl).symm.trans hf) |>.symm
  obtain rfl : fn = Tryz.f5 := (Option.some.inj (Tryz.func5.symm.trans hfn)).symm
  refine ⟨by kernel_rfl, fun j t ht => ?_⟩
  rw [Tryz.params5] at ht
  have hall : ((#[26, 55, 55] : Array TypeId).toList.all fun t => !(Tryz.prog.wantsStandIn t)) = true := by kernel_rfl
  have hm : t ∈ (#[26, 55, 55] : Array TypeId).toList := by simpa using Array.mem_of_getElem? ht
  have h1 := List.all_eq_true.1 hall t hm
  have h2 : Tryz.prog.wantsStandIn t = false := by simpa using h1
  exact h2

/-- The tied card of PatBack. -/
theorem card : Rows.PatBackUptoCardSaid :=
  Claim7.holds_tied_plain_at .later [] _ _ _ _ said (fun _ h => by cases h) (by kernel_rfl) (fun _ h => by cases h) patBackUpto_row_tie rfl ⟨rfl, rfl⟩ (by kernel_rfl) rfl plain (by kernel_rfl)
#print axioms card
end Go.Proofs.YtapledphhfiimaaGreatDoor.PatBackC
