/-
  Part 14 of the proof of ConfProgs: PatI, CfP, CfE.
-/
import Derived.Shelf.Spec.SlicesInsert
import Derived.Lib.AppendZerosOnto
import Derived.Lib.AppendZeros
import Derived.Lib.Overlaps
import Derived.Laws.CopyRow
import Derived.Deep.RegionLaw
import Derived.Test.YtapledphhfiimaaGreatDoorConfProgsM4
import Derived.BigQuiet
import Derived.Laws.OwnMore
import Derived.Test.YtapledphhfiimaaGreatDoorConfProgsM13
/-
  slices.Insert of one edge into a row that the call owns.
-/
namespace Go.Proofs.YtapledphhfiimaaGreatDoor
open Go.RowKit Go.Proofs
attribute [local go_sem ↓] Go.wp_at_zero Go.wp_at_succ
set_option maxRecDepth 100000
set_option linter.unusedVariables false

/-- copy of elements of s cells each. -/
theorem run_copy_rowS {P : Program} (s : Nat) (w : World) (dT sT ty elem : TypeId) (g o dLen dCap : Nat) (a : Addr) (sLen sCap : Nat) (cur : Array Value) (t : TypeId) (cs : List Value)
    (hu : P.underlying dT = some (.slice elem)) (hs : (P.info? elem).map (·.size) = some s)
    (hg : w.heap[g]? = some (.cells cur t (0, 0))) (hn : cs.length = Nat.min sLen dLen * s)
    (hsrc : ∀ j v, cs[j]? = some v → w.cell? (a.add j) = some v) (hfit : o + cs.length ≤ cur.size) (h1 : ∀ v ∈ cs, v.oneCell' = true) :
    (Builtin.copy_ #[dT, sT] ty #[.slice (some ⟨g, o, none⟩) dLen dCap, .slice (some a) sLen sCap]).run P w =
      .ok (goInt (Nat.min sLen dLen)) (w.setRow g (cur.toList.take o ++ cs ++ cur.toList.drop (o + cs.length)).toArray) := by
  have hl := run_loadCells_list (P := P) w a cs hsrc
  have hst := run_storeCells_at P g o t cs 0 cur w hg (by simpa using hfit) h1
  cases hq : P.info? elem with
  | none => simp [hq] at hs
  | some i =>
    have hi : i.size = s := by simpa [hq] using hs
    simp [Builtin.copy_, run_underlying hu, Builtin.lenOf, Builtin.firstCells, sizeOf, typeInfo, hq, hi, ← hn, hl, hst]

theorem splice_shift {α : Type} (X E Y Z : List α) (hZ : E.length ≤ Z.length) :
    ∃ T, (((X ++ Y ++ Z).take (X.length + E.length) ++ Y ++ (X ++ Y ++ Z).drop (X.length + E.length + Y.length)).take X.length ++ E ++ ((X ++ Y ++ Z).take (X.length + E.length) ++ Y ++ (X ++ Y ++ Z).drop (X.length + E.length + Y.length)).drop (X.length + E.length)) = X ++ E ++ Y ++ T := by
  obtain ⟨D, hD⟩ : ∃ D, D = (X ++ Y ++ Z).drop (X.length + E.length + Y.length) := ⟨_, rfl⟩
  rw [← hD]
  have h1 : ((X ++ Y ++ Z).take (X.length + E.length)).length = X.length + E.length := by
    rw [List.length_take, List.length_append, List.length_append]; omega
  have h2 : ((X ++ Y ++ Z).take (X.length + E.length)).take X.length = X := by
    rw [List.take_take, Nat.min_eq_left (by omega), List.append_assoc, List.take_left']
    rfl
  obtain ⟨Q, hQ⟩ : ∃ Q, Q = (X ++ Y ++ Z).take (X.length + E.length) := ⟨_, rfl⟩
  rw [← hQ] at h1 h2 ⊢
  have f1 : (Q ++ Y ++ D).take X.length = X := by rw [List.append_assoc, List.take_append_of_le_length (by omega), h2]
  have f2 : (Q ++ Y ++ D).drop (X.length + E.length) = Y ++ D := by rw [List.append_assoc]; exact List.drop_left' h1
  refine ⟨D, ?_⟩
  rw [f1, f2]
  simp
theorem splice_fresh {α : Type} (X E Y R : List α) (hR : E.length + Y.length ≤ R.length) :
    ∃ T, (((X ++ R).take X.length ++ E ++ (X ++ R).drop (X.length + E.length)).take (X.length + E.length) ++ Y ++ ((X ++ R).take X.length ++ E ++ (X ++ R).drop (X.length + E.length)).drop (X.length + E.length + Y.length)) = X ++ E ++ Y ++ T := by
  have h1 : (X ++ R).take X.length = X := List.take_left' rfl
  rw [h1]
  refine ⟨(X ++ E ++ (X ++ R).drop (X.length + E.length)).drop (X.length + E.length + Y.length), ?_⟩
  have h2 : (X ++ E ++ (X ++ R).drop (X.length + E.length)).take (X.length + E.length) = X ++ E := List.take_left' (by simp)
  rw [h2]
theorem cells_take (R : List (Int × Int)) (i : Nat) : (Rk.cells R).take (i * 2) = Rk.cells (R.take i) := by
  induction R generalizing i with
  | nil => simp [Rk.cells]
  | cons a R ih =>
    cases i with
    | zero => simp [Rk.cells]
    | succ i =>
      rw [show (i + 1) * 2 = i * 2 + 1 + 1 by omega]
      have := ih i
      simp only [Rk.cells, List.take_succ_cons, List.flatMap_cons] at this ⊢
      simp only [List.cons_append, List.nil_append, List.take_succ_cons, this]
theorem cells_append (R S : List (Int × Int)) : Rk.cells (R ++ S) = Rk.cells R ++ Rk.cells S := by simp [Rk.cells]
theorem cells_one (R : List (Int × Int)) : ∀ v ∈ Rk.cells R, v.oneCell' = true := by
  intro v hv
  unfold Rk.cells at hv
  obtain ⟨e, _, h⟩ := List.mem_flatMap.1 hv
  simp at h
  rcases h with rfl | rfl <;> rfl

theorem cells_drop (R : List (Int × Int)) (i : Nat) : Rk.cells R = (Rk.cells R).take (i * 2) ++ Rk.cells (R.drop i) := by
  conv => lhs; rw [← List.take_append_drop i R, cells_append]
  rw [cells_take]
/-- A row with an edge put in. -/
def insE (R : List (Int × Int)) (i : Nat) (e : Int × Int) : List (Int × Int) := R.take i ++ e :: R.drop i
theorem cells_ins (R : List (Int × Int)) (i : Nat) (e : Int × Int) : Rk.cells (insE R i e) = Rk.cells (R.take i) ++ [.int .i64 e.1, .int .i64 e.2] ++ Rk.cells (R.drop i) := by
  unfold insE
  rw [cells_append]
  simp [Rk.cells]
theorem ins_len (R : List (Int × Int)) (i : Nat) (e : Int × Int) : (insE R i e).length = R.length + 1 := by
  unfold insE
  rw [List.length_append, List.length_cons, List.length_take, List.length_drop]
  omega
theorem grownBy_setRow (w : World) (g : Nat) (cs : Array Value) : w.grownBy (w.setRow g cs) (some g) :=
  ⟨rfl, rfl, rfl, by simp [World.setRow], fun k _ hk => setRow_other w g k cs (fun e => hk (by rw [e]))⟩

theorem Gr.like {w w' : World} {v u v' : Value} (h : Gr w w' v v') (hu : u.ownBlock = v.ownBlock) : Gr w w' u v' := ⟨by rw [hu]; exact h.g, by rw [hu]; exact h.at_⟩
set_option maxHeartbeats 8000000 in
theorem Insert_any (R : List (Int × Int)) (e : Int × Int) (B n i vb : Nat) (v : Value) (W : World) (hn : R.length = n) (hn9 : n ≤ 1000) (hi : i ≤ n) (hown : W.ownsRow B 53 2 v n (Rk.cells R)) (hBW : B ≤ W.heap.size)
    (hvb : Blk W vb 53 #[.int .i64 e.1, .int .i64 e.2]) (hne : v.ownBlock ≠ some vb) :
    Calls Tryz.prog 80 #[v, .int .i64 (i : Int), .slice (some ⟨vb, 0, none⟩) 1 1] W fun e' w' => ∃ v', e' = .returned v' ∧ w'.ownsRow B 53 2 v' (n + 1) (Rk.cells (insE R i e)) ∧ Gr W w' v v' := by
  obtain ⟨e1, e2⟩ := e
  by_cases hin : i = n
  · subst hin
    have HO := Lib.hid hown
    have HV := Lib.hid hvb
    have HE := Lib.hid (show Rk.cells (insE R i (e1, e2)) = Rk.cells R ++ [.int .i64 e1, .int .i64 e2] by
      rw [cells_ins, List.take_of_length_le (by omega), List.drop_of_length_le (by omega)]
      simp [Rk.cells])
    have HSv := Lib.hid (show Sl W 2 (some ⟨vb, 0, none⟩) 1 [.int .i64 e1, .int .i64 e2] from ⟨rfl, fun _ => ⟨vb, 0, rfl, fun j u hj => by
      rw [Nat.zero_add, hvb.cell]
      match j, hj with
      | 0, hj => exact hj
      | 1, hj => exact hj⟩⟩)
    rcases hown.2 with ⟨rfl, h0⟩ | ⟨g, cap, cur, rfl, hBg, hg, hnc, hcm, hcs, htk⟩
    · subst h0
      clear hown hvb
      go_enter Tryz.func80, Tryz.ntmps80
      go_wp2_with (at_builtin; refine wpList_cat_at elemEdge _ _ rfl rfl HO.out hBW HSv.out rfl rfl (by simp [Value.oneCell']) (by unfold lim; omega) (by unfold lim; omega) ?_; intro v' w' hown' hgr)
      go_ret
      exact ⟨_, rfl, by rw [HE.out]; exact hown', hgr⟩
    · have hci : (i : Int) ≤ (cap : Int) := by omega
      clear hown hvb hg hcs htk
      go_enter Tryz.func80, Tryz.ntmps80
      go_wp2_with (at_builtin; refine wpList_cat_at elemEdge _ _ rfl rfl HO.out hBW HSv.out rfl rfl (by simp [Value.oneCell']) (by unfold lim; omega) (by unfold lim; omega) ?_; intro v' w' hown' hgr)
      all_goals (
        go_ret
        exact ⟨_, rfl, by rw [HE.out]; exact hown', hgr.like rfl⟩)
  · have hin' : i < n := by omega
    have hn1 : ¬ ((i : Int) = (n : Int)) := by omega
    have hown2 := hown
    rcases hown.2 with ⟨rfl, h0⟩ | ⟨g, cap, cur, rfl, hBg, hg, hnc, hcm, hcs, htk⟩
    · omega
    have hgv : vb ≠ g := fun e => hne (by rw [e]; rfl)
    have hX : (Rk.cells (R.take i)).length = i * 2 := by rw [Rk.cells_length, List.length_take]; omega
    have hY : (Rk.cells (R.drop i)).length = (n - i) * 2 := by rw [Rk.cells_length, List.length_drop]; omega
    have hcl : cur.toList = Rk.cells (R.take i) ++ Rk.cells (R.drop i) ++ cur.toList.drop (n * 2) := by
      rw [← cells_append, List.take_append_drop, ← htk, List.take_append_drop]
    have hsl := Sl.of_own hown
    have hsY : ∀ j u, (Rk.cells (R.drop i))[j]? = some u → W.cell? ⟨g, i * 2 + j, none⟩ = some u := fun j u hj => by
      obtain ⟨b, off, hb, hc⟩ := hsl.2 (by omega)
      cases hb
      have := hc (i * 2 + j) u (by rw [cells_drop R i, List.getElem?_append_right (by rw [cells_take, hX]; omega), cells_take, hX, Nat.add_sub_cancel_left]; exact hj)
      rw [Nat.zero_add] at this
      exact this
    have hsz : (Tryz.prog.info? 53).map (·.size) = some 2 := by kernel_rfl
    have hg63 : cap ≤ 9223372036854775807 := by unfold maxLen at hcm; exact hcm
    by_cases hroom : n + 1 ≤ cap
    · have hroom' : ¬ (cap : Int) < (n : Int) + 1 := by omega
      have hov : ∀ lb cb, (callFunc 110 #[.slice (some ⟨vb, 0, none⟩) 1 1, .slice (some ⟨g, (i + 1) * 2, none⟩) lb cb]).run Tryz.prog W = .ok (.value (.bool false)) W := fun lb cb => by
        rw [run_callFunc_extern Tryz.func110 (by kernel_rfl) (by kernel_rfl) (by kernel_rfl) (e := Extern.SlicesOverlaps.overlaps #[28, 28] #[4]) (by kernel_rfl),
          Lib.run_overlaps_apart W 28 4 53 Tryz.underlying28 2 Tryz.sizeOf53 ⟨vb, 0, none⟩ ⟨g, (i + 1) * 2, none⟩ 1 1 lb cb hgv 53 53 2 cur.size (by simp [World.shape?, show W.heap[vb]? = _ from hvb]) (by simp [World.shape?, hg]) (by omega) (hvb.frozen 0) (hvb.frozen 2)]
        rfl
      have hw1 : IntKind.i64.wrap ((i : Int) + 1) = (i : Int) + 1 := by rw [IntKind.wrap_i64]; omega
      have hw2 : IntKind.i64.wrap ((n : Int) + 1) = (n : Int) + 1 := by rw [IntKind.wrap_i64]; omega
      have htn : ((i : Int) + 1).toNat = i + 1 := by omega
      have hb1 : (0 : Int) ≤ (i : Int) + 1 := by omega
      have hb2 : ¬ (cap = i + 1) := by omega
      have hb3 : (i : Int) ≤ (n : Int) + 1 := by omega
      have hb4 : ¬ (cap = i) := by omega
      have hb5 : (n : Int) + 1 ≤ (cap : Int) := by omega
      have hb6 : (i : Int) + 1 ≤ (n : Int) + 1 := by omega
      obtain ⟨Y, hYe⟩ : ∃ Y, Y = Rk.cells (R.drop i) := ⟨_, rfl⟩
      obtain ⟨X, hXe⟩ : ∃ X, X = Rk.cells (R.take i) := ⟨_, rfl⟩
      obtain ⟨Z, hZe⟩ : ∃ Z, Z = cur.toList.drop (n * 2) := ⟨_, rfl⟩
      have hZl : 2 ≤ Z.length := by rw [hZe, List.length_drop, Array.length_toList, hcs]; omega
      have hY1 : ∀ u ∈ Y, u.oneCell' = true := by rw [hYe]; exact cells_one _
      rw [← hYe] at hsY hY hcl
      rw [← hXe] at hX hcl
      rw [← hZe] at hcl
      have hcurl : cur.size = X.length + Y.length + Z.length := by rw [← Array.length_toList, hcl, List.length_append, List.length_append]
      obtain ⟨cur1, hc1⟩ : ∃ cur1 : Array Value, cur1 = (cur.toList.take ((i + 1) * 2) ++ Y ++ cur.toList.drop ((i + 1) * 2 + Y.length)).toArray := ⟨_, rfl⟩
      obtain ⟨W1, hW1⟩ : ∃ W1, W1 = W.drew.setRow g cur1 := ⟨_, rfl⟩
      have hgW1 : W1.heap[g]? = some (.cells cur1 53 (0, 0)) := by rw [hW1]; exact setRow_heap W.drew g cur cur1 _ _ hg
      have hgb1 : W.grownBy W1 (some g) := by rw [hW1]; exact ⟨rfl, rfl, rfl, (grownBy_setRow W.drew g cur1).size, (grownBy_setRow W.drew g cur1).block⟩
      have hcp1 : ∀ ty dc sc, (Builtin.copy_ #[28, 28] ty #[.slice (some ⟨g, (i + 1) * 2, none⟩) (n - i) dc, .slice (some ⟨g, i * 2, none⟩) (n + 1 - i) sc]).run Tryz.prog W.drew = .ok (goInt (Nat.min (n + 1 - i) (n - i))) W1 := fun ty dc sc => by
        rw [hW1, hc1]
        exact run_copy_rowS 2 W.drew _ _ ty 53 g ((i + 1) * 2) _ dc ⟨g, i * 2, none⟩ _ sc cur _ Y Tryz.underlying28 hsz hg (by rw [hY]; congr 1; simp only [Nat.min_def]; split <;> omega) (fun j u hj => by rw [Addr.add_lit]; exact hsY j u hj) (by rw [hcurl, hX]; omega) hY1
      obtain ⟨cur2, hc2⟩ : ∃ cur2 : Array Value, cur2 = (cur1.toList.take (i * 2) ++ [Value.int .i64 e1, Value.int .i64 e2] ++ cur1.toList.drop (i * 2 + 2)).toArray := ⟨_, rfl⟩
      obtain ⟨W2, hW2⟩ : ∃ W2, W2 = W1.setRow g cur2 := ⟨_, rfl⟩
      have hgW2 : W2.heap[g]? = some (.cells cur2 53 (0, 0)) := by rw [hW2]; exact setRow_heap W1 g cur1 cur2 _ _ hgW1
      have hgb2 : W1.grownBy W2 (some g) := by rw [hW2]; exact grownBy_setRow W1 g cur2
      obtain ⟨Tl, hTl⟩ := splice_shift X [Value.int .i64 e1, Value.int .i64 e2] Y Z hZl
      have hi2 : (i + 1) * 2 = X.length + 2 := by omega
      have hf2 : cur2.toList = X ++ [.int .i64 e1, .int .i64 e2] ++ Y ++ Tl := by
        rw [hc2, hc1, List.toList_toArray, List.toList_toArray, hcl, hi2, ← hX]
        exact hTl
      have hs2 : cur2.size = cap * 2 := by
        rw [hc2, List.size_toArray, hc1, List.toList_toArray]
        simp only [List.length_append, List.length_take, List.length_drop, List.length_cons, List.length_nil, Array.length_toList]
        omega
      have hvW1 : ∀ j u, [Value.int .i64 e1, .int .i64 e2][j]? = some u → W1.cell? ⟨vb, j, none⟩ = some u := fun j u hj => by
        rw [(hvb.grown hgb1 (fun e => hgv (Option.some.inj e))).cell]
        match j, hj with
        | 0, hj => exact hj
        | 1, hj => exact hj
      have hcp2 : ∀ ty dc, (Builtin.copy_ #[28, 28] ty #[.slice (some ⟨g, i * 2, none⟩) (n + 1 - i) dc, .slice (some ⟨vb, 0, none⟩) 1 1]).run Tryz.prog W1 = .ok (goInt (Nat.min 1 (n + 1 - i))) W2 := fun ty dc => by
        rw [hW2, hc2]
        refine run_copy_rowS 2 W1 _ _ ty 53 g (i * 2) _ dc ⟨vb, 0, none⟩ _ 1 cur1 _ [.int .i64 e1, .int .i64 e2] Tryz.underlying28 hsz hgW1 (by rw [show Nat.min 1 (n + 1 - i) = 1 from Nat.min_eq_left (by omega)]; rfl) (fun j u hj => by rw [Addr.add_lit, Nat.zero_add]; exact hvW1 j u hj) ?_ (by simp [Value.oneCell'])
        rw [hc1]
        simp only [List.size_toArray, List.length_append, List.length_take, List.length_drop, List.length_cons, List.length_nil, Array.length_toList]
        omega
      have HFin := Lib.hid (show W2.ownsRow B 53 2 (.slice (some ⟨g, 0, none⟩) (n + 1) cap) (n + 1) (Rk.cells (insE R i (e1, e2))) ∧ Gr W W2 (.slice (some ⟨g, 0, none⟩) n cap) (.slice (some ⟨g, 0, none⟩) (n + 1) cap) from by
        refine ⟨⟨by rw [Rk.cells_length, ins_len, hn], .inr ⟨g, cap, cur2, rfl, hBg, hgW2, hroom, hcm, hs2, ?_⟩⟩, ?_, fun k hk => .inl hk⟩
        · rw [hf2, cells_ins, ← hXe, ← hYe]
          exact List.take_left' (by simp only [List.length_append, List.length_cons, List.length_nil, hX, hY]; omega)
        · exact ⟨hgb2.os.trans hgb1.os, hgb2.tape.trans hgb1.tape, hgb2.output.trans hgb1.output, Nat.le_trans hgb1.size hgb2.size, fun k hk hne => (hgb2.block k (Nat.lt_of_lt_of_le hk hgb1.size) hne).trans (hgb1.block k hk hne)⟩)
      clear hown hvb hg hcs htk hown2 hsl hsY hcl hX hY hYe hXe hZe hZl hY1 hcurl hc1 hW1 hgW1 hgb1 hc2 hW2 hgW2 hgb2 hTl hf2 hs2 hvW1 hi2
      go_enter Tryz.func80, Tryz.ntmps80
      go_wp2_with (simp only [hov])
      go_region_law (refine step_copy_runI rfl (.tmp 73) (.tmp 76) 28 28 rfl _ _ (by simp [Act.eval, Act.put]) (by simp [Act.eval, Act.put]) (hcp1 _ _ _) ?_)
      all_goals go_wp2_with (at_builtin; refine wpList_copy_runI _ rfl (.tmp 80) (.tmp 81) 28 28 rfl _ _ rfl rfl (hcp2 _ _) ?_)
      all_goals go_ret
      all_goals exact ⟨_, rfl, HFin.out.1, HFin.out.2.like rfl⟩
    · have hcn : cap = n := by omega
      subst hcn
      have hroom' : (cap : Int) < (cap : Int) + 1 := by omega
      obtain ⟨Y, hYe⟩ : ∃ Y, Y = Rk.cells (R.drop i) := ⟨_, rfl⟩
      obtain ⟨X, hXe⟩ : ∃ X, X = Rk.cells (R.take i) := ⟨_, rfl⟩
      have hY1 : ∀ u ∈ Y, u.oneCell' = true := by rw [hYe]; exact cells_one _
      have hXs : ∀ j u, X[j]? = some u → W.cell? ⟨g, j, none⟩ = some u := fun j u hj => by
        obtain ⟨b, off, hb, hc⟩ := hsl.2 (by omega)
        cases hb
        have := hc j u (by rw [cells_drop R i, cells_take, List.getElem?_append_left (by rw [← hXe]; exact (List.getElem?_eq_some_iff.1 hj).1), ← hXe]; exact hj)
        rw [Nat.zero_add] at this
        exact this
      rw [← hYe] at hsY hY
      rw [← hXe] at hX
      obtain ⟨i0, hi0, hz0, hzs, hzb⟩ := info_parts elemEdge.hi
      have hgw : g < W.heap.size := (Array.getElem?_eq_some_iff.1 hg).1
      obtain ⟨k, hk⟩ : ∃ k, k = cap + 1 - i := ⟨_, rfl⟩
      have hik : i + k = cap + 1 := by omega
      obtain ⟨G, hG⟩ : ∃ G, G = grownCap W (cap + 1) cap 53 := ⟨_, rfl⟩
      have hGn : cap + 1 ≤ G := by rw [hG]; exact grownCap_ge W _ _ _
      have hGm : G ≤ maxLen := by rw [hG]; exact grownCap_le_maxLen W _ _ _ (by unfold maxLen; omega)
      have hG63 : G ≤ 9223372036854775807 := by unfold maxLen at hGm; exact hGm
      obtain ⟨ROW, hROW⟩ : ∃ ROW : Array Value, ROW = X.toArray ++ Builtin.zeroCells (Value.agg #[.int .i64 0, .int .i64 0]).cells k ++ Builtin.zeroCells (Value.agg #[.int .i64 0, .int .i64 0]).cells (G - (cap + 1)) := ⟨_, rfl⟩
      obtain ⟨Wa, hWa⟩ : ∃ Wa, Wa = W.drew.alloc (.cells ROW 53) := ⟨_, rfl⟩
      have hold : (Builtin.firstCells i0.size i (.slice (some ⟨g, 0, none⟩) i cap)).run Tryz.prog W.drew = .ok X.toArray W.drew := by
        rw [hzs]
        exact run_firstCells_some (P := Tryz.prog) W.drew 2 i ⟨g, 0, none⟩ i cap X hX (fun j u hj => by rw [Addr.add_lit, Nat.zero_add]; exact hXs j u hj)
      have hrz : ∀ ty, (Builtin.append_ #[28, 3] ty #[.slice (some ⟨g, 0, none⟩) i cap, .int .i64 ((cap : Int) + 1 - (i : Int))]).run Tryz.prog W = .ok (.slice (some ⟨W.heap.size, 0, none⟩) (cap + 1) G) Wa := fun ty => by
        have h := Lib.run_append_grow_zeros (P := Tryz.prog) W 28 3 ty 53 i0 _ .i64 .i64 Tryz.underlying28 Tryz.underlying3 hi0 hz0 (some ⟨g, 0, none⟩) i cap X hold k (by omega) (by omega) (by omega) (by omega) (by rw [hzb]; omega) (by rw [hzb, hik]; exact growslice_fits (by omega) (by omega))
        rw [hik, ← hG, ← hROW, ← hWa] at h
        rw [show (cap : Int) + 1 - (i : Int) = (k : Int) by omega]
        exact h
      have hRs : ROW.size = G * 2 := by
        rw [hROW]
        simp [Builtin.zeroCells, Value.cells, hX]
        omega
      obtain ⟨RR, hRR⟩ : ∃ RR, ROW.toList = X ++ RR := ⟨_, by rw [hROW, Array.toList_append, Array.toList_append, List.append_assoc]⟩
      have hRRl : RR.length = G * 2 - i * 2 := by
        have h := congrArg List.length hRR
        rw [Array.length_toList, hRs, List.length_append, hX] at h
        omega
      have hgWa : Wa.heap[W.heap.size]? = some (.cells ROW 53 (0, 0)) := by rw [hWa]; exact heap_alloc_new W.drew _
      have hbWa : Below W.heap.size W Wa := by rw [hWa]; exact bel_al (bel_drewN (Below.refl _ _) 1) _
      have hvWa : ∀ j u, [Value.int .i64 e1, Value.int .i64 e2][j]? = some u → Wa.cell? ⟨vb, j, none⟩ = some u := fun j u hj => by
        rw [(hvb.keep hbWa).cell]
        match j, hj with
        | 0, hj => exact hj
        | 1, hj => exact hj
      obtain ⟨curA, hcA⟩ : ∃ curA : Array Value, curA = (ROW.toList.take (i * 2) ++ [Value.int .i64 e1, Value.int .i64 e2] ++ ROW.toList.drop (i * 2 + 2)).toArray := ⟨_, rfl⟩
      obtain ⟨W1, hW1⟩ : ∃ W1, W1 = Wa.setRow W.heap.size curA := ⟨_, rfl⟩
      have hgW1 : W1.heap[W.heap.size]? = some (.cells curA 53 (0, 0)) := by rw [hW1]; exact setRow_heap Wa _ ROW curA _ _ hgWa
      have hbW1 : Below W.heap.size W W1 := by rw [hW1]; exact hbWa.trans ⟨rfl, rfl, rfl, (grownBy_setRow Wa W.heap.size curA).size, fun q hq => setRow_other Wa W.heap.size q curA (by omega)⟩
      have hcpA : ∀ ty dc, (Builtin.copy_ #[28, 28] ty #[.slice (some ⟨W.heap.size, i * 2, none⟩) (cap + 1 - i) dc, .slice (some ⟨vb, 0, none⟩) 1 1]).run Tryz.prog Wa = .ok (goInt (Nat.min 1 (cap + 1 - i))) W1 := fun ty dc => by
        rw [hW1, hcA]
        exact run_copy_rowS 2 Wa _ _ ty 53 W.heap.size (i * 2) _ dc ⟨vb, 0, none⟩ _ 1 ROW _ [Value.int .i64 e1, Value.int .i64 e2] Tryz.underlying28 hsz hgWa (by rw [show Nat.min 1 (cap + 1 - i) = 1 from Nat.min_eq_left (by omega)]; rfl) (fun j u hj => by rw [Addr.add_lit, Nat.zero_add]; exact hvWa j u hj) (by rw [hRs]; simp only [List.length_cons, List.length_nil]; omega) (by simp [Value.oneCell'])
      have hsA : curA.size = G * 2 := by
        rw [hcA, List.size_toArray]
        simp only [List.length_append, List.length_take, List.length_drop, List.length_cons, List.length_nil, Array.length_toList, hRs]
        omega
      obtain ⟨curB, hcB⟩ : ∃ curB : Array Value, curB = (curA.toList.take ((i + 1) * 2) ++ Y ++ curA.toList.drop ((i + 1) * 2 + Y.length)).toArray := ⟨_, rfl⟩
      obtain ⟨W2, hW2⟩ : ∃ W2, W2 = W1.drew.setRow W.heap.size curB := ⟨_, rfl⟩
      have hgW2 : W2.heap[W.heap.size]? = some (.cells curB 53 (0, 0)) := by rw [hW2]; exact setRow_heap W1.drew _ curA curB _ _ hgW1
      have hbW2 : Below W.heap.size W W2 := by rw [hW2]; exact hbW1.trans ⟨rfl, rfl, rfl, (grownBy_setRow W1.drew W.heap.size curB).size, fun q hq => setRow_other W1.drew W.heap.size q curB (by omega)⟩
      have hcpB : ∀ ty dc sc, (Builtin.copy_ #[28, 28] ty #[.slice (some ⟨W.heap.size, (i + 1) * 2, none⟩) (cap - i) dc, .slice (some ⟨g, i * 2, none⟩) (cap - i) sc]).run Tryz.prog W1.drew = .ok (goInt (Nat.min (cap - i) (cap - i))) W2 := fun ty dc sc => by
        rw [hW2, hcB]
        exact run_copy_rowS 2 W1.drew _ _ ty 53 W.heap.size ((i + 1) * 2) _ dc ⟨g, i * 2, none⟩ _ sc curA _ Y Tryz.underlying28 hsz hgW1 (by rw [hY, show Nat.min (cap - i) (cap - i) = cap - i from Nat.min_self _]) (fun j u hj => by rw [Addr.add_lit]; exact (hbW1.cell (p := ⟨g, i * 2 + j, none⟩) hgw).trans (hsY j u hj)) (by rw [hsA, hY]; omega) hY1
      have hsB : curB.size = G * 2 := by
        rw [hcB, List.size_toArray]
        simp only [List.length_append, List.length_take, List.length_drop, Array.length_toList, hsA, hY]
        omega
      obtain ⟨Tl, hTl⟩ := splice_fresh X [Value.int .i64 e1, Value.int .i64 e2] Y RR (by simp only [List.length_cons, List.length_nil, hY, hRRl]; omega)
      have hi2 : (i + 1) * 2 = X.length + 2 := by omega
      have hfB : curB.toList = X ++ [Value.int .i64 e1, Value.int .i64 e2] ++ Y ++ Tl := by
        rw [hcB, hcA, List.toList_toArray, List.toList_toArray, hRR, hi2, ← hX]
        exact hTl
      have HFin := Lib.hid (show W2.ownsRow B 53 2 (.slice (some ⟨W.heap.size, 0, none⟩) (cap + 1) G) (cap + 1) (Rk.cells (insE R i (e1, e2))) ∧ Gr W W2 (.slice (some ⟨g, 0, none⟩) cap cap) (.slice (some ⟨W.heap.size, 0, none⟩) (cap + 1) G) from by
        refine ⟨⟨by rw [Rk.cells_length, ins_len, hn], .inr ⟨W.heap.size, G, curB, rfl, hBW, hgW2, hGn, hGm, hsB, ?_⟩⟩, Gr.of_new hbW2 _ (fun q hq => Nat.le_of_eq (show W.heap.size = q by simpa [Value.ownBlock] using hq))⟩
        rw [hfB, cells_ins, ← hXe, ← hYe]
        exact List.take_left' (by simp only [List.length_append, List.length_cons, List.length_nil, hX, hY]; omega))
      have hw1 : IntKind.i64.wrap ((i : Int) + 1) = (i : Int) + 1 := by rw [IntKind.wrap_i64]; omega
      have hw2 : IntKind.i64.wrap ((cap : Int) + 1) = (cap : Int) + 1 := by rw [IntKind.wrap_i64]; omega
      have hw3 : IntKind.i64.wrap ((cap : Int) + 1 - (i : Int)) = (cap : Int) + 1 - (i : Int) := by rw [IntKind.wrap_i64]; omega
      have htn : ((i : Int) + 1).toNat = i + 1 := by omega
      have hb1 : (0 : Int) ≤ (i : Int) + 1 := by omega
      have hb2 : ¬ (G = i + 1) := by omega
      have hb3 : (i : Int) ≤ (cap : Int) + 1 := by omega
      have hb4 : ¬ (G = i) := by omega
      have hb5 : ¬ (cap = i) := by omega
      have hb6 : (i : Int) + 1 ≤ (cap : Int) + 1 := by omega
      have hb7 : (i : Int) ≤ (cap : Int) := by omega
      have hb8 : ¬ (i = cap) := by omega
      have hb9 : (cap : Int) + 1 ≤ (G : Int) := by omega
      clear hown hvb hg hcs htk hown2 hsl hsY hcl hX hY hYe hXe hY1 hXs hi0 hz0 hzs hzb hik hk hG hROW hWa hold hRs hRR hRRl hgWa hbWa hvWa hcA hW1 hgW1 hbW1 hsA hcB hW2 hgW2 hbW2 hsB hTl hi2 hfB
      go_enter Tryz.func80, Tryz.ntmps80
      go_wp2_with (first
        | (at_builtin; refine Lib.wpList_append_run _ rfl _ _ _ _ rfl _ _ rfl rfl _ _ (hrz _) ?_)
        | (at_builtin; refine wpList_copy_runI _ rfl _ _ 28 28 rfl _ _ rfl rfl (hcpA _ _) ?_))
      go_region_law (refine step_copy_runI rfl (.tmp 50) (.tmp 53) 28 28 rfl _ _ (by simp [Act.eval, Act.put]) (by simp [Act.eval, Act.put]) (hcpB _ _ _) ?_)
      all_goals go_wp2_with fail
      all_goals go_ret
      all_goals exact ⟨_, rfl, HFin.out.1, HFin.out.2.like rfl⟩
end Go.Proofs.YtapledphhfiimaaGreatDoor
/-
  conf: the walk of Prog (slices.Clone, Grow, Concat of programs of tests).
-/
namespace Go.Proofs.YtapledphhfiimaaGreatDoor
open Go.RowKit Go.Proofs.YtapledphhfiimaaGreatDoor.Pg
attribute [local go_sem ↓] Go.wp_at_zero Go.wp_at_succ
set_option maxRecDepth 100000
set_option linter.unusedVariables false

set_option maxHeartbeats 2000000 in
theorem CloneP_own (p : List (Int × Int)) (A : Option Addr) (n c : Nat) (w : World) (hl : p.length = n) (hn : n ≤ 1000000) (hs : Sl w 2 A n (Rk.cells p)) :
    Calls Tryz.prog 48 #[.slice A n c] w fun e w' => ∃ v, e = .returned v ∧ w'.ownsRow w.heap.size 40 2 v n (Rk.cells p) ∧ Below w.heap.size w w' := by
  have nn := fun (w : World) (a : Option Addr) (n c : Nat) => Lib.run_eql_slice_nil (P := Tryz.prog) w 33 40 a n c 0 0 Tryz.underlying33
  have HS := Lib.hid hs
  go_enter Tryz.func48, Tryz.ntmps48
  rcases A with _ | A
  · have hn0 : n = 0 := by
      rcases Nat.eq_zero_or_pos n with h | h
      · exact h
      · obtain ⟨_, _, h, _⟩ := hs.2 h; cases h
    subst hn0
    clear hs
    go_wp2_with fail
    go_ret
    obtain rfl := List.eq_nil_of_length_eq_zero hl
    exact ⟨_, rfl, World.ownsRow_nil _ _ _ _, Below.refl _ _⟩
  · have hbA := bel_al (Below.refl w.heap.size w) (.cells #[] 40)
    have HOE := Lib.hid (World.ownsRow_made (e := 40) (size := 2) w #[] 0 (Nat.le_refl _) (Nat.zero_le _) rfl)
    have HBA := Lib.hid hbA
    have SPA := Lib.hid (HS.out.keep hbA)
    clear hs hbA
    go_wp2_with (at_builtin; refine wpList_cat_at elemOp _ _ rfl rfl HOE.out HBA.out.size SPA.out rfl rfl (cells_one p) (by unfold lim; omega) (by unfold lim; omega) ?_; intro v8 w8 hown8 hg8; have HO8 := Lib.hid hown8; have HB8 := Lib.hid (HBA.out.trans (hg8.belowOwn HBA.out.size HOE.out)); clear hown8 hg8 HOE HBA SPA)
    go_ret
    have hown := HO8.out
    rw [List.nil_append, Nat.zero_add] at hown
    exact ⟨_, rfl, hown, HB8.out⟩
def growP_ren : Go.Shelf.Ren := ⟨fun | 4 => 77 | n => n, fun | 22 => 33 | 25 => 40 | 3 => 3 | 4 => 4 | 9 => 9 | 20 => 20 | 0 => 0 | n => n, fun | n => n⟩
theorem growP_lays : Go.Proofs.Lays8.n4 Tryz.prog growP_ren := {
  mixed := by kernel_rfl
  f4 := ⟨Tryz.f77.name, by kernel_rfl, Tryz.func77.trans (congrArg some (by kernel_rfl))⟩
  t0 := Tryz.underlying0
  a0 := Tryz.isAgg0
  z0 := Tryz.sizeOf0
  v0 := Tryz.zeroValue0
  t3 := Tryz.underlying3
  a3 := Tryz.isAgg3
  z3 := Tryz.sizeOf3
  v3 := Tryz.zeroValue3
  t4 := Tryz.underlying4
  a4 := Tryz.isAgg4
  z4 := Tryz.sizeOf4
  v4 := Tryz.zeroValue4
  t9 := Tryz.underlying9
  a9 := Tryz.isAgg9
  z9 := Tryz.sizeOf9
  v9 := Tryz.zeroValue9
  t20 := Tryz.underlying20
  a20 := Tryz.isAgg20
  z20 := Tryz.sizeOf20
  v20 := Tryz.zeroValue20
  t22 := Tryz.underlying33
  a22 := Tryz.isAgg33
  z22 := Tryz.sizeOf33
  v22 := Tryz.zeroValue33 }

theorem GrowNilP_any (n : Nat) (w : World) (hn : n ≤ 1000000) :
    Calls Tryz.prog 77 #[.slice none 0 0, .int .i64 n] w fun e w' => ∃ v, e = .returned v ∧ w'.ownsRow w.heap.size 40 2 v 0 [] ∧ Below w.heap.size w w' := by
  rcases Nat.eq_zero_or_pos n with h | h
  · subst h
    refine (Go.Proofs.Any8.slices_Grow_room growP_lays none 0 0 0 w (Nat.le_refl _) (by omega) (by omega) (by omega)).mono ?_
    rintro e w' ⟨rfl, rfl⟩
    exact ⟨_, rfl, World.ownsRow_nil _ _ _ _, Below.refl _ _⟩
  · obtain ⟨i, hi, hz, hsize, hby⟩ := info_parts elemOp.hi
    refine (Go.Proofs.Any8.slices_Grow_grow growP_lays i (.agg #[.int .i64 0, .int .i64 0]) hi hz (by rw [hsize]; omega) none 0 0 n [] w (Nat.le_refl _) (by omega) (by rw [hby]; omega) (by omega) (by simp) (fun _ => rfl) (fun _ h => by cases h)).mono ?_
    rintro e w' ⟨rfl, rfl⟩
    have h1 := grownCap_ge w (0 + n) 0 (growP_ren.t 25)
    have h2 := grownCap_le_maxLen w (0 + n) 0 (growP_ren.t 25) (by unfold maxLen; omega)
    generalize grownCap w (0 + n) 0 (growP_ren.t 25) = G at *
    refine ⟨_, rfl, World.ownsRow_made (e := 40) (size := 2) w.drew _ _ (Nat.le_refl _) h2 ?_, bel_al (show Below w.heap.size w w.drew from drew_bel ⟨1, rfl⟩) _⟩
    simp only [List.toArray, Array.size_append, size_zeroCells]
    have h3 : (Value.agg #[.int .i64 0, .int .i64 0]).cells.size = 2 := rfl
    rw [h3]
    simp
    omega


/-- What some of two rows hold. -/
def pre2 (p q : List (Int × Int)) (k : Nat) : List (Int × Int) := if k = 0 then [] else if k = 1 then p else p ++ q
set_option maxHeartbeats 2000000 in
theorem ConcatP_any (p q : List (Int × Int)) (A1 A2 A : Option Addr) (n1 n2 c1 c2 c : Nat) (w : World) (hn1 : n1 ≤ 100000) (hn2 : n2 ≤ 100000) (hs : Sl w 1 A 2 [.slice A1 n1 c1, .slice A2 n2 c2]) (h1 : Sl w 2 A1 n1 (Rk.cells p)) (h2 : Sl w 2 A2 n2 (Rk.cells q)) :
    Calls Tryz.prog 47 #[.slice A 2 c] w fun e w' => ∃ v, e = .returned v ∧ w'.ownsRow w.heap.size 40 2 v (n1 + n2) (Rk.cells (p ++ q)) ∧ Below w.heap.size w w' := by
  have HS := Lib.hid hs
  have H1 := Lib.hid h1
  have H2 := Lib.hid h2
  have HL1 := Lib.hid h1.len2
  have HL2 := Lib.hid h2.len2
  clear hs h1 h2
  go_enter Tryz.func47, Tryz.ntmps47
  go_wp2_with fail
  go_loop [3, 11] (fun sv iv => ∃ k z : Nat, k ≤ 2 ∧ iv = .int .i64 (k : Int) ∧ sv = .int .i64 (z : Int) ∧ Hid (z = (pre2 p q k).length)) (fun _ iv => 2 - (intOf iv).toNat)
  case atStart => exact ⟨0, 0, Nat.zero_le _, rfl, rfl, Lib.hid rfl⟩
  case round =>
    obtain ⟨k, z, hk, rfl, rfl, HZ⟩ := hrel
    rcases (show k = 0 ∨ k = 1 ∨ k = 2 by omega) with rfl | rfl | rfl
    · obtain ⟨b, off, u, rfl, e1, c0⟩ := HS.out.one (k := 0) (by omega)
      obtain rfl : Value.slice A1 n1 c1 = u := Option.some.inj e1
      simp only [Nat.add_zero] at c0
      obtain rfl : z = 0 := HZ.out
      have hw2 : IntKind.i64.wrap (0 + (n1 : Int)) = (n1 : Int) := by rw [IntKind.wrap_i64]; omega
      have hw3 : IntKind.i64.wrap (n1 : Int) = (n1 : Int) := by rw [IntKind.wrap_i64]; omega
      have hneg : ¬ (n1 : Int) < 0 := by omega
      clear e1
      go_wp2_with fail
      go_round
      case rel => exact ⟨1, n1, by omega, by go_num, by go_num, Lib.hid HL1.out.symm⟩
      case measure => simp [intOf]
    · obtain ⟨b, off, u, rfl, e1, c0⟩ := HS.out.one (k := 1) (by omega)
      obtain rfl : Value.slice A2 n2 c2 = u := Option.some.inj e1
      obtain rfl : z = n1 := HZ.out.trans HL1.out
      have hw2 : IntKind.i64.wrap ((z : Int) + (n2 : Int)) = ((z + n2 : Nat) : Int) := by rw [IntKind.wrap_i64]; omega
      have hw4 : wrap64 ((z : Int) + (n2 : Int)) = ((z + n2 : Nat) : Int) := by unfold wrap64; omega
      have hneg : ¬ ((z + n2 : Nat) : Int) < 0 := by omega
      clear e1
      go_wp2_with fail
      go_round
      case rel => exact ⟨2, z + n2, by omega, by go_num, by go_num, Lib.hid (by show _ = (p ++ q).length; rw [List.length_append, HL1.out, HL2.out])⟩
      case measure => simp [intOf]
    · obtain rfl : z = n1 + n2 := HZ.out.trans (by show (p ++ q).length = _; rw [List.length_append, HL1.out, HL2.out])
      have HG := Lib.hid (GrowNilP_any (n1 + n2) w (by omega))
      rw [show (((n1 + n2 : Nat)) : Int) = (n1 : Int) + (n2 : Int) from by omega] at HG ⊢
      go_wp2_with fail
      refine HG.out.mono ?_
      rintro e w1 ⟨v, rfl, hown, hb1⟩
      have HO := Lib.hid hown
      have HB := Lib.hid hb1
      clear hown hb1
      go_wp2_with fail
      go_loopw [6, 27] (fun nv iv wr => ∃ (j : Nat), j ≤ 2 ∧ iv = .int .i64 (j : Int) ∧ wr.ownsRow w.heap.size 40 2 nv (pre2 p q j).length (Rk.cells (pre2 p q j)) ∧ Below w.heap.size w wr) (fun _ iv _ => 2 - (intOf iv).toNat)
      case atStart => exact ⟨0, Nat.zero_le _, rfl, HO.out, HB.out⟩
      case round =>
        obtain ⟨j, hj, rfl, hown, hb⟩ := hrel
        clear HO HB
        have HO := Lib.hid hown
        have HB := Lib.hid hb
        clear hown hb
        rcases (show j = 0 ∨ j = 1 ∨ j = 2 by omega) with rfl | rfl | rfl
        · obtain ⟨b, off, u, rfl, e1, c0⟩ := (HS.out.keep HB.out).one (k := 0) (by omega)
          obtain rfl : Value.slice A1 n1 c1 = u := Option.some.inj e1
          simp only [Nat.add_zero] at c0
          have HR1 := Lib.hid (H1.out.keep HB.out)
          have HO' := Lib.hid (show wr.ownsRow w.heap.size 40 2 _ 0 [] from HO.out)
          clear e1
          go_wp2_with (at_builtin; refine wpList_cat_at elemOp _ _ rfl rfl HO'.out HB.out.size HR1.out rfl rfl (cells_one p) (by unfold lim; omega) (by unfold lim; omega) ?_; intro v8 w8 hown8 hg8; have HO8 := Lib.hid hown8; have HB8 := Lib.hid (HB.out.trans (hg8.belowOwn HB.out.size HO'.out)); clear hown8 hg8)
          go_roundw
          case rel => exact ⟨1, by omega, by go_num, by have h := HO8.out; rw [Nat.zero_add, List.nil_append, ← HL1.out] at h; exact h, HB8.out⟩
          case measure => simp [intOf]
        · obtain ⟨b, off, u, rfl, e1, c0⟩ := (HS.out.keep HB.out).one (k := 1) (by omega)
          obtain rfl : Value.slice A2 n2 c2 = u := Option.some.inj e1
          have HR2 := Lib.hid (H2.out.keep HB.out)
          have HO' := Lib.hid (show wr.ownsRow w.heap.size 40 2 _ n1 (Rk.cells p) from by have h := HO.out; rw [show (pre2 p q 1).length = n1 from HL1.out] at h; exact h)
          clear e1
          go_wp2_with (at_builtin; refine wpList_cat_at elemOp _ _ rfl rfl HO'.out HB.out.size HR2.out rfl rfl (cells_one q) (by unfold lim; omega) (by unfold lim; omega) ?_; intro v8 w8 hown8 hg8; have HO8 := Lib.hid hown8; have HB8 := Lib.hid (HB.out.trans (hg8.belowOwn HB.out.size HO'.out)); clear hown8 hg8)
          go_roundw
          case rel => exact ⟨2, by omega, by go_num, by have h := HO8.out; rw [show (pre2 p q 2).length = n1 + n2 from by show (p ++ q).length = _; rw [List.length_append, HL1.out, HL2.out], show Rk.cells (pre2 p q 2) = Rk.cells p ++ Rk.cells q from by show Rk.cells (p ++ q) = _; unfold Rk.cells; rw [List.flatMap_append]]; exact h, HB8.out⟩
          case measure => simp [intOf]
        · have HO' := Lib.hid (show wr.ownsRow w.heap.size 40 2 _ (n1 + n2) (Rk.cells (p ++ q)) from by have h := HO.out; rw [show (pre2 p q 2).length = n1 + n2 from by show (p ++ q).length = _; rw [List.length_append, HL1.out, HL2.out]] at h; exact h)
          go_wp2_with fail
          go_ret
          exact ⟨_, rfl, HO'.out, HB.out⟩
/-- What a job keeps. -/
def progC (c : Cf.CF) : List (Int × Int) := if c.kind = 2 then (1, 0) :: c.keep else c.keep
set_option maxHeartbeats 1000000 in
theorem CfProg_any (c : Cf.CF) (A : Option Addr) (n d : Nat) (w : World) (hn : n ≤ 1000) (hl : c.keep.length = n) (hs : Sl w 2 A n (Rk.cells c.keep)) :
    Calls Tryz.prog 17 #[confV c A n d] w fun e w' => ∃ v, e = .returned v ∧ w'.ownsRow w.heap.size 40 2 v (progC c).length (Rk.cells (progC c)) ∧ Below w.heap.size w w' := by
  have HB0 := Lib.hid (bel_al (Below.refl w.heap.size w) (.cells #[.int .i64 c.kind, .int .i64 c.size, .int .i64 c.sup, .int .i64 c.wk, .int .i64 c.cap, .slice A n d] 49))
  have HC := Lib.hid (CloneP_own c.keep A n d (w.alloc (.cells #[.int .i64 c.kind, .int .i64 c.size, .int .i64 c.sup, .int .i64 c.wk, .int .i64 c.cap, .slice A n d] 49)) hl (by omega) (hs.keep HB0.out))
  by_cases h2 : c.kind = 2
  · have HP := Lib.hid (show progC c = [(1, 0)] ++ c.keep from by unfold progC; rw [if_pos h2]; rfl)
    obtain ⟨w1, hw1⟩ : ∃ W, W = (w.alloc (.cells #[.int .i64 c.kind, .int .i64 c.size, .int .i64 c.sup, .int .i64 c.wk, .int .i64 c.cap, .slice A n d] 49)).alloc (.cells #[.int .i64 1, .int .i64 0] 40) := ⟨_, rfl⟩
    obtain ⟨w2, hw2⟩ : ∃ W, W = w1.alloc (.cells #[.slice (some ⟨w.heap.size + 1, 0, none⟩) 1 1, .slice A n d] 33) := ⟨_, rfl⟩
    have hz1 : w1.heap.size = w.heap.size + 2 := by rw [hw1]; simp
    have HB1 := Lib.hid (show Below w.heap.size w w1 from by rw [hw1]; exact bel_al HB0.out _)
    have HB2 := Lib.hid (show Below w.heap.size w w2 from by rw [hw2]; exact bel_al HB1.out _)
    have HCo := Lib.hid (ConcatP_any [(1, 0)] c.keep (some ⟨w.heap.size + 1, 0, none⟩) A (some ⟨w.heap.size + 2, 0, none⟩) 1 n 1 d 2 w2 (by omega) (by omega) (by
      rw [hw2, ← hz1]
      exact Sl.newAt w1 [.slice (some ⟨w.heap.size + 1, 0, none⟩) 1 1, .slice A n d] 33 2 rfl) (by
      rw [hw2, hw1]
      have h := Sl.of_own (World.ownsRow_lit (base := 0) (e := 40) (size := 2) (w.alloc (.cells #[.int .i64 c.kind, .int .i64 c.size, .int .i64 c.sup, .int .i64 c.wk, .int .i64 c.cap, .slice A n d] 49)) #[.int .i64 1, .int .i64 0] 1 (Nat.zero_le _) (by unfold maxLen; omega) rfl)
      rw [World.size_alloc] at h
      exact h.alloc _) (hs.keep HB2.out))
    rw [hw2, hw1] at HCo HB2
    have HL := Lib.hid hl
    clear hs hl HC hw1 hw2 hz1 HB1
    obtain ⟨kd, sz, sp, wk, cp, kp⟩ := c
    simp only at h2 HP HCo HL HB2 HB0 ⊢
    subst h2
    go_enter Tryz.func17, Tryz.ntmps17
    go_wp2_with (go_at_call 47; refine HCo.out.mono ?_; clear HCo; rintro e w3 ⟨v, rfl, hown, hb3⟩; have HO := Lib.hid hown; have HB3 := Lib.hid (HB2.out.andThen hb3); clear hown hb3)
    go_ret
    refine ⟨v, rfl, ?_, HB3.out⟩
    have h := own_mono HO.out (show w.heap.size ≤ _ from HB2.out.size)
    rw [HP.out, List.length_append, HL.out]
    exact h
  · have HP := Lib.hid (show progC c = c.keep from by unfold progC; rw [if_neg h2])
    have h2' : (c.kind == 2) = false := by simpa using h2
    have HL := Lib.hid hl
    clear hs hl h2
    obtain ⟨kd, sz, sp, wk, cp, kp⟩ := c
    simp only at h2' HP HC HL HB0 ⊢
    go_enter Tryz.func17, Tryz.ntmps17
    go_wp2_with (go_at_call 48; refine HC.out.mono ?_; clear HC; rintro e w3 ⟨v, rfl, hown, hb3⟩; have HO := Lib.hid hown; have HB3 := Lib.hid (HB0.out.andThen hb3); clear hown hb3)
    go_ret
    refine ⟨v, rfl, ?_, HB3.out⟩
    have h := own_mono HO.out (show w.heap.size ≤ _ from HB0.out.size)
    rw [HP.out, HL.out]
    exact h
end Go.Proofs.YtapledphhfiimaaGreatDoor
/-
  conf: the walk of Right.
-/
namespace Go.Proofs.YtapledphhfiimaaGreatDoor
open Go.RowKit Go.Proofs.YtapledphhfiimaaGreatDoor.Pg
attribute [local go_sem ↓] Go.wp_at_zero Go.wp_at_succ
set_option maxRecDepth 100000
set_option linter.unusedVariables false

/-- What Right answers. -/
def CfRightRes (c : Cf.CF) (w : World) (e : Ending) (w' : World) : Prop :=
  (Cf.rightC c ∧ e = .returned .nilIface ∧ Below w.heap.size w w') ∨ (¬ Cf.rightC c ∧ ∃ g, e = .returned (.iface 111 (.pointer (some ⟨g, 0, none⟩))) ∧ Blk w' g 114 #[.int .i64 12, .int .i64 0, .string ⟨#[106, 111, 98]⟩] ∧ Below w.heap.size w w')
theorem Within_t (n m : Int) (h : 1 ≤ n ∧ n ≤ m) (w : World) : Calls Tryz.prog 107 #[.int .i64 n, .int .i64 m] w fun e w' => e = .returned (.bool true) ∧ w = w' :=
  (Within_any n m w).mono fun e w' h' => ⟨by rw [h'.1, decide_eq_true h.1, decide_eq_true h.2]; rfl, h'.2⟩
theorem Within_f (n m : Int) (h : ¬ (1 ≤ n ∧ n ≤ m)) (w : World) : Calls Tryz.prog 107 #[.int .i64 n, .int .i64 m] w fun e w' => e = .returned (.bool false) ∧ w = w' :=
  (Within_any n m w).mono fun e w' h' => ⟨by
    rw [h'.1, show (decide (1 ≤ n) && decide (n ≤ m)) = false from by
      by_cases h1 : 1 ≤ n
      · rw [decide_eq_false (fun h2 => h ⟨h1, h2⟩), Bool.and_false]
      · rw [decide_eq_false h1, Bool.false_and]], h'.2⟩
end Go.Proofs.YtapledphhfiimaaGreatDoor
