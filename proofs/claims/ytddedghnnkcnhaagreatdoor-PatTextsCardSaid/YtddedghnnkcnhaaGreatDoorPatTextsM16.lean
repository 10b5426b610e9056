/-
  Part 16 of the proof of PatTexts: PatI, PatM, PatK.
-/
import Derived.Shelf.Spec.SlicesInsert
import Derived.Lib.AppendZerosOnto
import Derived.Lib.AppendZeros
import Derived.Lib.Overlaps
import Derived.Laws.CopyRow
import Derived.Deep.RegionLaw
import Derived.Test.YtddedghnnkcnhaaGreatDoorPatTextsM4
/-
  slices.Insert of one edge into a row that the call owns.
-/
namespace Go.Proofs.YtddedghnnkcnhaaGreatDoor
open Go.RowKit Go.Proofs
attribute [local go_sem ↓] Go.wp_at_zero Go.wp_at_succ
set_option maxRecDepth 100000
set_option linter.unusedVariables false

/-- copy of elements of s cells each. -/
theorem run_copy_rowS {P : Program} (s : Nat) (w : World) (dT sT ty elem : TypeId) (g o dLen dCap : Nat) (a : Addr) (sLen sCap : Nat) (cur : Array Value) (t : TypeId) (cs : List Value)
    (hu : P.underlying dT = some (.slice elem)) (hs : (P.info? elem).map (·.size) = some s)
    (hg : w.heap[g]? = some (.cells cur t (0, 0))) (hn : cs.length = Nat.min sLen dLen * s)
    (hsrc : ∀ j v, cs[j]? = some v → w.cell? (a.add j) = some v) (hfit : o + cs.length ≤ cur.size) (h1 : ∀ v ∈ cs, v.oneCell' = true) :
    (Builtin.copy_ #[dT, sT] ty #[.slice (some ⟨g, o, none⟩) dLen dCap, .slice (some a) sLen sCap]).run P w =
      .ok (goInt (Nat.min sLen dLen)) (w.setRow g (cur.toList.take o ++ cs ++ cur.toList.drop (o + cs.length)).toArray) := by
  have hl := run_loadCells_list (P := P) w a cs hsrc
  have hst := run_storeCells_at P g o t cs 0 cur w hg (by simpa using hfit) h1
  cases hq : P.info? elem with
  | none => simp [hq] at hs
  | some i =>
    have hi : i.size = s := by simpa [hq] using hs
    simp [Builtin.copy_, run_underlying hu, Builtin.lenOf, Builtin.firstCells, sizeOf, typeInfo, hq, hi, ← hn, hl, hst]

theorem splice_shift {α : Type} (X E Y Z : List α) (hZ : E.length ≤ Z.length) :
    ∃ T, (((X ++ Y ++ Z).take (X.length + E.length) ++ Y ++ (X ++ Y ++ Z).drop (X.length + E.length + Y.length)).take X.length ++ E ++ ((X ++ Y ++ Z).take (X.length + E.length) ++ Y ++ (X ++ Y ++ Z).drop (X.length + E.length + Y.length)).drop (X.length + E.length)) = X ++ E ++ Y ++ T := by
  obtain ⟨D, hD⟩ : ∃ D, D = (X ++ Y ++ Z).drop (X.length + E.length + Y.length) := ⟨_, rfl⟩
  rw [← hD]
  have h1 : ((X ++ Y ++ Z).take (X.length + E.length)).length = X.length + E.length := by
    rw [List.length_take, List.length_append, List.length_append]; omega
  have h2 : ((X ++ Y ++ Z).take (X.length + E.length)).take X.length = X := by
    rw [List.take_take, Nat.min_eq_left (by omega), List.append_assoc, List.take_left']
    rfl
  obtain ⟨Q, hQ⟩ : ∃ Q, Q = (X ++ Y ++ Z).take (X.length + E.length) := ⟨_, rfl⟩
  rw [← hQ] at h1 h2 ⊢
  have f1 : (Q ++ Y ++ D).take X.length = X := by rw [List.append_assoc, List.take_append_of_le_length (by omega), h2]
  have f2 : (Q ++ Y ++ D).drop (X.length + E.length) = Y ++ D := by rw [List.append_assoc]; exact List.drop_left' h1
  refine ⟨D, ?_⟩
  rw [f1, f2]
  simp
theorem splice_fresh {α : Type} (X E Y R : List α) (hR : E.length + Y.length ≤ R.length) :
    ∃ T, (((X ++ R).take X.length ++ E ++ (X ++ R).drop (X.length + E.length)).take (X.length + E.length) ++ Y ++ ((X ++ R).take X.length ++ E ++ (X ++ R).drop (X.length + E.length)).drop (X.length + E.length + Y.length)) = X ++ E ++ Y ++ T := by
  have h1 : (X ++ R).take X.length = X := List.take_left' rfl
  rw [h1]
  refine ⟨(X ++ E ++ (X ++ R).drop (X.length + E.length)).drop (X.length + E.length + Y.length), ?_⟩
  have h2 : (X ++ E ++ (X ++ R).drop (X.length + E.length)).take (X.length + E.length) = X ++ E := List.take_left' (by simp)
  rw [h2]
theorem cells_take (R : List (Int × Int)) (i : Nat) : (Rk.cells R).take (i * 2) = Rk.cells (R.take i) := by
  induction R generalizing i with
  | nil => simp [Rk.cells]
  | cons a R ih =>
    cases i with
    | zero => simp [Rk.cells]
    | succ i =>
      rw [show (i + 1) * 2 = i * 2 + 1 + 1 by omega]
      have := ih i
      simp only [Rk.cells, List.take_succ_cons, List.flatMap_cons] at this ⊢
      simp only [List.cons_append, List.nil_append, List.take_succ_cons, this]
theorem cells_append (R S : List (Int × Int)) : Rk.cells (R ++ S) = Rk.cells R ++ Rk.cells S := by simp [Rk.cells]
theorem cells_one (R : List (Int × Int)) : ∀ v ∈ Rk.cells R, v.oneCell' = true := by
  intro v hv
  unfold Rk.cells at hv
  obtain ⟨e, _, h⟩ := List.mem_flatMap.1 hv
  simp at h
  rcases h with rfl | rfl <;> rfl

theorem cells_drop (R : List (Int × Int)) (i : Nat) : Rk.cells R = (Rk.cells R).take (i * 2) ++ Rk.cells (R.drop i) := by
  conv => lhs; rw [← List.take_append_drop i R, cells_append]
  rw [cells_take]
/-- A row with an edge put in. -/
def insE (R : List (Int × Int)) (i : Nat) (e : Int × Int) : List (Int × Int) := R.take i ++ e :: R.drop i
theorem cells_ins (R : List (Int × Int)) (i : Nat) (e : Int × Int) : Rk.cells (insE R i e) = Rk.cells (R.take i) ++ [.int .i64 e.1, .int .i64 e.2] ++ Rk.cells (R.drop i) := by
  unfold insE
  rw [cells_append]
  simp [Rk.cells]
theorem ins_len (R : List (Int × Int)) (i : Nat) (e : Int × Int) : (insE R i e).length = R.length + 1 := by
  unfold insE
  rw [List.length_append, List.length_cons, List.length_take, List.length_drop]
  omega
theorem grownBy_setRow (w : World) (g : Nat) (cs : Array Value) : w.grownBy (w.setRow g cs) (some g) :=
  ⟨rfl, rfl, rfl, by simp [World.setRow], fun k _ hk => setRow_other w g k cs (fun e => hk (by rw [e]))⟩

theorem Gr.like {w w' : World} {v u v' : Value} (h : Gr w w' v v') (hu : u.ownBlock = v.ownBlock) : Gr w w' u v' := ⟨by rw [hu]; exact h.g, by rw [hu]; exact h.at_⟩
set_option maxHeartbeats 8000000 in
theorem Insert_any (R : List (Int × Int)) (e : Int × Int) (B n i vb : Nat) (v : Value) (W : World) (hn : R.length = n) (hn9 : n ≤ 1000) (hi : i ≤ n) (hown : W.ownsRow B 121 2 v n (Rk.cells R)) (hBW : B ≤ W.heap.size)
    (hvb : Blk W vb 121 #[.int .i64 e.1, .int .i64 e.2]) (hne : v.ownBlock ≠ some vb) :
    Calls Tryz.prog 153 #[v, .int .i64 (i : Int), .slice (some ⟨vb, 0, none⟩) 1 1] W fun e' w' => ∃ v', e' = .returned v' ∧ w'.ownsRow B 121 2 v' (n + 1) (Rk.cells (insE R i e)) ∧ Gr W w' v v' := by
  obtain ⟨e1, e2⟩ := e
  by_cases hin : i = n
  · subst hin
    have HO := Lib.hid hown
    have HV := Lib.hid hvb
    have HE := Lib.hid (show Rk.cells (insE R i (e1, e2)) = Rk.cells R ++ [.int .i64 e1, .int .i64 e2] by
      rw [cells_ins, List.take_of_length_le (by omega), List.drop_of_length_le (by omega)]
      simp [Rk.cells])
    have HSv := Lib.hid (show Sl W 2 (some ⟨vb, 0, none⟩) 1 [.int .i64 e1, .int .i64 e2] from ⟨rfl, fun _ => ⟨vb, 0, rfl, fun j u hj => by
      rw [Nat.zero_add, hvb.cell]
      match j, hj with
      | 0, hj => exact hj
      | 1, hj => exact hj⟩⟩)
    rcases hown.2 with ⟨rfl, h0⟩ | ⟨g, cap, cur, rfl, hBg, hg, hnc, hcm, hcs, htk⟩
    · subst h0
      clear hown hvb
      go_enter Tryz.func153, Tryz.ntmps153
      go_wp2_with (at_builtin; refine wpList_cat_at elemEdge _ _ rfl rfl HO.out hBW HSv.out rfl rfl (by simp [Value.oneCell']) (by unfold lim; omega) (by unfold lim; omega) ?_; intro v' w' hown' hgr)
      go_ret
      exact ⟨_, rfl, by rw [HE.out]; exact hown', hgr⟩
    · have hci : (i : Int) ≤ (cap : Int) := by omega
      clear hown hvb hg hcs htk
      go_enter Tryz.func153, Tryz.ntmps153
      go_wp2_with (at_builtin; refine wpList_cat_at elemEdge _ _ rfl rfl HO.out hBW HSv.out rfl rfl (by simp [Value.oneCell']) (by unfold lim; omega) (by unfold lim; omega) ?_; intro v' w' hown' hgr)
      all_goals (
        go_ret
        exact ⟨_, rfl, by rw [HE.out]; exact hown', hgr.like rfl⟩)
  · have hin' : i < n := by omega
    have hn1 : ¬ ((i : Int) = (n : Int)) := by omega
    have hown2 := hown
    rcases hown.2 with ⟨rfl, h0⟩ | ⟨g, cap, cur, rfl, hBg, hg, hnc, hcm, hcs, htk⟩
    · omega
    have hgv : vb ≠ g := fun e => hne (by rw [e]; rfl)
    have hX : (Rk.cells (R.take i)).length = i * 2 := by rw [Rk.cells_length, List.length_take]; omega
    have hY : (Rk.cells (R.drop i)).length = (n - i) * 2 := by rw [Rk.cells_length, List.length_drop]; omega
    have hcl : cur.toList = Rk.cells (R.take i) ++ Rk.cells (R.drop i) ++ cur.toList.drop (n * 2) := by
      rw [← cells_append, List.take_append_drop, ← htk, List.take_append_drop]
    have hsl := Sl.of_own hown
    have hsY : ∀ j u, (Rk.cells (R.drop i))[j]? = some u → W.cell? ⟨g, i * 2 + j, none⟩ = some u := fun j u hj => by
      obtain ⟨b, off, hb, hc⟩ := hsl.2 (by omega)
      cases hb
      have := hc (i * 2 + j) u (by rw [cells_drop R i, List.getElem?_append_right (by rw [cells_take, hX]; omega), cells_take, hX, Nat.add_sub_cancel_left]; exact hj)
      rw [Nat.zero_add] at this
      exact this
    have hsz : (Tryz.prog.info? 121).map (·.size) = some 2 := by kernel_rfl
    have hg63 : cap ≤ 9223372036854775807 := by unfold maxLen at hcm; exact hcm
    by_cases hroom : n + 1 ≤ cap
    · have hroom' : ¬ (cap : Int) < (n : Int) + 1 := by omega
      have hov : ∀ lb cb, (callFunc 200 #[.slice (some ⟨vb, 0, none⟩) 1 1, .slice (some ⟨g, (i + 1) * 2, none⟩) lb cb]).run Tryz.prog W = .ok (.value (.bool false)) W := fun lb cb => by
        rw [run_callFunc_extern Tryz.func200 (by kernel_rfl) (by kernel_rfl) (by kernel_rfl) (e := Extern.SlicesOverlaps.overlaps #[29, 29] #[4]) (by kernel_rfl),
          Lib.run_overlaps_apart W 29 4 121 Tryz.underlying29 2 Tryz.sizeOf121 ⟨vb, 0, none⟩ ⟨g, (i + 1) * 2, none⟩ 1 1 lb cb hgv 121 121 2 cur.size (by simp [World.shape?, show W.heap[vb]? = _ from hvb]) (by simp [World.shape?, hg]) (by omega) (hvb.frozen 0) (hvb.frozen 2)]
        rfl
      have hw1 : IntKind.i64.wrap ((i : Int) + 1) = (i : Int) + 1 := by rw [IntKind.wrap_i64]; omega
      have hw2 : IntKind.i64.wrap ((n : Int) + 1) = (n : Int) + 1 := by rw [IntKind.wrap_i64]; omega
      have htn : ((i : Int) + 1).toNat = i + 1 := by omega
      have hb1 : (0 : Int) ≤ (i : Int) + 1 := by omega
      have hb2 : ¬ (cap = i + 1) := by omega
      have hb3 : (i : Int) ≤ (n : Int) + 1 := by omega
      have hb4 : ¬ (cap = i) := by omega
      have hb5 : (n : Int) + 1 ≤ (cap : Int) := by omega
      have hb6 : (i : Int) + 1 ≤ (n : Int) + 1 := by omega
      obtain ⟨Y, hYe⟩ : ∃ Y, Y = Rk.cells (R.drop i) := ⟨_, rfl⟩
      obtain ⟨X, hXe⟩ : ∃ X, X = Rk.cells (R.take i) := ⟨_, rfl⟩
      obtain ⟨Z, hZe⟩ : ∃ Z, Z = cur.toList.drop (n * 2) := ⟨_, rfl⟩
      have hZl : 2 ≤ Z.length := by rw [hZe, List.length_drop, Array.length_toList, hcs]; omega
      have hY1 : ∀ u ∈ Y, u.oneCell' = true := by rw [hYe]; exact cells_one _
      rw [← hYe] at hsY hY hcl
      rw [← hXe] at hX hcl
      rw [← hZe] at hcl
      have hcurl : cur.size = X.length + Y.length + Z.length := by rw [← Array.length_toList, hcl, List.length_append, List.length_append]
      obtain ⟨cur1, hc1⟩ : ∃ cur1 : Array Value, cur1 = (cur.toList.take ((i + 1) * 2) ++ Y ++ cur.toList.drop ((i + 1) * 2 + Y.length)).toArray := ⟨_, rfl⟩
      obtain ⟨W1, hW1⟩ : ∃ W1, W1 = W.drew.setRow g cur1 := ⟨_, rfl⟩
      have hgW1 : W1.heap[g]? = some (.cells cur1 121 (0, 0)) := by rw [hW1]; exact setRow_heap W.drew g cur cur1 _ _ hg
      have hgb1 : W.grownBy W1 (some g) := by rw [hW1]; exact ⟨rfl, rfl, rfl, (grownBy_setRow W.drew g cur1).size, (grownBy_setRow W.drew g cur1).block⟩
      have hcp1 : ∀ ty dc sc, (Builtin.copy_ #[29, 29] ty #[.slice (some ⟨g, (i + 1) * 2, none⟩) (n - i) dc, .slice (some ⟨g, i * 2, none⟩) (n + 1 - i) sc]).run Tryz.prog W.drew = .ok (goInt (Nat.min (n + 1 - i) (n - i))) W1 := fun ty dc sc => by
        rw [hW1, hc1]
        exact run_copy_rowS 2 W.drew _ _ ty 121 g ((i + 1) * 2) _ dc ⟨g, i * 2, none⟩ _ sc cur _ Y Tryz.underlying29 hsz hg (by rw [hY]; congr 1; simp only [Nat.min_def]; split <;> omega) (fun j u hj => by rw [Addr.add_lit]; exact hsY j u hj) (by rw [hcurl, hX]; omega) hY1
      obtain ⟨cur2, hc2⟩ : ∃ cur2 : Array Value, cur2 = (cur1.toList.take (i * 2) ++ [Value.int .i64 e1, Value.int .i64 e2] ++ cur1.toList.drop (i * 2 + 2)).toArray := ⟨_, rfl⟩
      obtain ⟨W2, hW2⟩ : ∃ W2, W2 = W1.setRow g cur2 := ⟨_, rfl⟩
      have hgW2 : W2.heap[g]? = some (.cells cur2 121 (0, 0)) := by rw [hW2]; exact setRow_heap W1 g cur1 cur2 _ _ hgW1
      have hgb2 : W1.grownBy W2 (some g) := by rw [hW2]; exact grownBy_setRow W1 g cur2
      obtain ⟨Tl, hTl⟩ := splice_shift X [Value.int .i64 e1, Value.int .i64 e2] Y Z hZl
      have hi2 : (i + 1) * 2 = X.length + 2 := by omega
      have hf2 : cur2.toList = X ++ [.int .i64 e1, .int .i64 e2] ++ Y ++ Tl := by
        rw [hc2, hc1, List.toList_toArray, List.toList_toArray, hcl, hi2, ← hX]
        exact hTl
      have hs2 : cur2.size = cap * 2 := by
        rw [hc2, List.size_toArray, hc1, List.toList_toArray]
        simp only [List.length_append, List.length_take, List.length_drop, List.length_cons, List.length_nil, Array.length_toList]
        omega
      have hvW1 : ∀ j u, [Value.int .i64 e1, .int .i64 e2][j]? = some u → W1.cell? ⟨vb, j, none⟩ = some u := fun j u hj => by
        rw [(hvb.grown hgb1 (fun e => hgv (Option.some.inj e))).cell]
        match j, hj with
        | 0, hj => exact hj
        | 1, hj => exact hj
      have hcp2 : ∀ ty dc, (Builtin.copy_ #[29, 29] ty #[.slice (some ⟨g, i * 2, none⟩) (n + 1 - i) dc, .slice (some ⟨vb, 0, none⟩) 1 1]).run Tryz.prog W1 = .ok (goInt (Nat.min 1 (n + 1 - i))) W2 := fun ty dc => by
        rw [hW2, hc2]
        refine run_copy_rowS 2 W1 _ _ ty 121 g (i * 2) _ dc ⟨vb, 0, none⟩ _ 1 cur1 _ [.int .i64 e1, .int .i64 e2] Tryz.underlying29 hsz hgW1 (by rw [show Nat.min 1 (n + 1 - i) = 1 from Nat.min_eq_left (by omega)]; rfl) (fun j u hj => by rw [Addr.add_lit, Nat.zero_add]; exact hvW1 j u hj) ?_ (by simp [Value.oneCell'])
        rw [hc1]
        simp only [List.size_toArray, List.length_append, List.length_take, List.length_drop, List.length_cons, List.length_nil, Array.length_toList]
        omega
      have HFin := Lib.hid (show W2.ownsRow B 121 2 (.slice (some ⟨g, 0, none⟩) (n + 1) cap) (n + 1) (Rk.cells (insE R i (e1, e2))) ∧ Gr W W2 (.slice (some ⟨g, 0, none⟩) n cap) (.slice (some ⟨g, 0, none⟩) (n + 1) cap) from by
        refine ⟨⟨by rw [Rk.cells_length, ins_len, hn], .inr ⟨g, cap, cur2, rfl, hBg, hgW2, hroom, hcm, hs2, ?_⟩⟩, ?_, fun k hk => .inl hk⟩
        · rw [hf2, cells_ins, ← hXe, ← hYe]
          exact List.take_left' (by simp only [List.length_append, List.length_cons, List.length_nil, hX, hY]; omega)
        · exact ⟨hgb2.os.trans hgb1.os, hgb2.tape.trans hgb1.tape, hgb2.output.trans hgb1.output, Nat.le_trans hgb1.size hgb2.size, fun k hk hne => (hgb2.block k (Nat.lt_of_lt_of_le hk hgb1.size) hne).trans (hgb1.block k hk hne)⟩)
      clear hown hvb hg hcs htk hown2 hsl hsY hcl hX hY hYe hXe hZe hZl hY1 hcurl hc1 hW1 hgW1 hgb1 hc2 hW2 hgW2 hgb2 hTl hf2 hs2 hvW1 hi2
      go_enter Tryz.func153, Tryz.ntmps153
      go_wp2_with (simp only [hov])
      go_region_law (refine step_copy_runI rfl (.tmp 73) (.tmp 76) 29 29 rfl _ _ (by simp [Act.eval, Act.put]) (by simp [Act.eval, Act.put]) (hcp1 _ _ _) ?_)
      all_goals go_wp2_with (at_builtin; refine wpList_copy_runI _ rfl (.tmp 80) (.tmp 81) 29 29 rfl _ _ rfl rfl (hcp2 _ _) ?_)
      all_goals go_ret
      all_goals exact ⟨_, rfl, HFin.out.1, HFin.out.2.like rfl⟩
    · have hcn : cap = n := by omega
      subst hcn
      have hroom' : (cap : Int) < (cap : Int) + 1 := by omega
      obtain ⟨Y, hYe⟩ : ∃ Y, Y = Rk.cells (R.drop i) := ⟨_, rfl⟩
      obtain ⟨X, hXe⟩ : ∃ X, X = Rk.cells (R.take i) := ⟨_, rfl⟩
      have hY1 : ∀ u ∈ Y, u.oneCell' = true := by rw [hYe]; exact cells_one _
      have hXs : ∀ j u, X[j]? = some u → W.cell? ⟨g, j, none⟩ = some u := fun j u hj => by
        obtain ⟨b, off, hb, hc⟩ := hsl.2 (by omega)
        cases hb
        have := hc j u (by rw [cells_drop R i, cells_take, List.getElem?_append_left (by rw [← hXe]; exact (List.getElem?_eq_some_iff.1 hj).1), ← hXe]; exact hj)
        rw [Nat.zero_add] at this
        exact this
      rw [← hYe] at hsY hY
      rw [← hXe] at hX
      obtain ⟨i0, hi0, hz0, hzs, hzb⟩ := info_parts elemEdge.hi
      have hgw : g < W.heap.size := (Array.getElem?_eq_some_iff.1 hg).1
      obtain ⟨k, hk⟩ : ∃ k, k = cap + 1 - i := ⟨_, rfl⟩
      have hik : i + k = cap + 1 := by omega
      obtain ⟨G, hG⟩ : ∃ G, G = grownCap W (cap + 1) cap 121 := ⟨_, rfl⟩
      have hGn : cap + 1 ≤ G := by rw [hG]; exact grownCap_ge W _ _ _
      have hGm : G ≤ maxLen := by rw [hG]; exact grownCap_le_maxLen W _ _ _ (by unfold maxLen; omega)
      have hG63 : G ≤ 9223372036854775807 := by unfold maxLen at hGm; exact hGm
      obtain ⟨ROW, hROW⟩ : ∃ ROW : Array Value, ROW = X.toArray ++ Builtin.zeroCells (Value.agg #[.int .i64 0, .int .i64 0]).cells k ++ Builtin.zeroCells (Value.agg #[.int .i64 0, .int .i64 0]).cells (G - (cap + 1)) := ⟨_, rfl⟩
      obtain ⟨Wa, hWa⟩ : ∃ Wa, Wa = W.drew.alloc (.cells ROW 121) := ⟨_, rfl⟩
      have hold : (Builtin.firstCells i0.size i (.slice (some ⟨g, 0, none⟩) i cap)).run Tryz.prog W.drew = .ok X.toArray W.drew := by
        rw [hzs]
        exact run_firstCells_some (P := Tryz.prog) W.drew 2 i ⟨g, 0, none⟩ i cap X hX (fun j u hj => by rw [Addr.add_lit, Nat.zero_add]; exact hXs j u hj)
      have hrz : ∀ ty, (Builtin.append_ #[29, 3] ty #[.slice (some ⟨g, 0, none⟩) i cap, .int .i64 ((cap : Int) + 1 - (i : Int))]).run Tryz.prog W = .ok (.slice (some ⟨W.heap.size, 0, none⟩) (cap + 1) G) Wa := fun ty => by
        have h := Lib.run_append_grow_zeros (P := Tryz.prog) W 29 3 ty 121 i0 _ .i64 .i64 Tryz.underlying29 Tryz.underlying3 hi0 hz0 (some ⟨g, 0, none⟩) i cap X hold k (by omega) (by omega) (by omega) (by omega) (by rw [hzb]; omega) (by rw [hzb, hik]; exact growslice_fits (by omega) (by omega))
        rw [hik, ← hG, ← hROW, ← hWa] at h
        rw [show (cap : Int) + 1 - (i : Int) = (k : Int) by omega]
        exact h
      have hRs : ROW.size = G * 2 := by
        rw [hROW]
        simp [Builtin.zeroCells, Value.cells, hX]
        omega
      obtain ⟨RR, hRR⟩ : ∃ RR, ROW.toList = X ++ RR := ⟨_, by rw [hROW, Array.toList_append, Array.toList_append, List.append_assoc]⟩
      have hRRl : RR.length = G * 2 - i * 2 := by
        have h := congrArg List.length hRR
        rw [Array.length_toList, hRs, List.length_append, hX] at h
        omega
      have hgWa : Wa.heap[W.heap.size]? = some (.cells ROW 121 (0, 0)) := by rw [hWa]; exact heap_alloc_new W.drew _
      have hbWa : Below W.heap.size W Wa := by rw [hWa]; exact bel_al (bel_drewN (Below.refl _ _) 1) _
      have hvWa : ∀ j u, [Value.int .i64 e1, Value.int .i64 e2][j]? = some u → Wa.cell? ⟨vb, j, none⟩ = some u := fun j u hj => by
        rw [(hvb.keep hbWa).cell]
        match j, hj with
        | 0, hj => exact hj
        | 1, hj => exact hj
      obtain ⟨curA, hcA⟩ : ∃ curA : Array Value, curA = (ROW.toList.take (i * 2) ++ [Value.int .i64 e1, Value.int .i64 e2] ++ ROW.toList.drop (i * 2 + 2)).toArray := ⟨_, rfl⟩
      obtain ⟨W1, hW1⟩ : ∃ W1, W1 = Wa.setRow W.heap.size curA := ⟨_, rfl⟩
      have hgW1 : W1.heap[W.heap.size]? = some (.cells curA 121 (0, 0)) := by rw [hW1]; exact setRow_heap Wa _ ROW curA _ _ hgWa
      have hbW1 : Below W.heap.size W W1 := by rw [hW1]; exact hbWa.trans ⟨rfl, rfl, rfl, (grownBy_setRow Wa W.heap.size curA).size, fun q hq => setRow_other Wa W.heap.size q curA (by omega)⟩
      have hcpA : ∀ ty dc, (Builtin.copy_ #[29, 29] ty #[.slice (some ⟨W.heap.size, i * 2, none⟩) (cap + 1 - i) dc, .slice (some ⟨vb, 0, none⟩) 1 1]).run Tryz.prog Wa = .ok (goInt (Nat.min 1 (cap + 1 - i))) W1 := fun ty dc => by
        rw [hW1, hcA]
        exact run_copy_rowS 2 Wa _ _ ty 121 W.heap.size (i * 2) _ dc ⟨vb, 0, none⟩ _ 1 ROW _ [Value.int .i64 e1, Value.int .i64 e2] Tryz.underlying29 hsz hgWa (by rw [show Nat.min 1 (cap + 1 - i) = 1 from Nat.min_eq_left (by omega)]; rfl) (fun j u hj => by rw [Addr.add_lit, Nat.zero_add]; exact hvWa j u hj) (by rw [hRs]; simp only [List.length_cons, List.length_nil]; omega) (by simp [Value.oneCell'])
      have hsA : curA.size = G * 2 := by
        rw [hcA, List.size_toArray]
        simp only [List.length_append, List.length_take, List.length_drop, List.length_cons, List.length_nil, Array.length_toList, hRs]
        omega
      obtain ⟨curB, hcB⟩ : ∃ curB : Array Value, curB = (curA.toList.take ((i + 1) * 2) ++ Y ++ curA.toList.drop ((i + 1) * 2 + Y.length)).toArray := ⟨_, rfl⟩
      obtain ⟨W2, hW2⟩ : ∃ W2, W2 = W1.drew.setRow W.heap.size curB := ⟨_, rfl⟩
      have hgW2 : W2.heap[W.heap.size]? = some (.cells curB 121 (0, 0)) := by rw [hW2]; exact setRow_heap W1.drew _ curA curB _ _ hgW1
      have hbW2 : Below W.heap.size W W2 := by rw [hW2]; exact hbW1.trans ⟨rfl, rfl, rfl, (grownBy_setRow W1.drew W.heap.size curB).size, fun q hq => setRow_other W1.drew W.heap.size q curB (by omega)⟩
      have hcpB : ∀ ty dc sc, (Builtin.copy_ #[29, 29] ty #[.slice (some ⟨W.heap.size, (i + 1) * 2, none⟩) (cap - i) dc, .slice (some ⟨g, i * 2, none⟩) (cap - i) sc]).run Tryz.prog W1.drew = .ok (goInt (Nat.min (cap - i) (cap - i))) W2 := fun ty dc sc => by
        rw [hW2, hcB]
        exact run_copy_rowS 2 W1.drew _ _ ty 121 W.heap.size ((i + 1) * 2) _ dc ⟨g, i * 2, none⟩ _ sc curA _ Y Tryz.underlying29 hsz hgW1 (by rw [hY, show Nat.min (cap - i) (cap - i) = cap - i from Nat.min_self _]) (fun j u hj => by rw [Addr.add_lit]; exact (hbW1.cell (p := ⟨g, i * 2 + j, none⟩) hgw).trans (hsY j u hj)) (by rw [hsA, hY]; omega) hY1
      have hsB : curB.size = G * 2 := by
        rw [hcB, List.size_toArray]
        simp only [List.length_append, List.length_take, List.length_drop, Array.length_toList, hsA, hY]
        omega
      obtain ⟨Tl, hTl⟩ := splice_fresh X [Value.int .i64 e1, Value.int .i64 e2] Y RR (by simp only [List.length_cons, List.length_nil, hY, hRRl]; omega)
      have hi2 : (i + 1) * 2 = X.length + 2 := by omega
      have hfB : curB.toList = X ++ [Value.int .i64 e1, Value.int .i64 e2] ++ Y ++ Tl := by
        rw [hcB, hcA, List.toList_toArray, List.toList_toArray, hRR, hi2, ← hX]
        exact hTl
      have HFin := Lib.hid (show W2.ownsRow B 121 2 (.slice (some ⟨W.heap.size, 0, none⟩) (cap + 1) G) (cap + 1) (Rk.cells (insE R i (e1, e2))) ∧ Gr W W2 (.slice (some ⟨g, 0, none⟩) cap cap) (.slice (some ⟨W.heap.size, 0, none⟩) (cap + 1) G) from by
        refine ⟨⟨by rw [Rk.cells_length, ins_len, hn], .inr ⟨W.heap.size, G, curB, rfl, hBW, hgW2, hGn, hGm, hsB, ?_⟩⟩, Gr.of_new hbW2 _ (fun q hq => Nat.le_of_eq (show W.heap.size = q by simpa [Value.ownBlock] using hq))⟩
        rw [hfB, cells_ins, ← hXe, ← hYe]
        exact List.take_left' (by simp only [List.length_append, List.length_cons, List.length_nil, hX, hY]; omega))
      have hw1 : IntKind.i64.wrap ((i : Int) + 1) = (i : Int) + 1 := by rw [IntKind.wrap_i64]; omega
      have hw2 : IntKind.i64.wrap ((cap : Int) + 1) = (cap : Int) + 1 := by rw [IntKind.wrap_i64]; omega
      have hw3 : IntKind.i64.wrap ((cap : Int) + 1 - (i : Int)) = (cap : Int) + 1 - (i : Int) := by rw [IntKind.wrap_i64]; omega
      have htn : ((i : Int) + 1).toNat = i + 1 := by omega
      have hb1 : (0 : Int) ≤ (i : Int) + 1 := by omega
      have hb2 : ¬ (G = i + 1) := by omega
      have hb3 : (i : Int) ≤ (cap : Int) + 1 := by omega
      have hb4 : ¬ (G = i) := by omega
      have hb5 : ¬ (cap = i) := by omega
      have hb6 : (i : Int) + 1 ≤ (cap : Int) + 1 := by omega
      have hb7 : (i : Int) ≤ (cap : Int) := by omega
      have hb8 : ¬ (i = cap) := by omega
      have hb9 : (cap : Int) + 1 ≤ (G : Int) := by omega
      clear hown hvb hg hcs htk hown2 hsl hsY hcl hX hY hYe hXe hY1 hXs hi0 hz0 hzs hzb hik hk hG hROW hWa hold hRs hRR hRRl hgWa hbWa hvWa hcA hW1 hgW1 hbW1 hsA hcB hW2 hgW2 hbW2 hsB hTl hi2 hfB
      go_enter Tryz.func153, Tryz.ntmps153
      go_wp2_with (first
        | (at_builtin; refine Lib.wpList_append_run _ rfl _ _ _ _ rfl _ _ rfl rfl _ _ (hrz _) ?_)
        | (at_builtin; refine wpList_copy_runI _ rfl _ _ 29 29 rfl _ _ rfl rfl (hcpA _ _) ?_))
      go_region_law (refine step_copy_runI rfl (.tmp 50) (.tmp 53) 29 29 rfl _ _ (by simp [Act.eval, Act.put]) (by simp [Act.eval, Act.put]) (hcpB _ _ _) ?_)
      all_goals go_wp2_with fail
      all_goals go_ret
      all_goals exact ⟨_, rfl, HFin.out.1, HFin.out.2.like rfl⟩
end Go.Proofs.YtddedghnnkcnhaaGreatDoor
/-
  slices.BinarySearchFunc over edges.
-/
namespace Go.Proofs.YtddedghnnkcnhaaGreatDoor
open Go.RowKit
attribute [local go_sem ↓] Go.wp_at_zero Go.wp_at_succ
set_option maxRecDepth 100000
set_option linter.unusedVariables false

/-- A row of edges that rises. -/
def riseE (E : List (Int × Int)) : Prop := ∀ (i j : Nat) e f, i < j → E[i]? = some e → E[j]? = some f → Pt.ordE e f < 0
/-- Where an edge lies, or would. -/
def spotE (E : List (Int × Int)) (t : Int × Int) (p : Nat) : Prop := p ≤ E.length ∧ (∀ (k : Nat) e, k < p → E[k]? = some e → Pt.ordE e t < 0) ∧ (∀ (k : Nat) e, p ≤ k → E[k]? = some e → 0 ≤ Pt.ordE e t)

set_option maxHeartbeats 8000000 in
theorem BSE_any (E : List (Int × Int)) (t : Int × Int) (A : Option Addr) (n c : Nat) (w : World) (hn : n ≤ 1000) (hs : Sl w 2 A n (Rk.cells E)) (hr : riseE E) :
    Calls Tryz.prog 152 #[.slice A n c, ev t, .func (.func 90) #[] #[]] w fun e w' => ∃ (p : Nat) (b : Bool), e = .returned (.tuple #[.int .i64 (p : Int), .bool b]) ∧ spotE E t p ∧ (b = true ↔ ∃ f, E[p]? = some f ∧ Pt.ordE f t = 0) ∧ Below w.heap.size w w' := by
  obtain ⟨tx, ty⟩ := t
  have hb0 := bel_al (Below.refl w.heap.size w) (.cells #[.int .i64 tx, .int .i64 ty] 121)
  have HB0 := Lib.hid hb0
  have HK := Lib.hid (Blk.new w 121 #[.int .i64 tx, .int .i64 ty])
  have HS := Lib.hid (hs.keep hb0)
  have HM := Lib.hid hs.len2
  have HR := Lib.hid hr
  clear hb0 hs hr
  unfold ev
  simp only
  go_enter Tryz.func152, Tryz.ntmps152
  go_wp2_with fail
  generalize hw0 : w.alloc (.cells #[.int .i64 tx, .int .i64 ty] 121) = w0 at *
  clear hw0
  go_loopw [9, 10] (fun a b wr => ∃ lo hi : Nat, a = .int .i64 lo ∧ b = .int .i64 hi ∧ lo ≤ hi ∧ hi ≤ n ∧ Hid ((∀ k e, k < lo → E[k]? = some e → Pt.ordE e (tx, ty) < 0) ∧ (∀ k e, hi ≤ k → E[k]? = some e → 0 ≤ Pt.ordE e (tx, ty))) ∧ Below w0.heap.size w0 wr) (fun a b _ => (intOf b).toNat - (intOf a).toNat)
  case atStart => exact ⟨0, n, rfl, rfl, Nat.zero_le _, Nat.le_refl _, ⟨fun k e hk => absurd hk (Nat.not_lt_zero _), fun k e hk he => absurd (List.getElem?_eq_some_iff.1 he).1 (by rw [HM.out]; omega)⟩, Below.refl _ _⟩
  case round =>
    obtain ⟨lo, hi, rfl, rfl, hlh, hhn, HI, hb⟩ := hrel
    have HB := Lib.hid hb
    have HSk := Lib.hid (HS.out.keep hb)
    have k0 := (HK.out.keep hb).cell 0
    have k1 := (HK.out.keep hb).cell 1
    simp at k0 k1
    have HKb := Lib.hid (HK.out.keep hb)
    clear hb
    by_cases hlt : lo < hi
    · have hlt' : (lo : Int) < (hi : Int) := by omega
      obtain ⟨h, hh⟩ : ∃ h, h = (lo + hi) / 2 := ⟨_, rfl⟩
      have hhi : ((lo : Int) + (hi : Int)) / 2 = (h : Int) := by omega
      have hhn2 : (h : Int) < (n : Int) := by omega
      have hh0 : (0 : Int) ≤ (h : Int) := by omega
      have hwh : wrap64 (h : Int) = (h : Int) := by unfold wrap64; omega
      have hwh2 : IntKind.i64.wrap (h : Int) = (h : Int) := by rw [IntKind.wrap_i64]; omega
      obtain ⟨⟨x, y⟩, he⟩ : ∃ e, E[h]? = some e := ⟨_, List.getElem?_eq_getElem (by rw [HM.out]; omega)⟩
      obtain ⟨b1, off1, rfl, c0, c1⟩ := HSk.out.edge (show h < n by omega) he
      simp only at c0 c1
      have HE := Lib.hid he
      have HO := Lib.hid (fun W => order_any (x, y) (tx, ty) W)
      obtain ⟨z, hz⟩ : ∃ z, z = Pt.ordE (x, y) (tx, ty) := ⟨_, rfl⟩
      rw [← hz] at HO
      have HZ := Lib.hid hz
      clear he hz
      have hlo2 : lo ≤ h := by omega
      have hhi2 : h < hi := by omega
      clear hh
      go_wp2_with fail
      by_cases hz0 : z < 0
      · have HN := Lib.hid (show (∀ (k : Nat) e, k < h + 1 → E[k]? = some e → Pt.ordE e (tx, ty) < 0) from fun k e hk hke => by
          by_cases hkh : k = h
          · subst hkh
            rw [HE.out] at hke
            cases hke
            rw [← HZ.out]
            exact hz0
          · have h1 := HR.out k h e (x, y) (by omega) hke HE.out
            exact Pt.cp_edge.lt h1 (by rw [← HZ.out]; omega))
        go_region_held3 (fun w' => w'.cell? ⟨w.heap.size, 0, none⟩ = some (.int .i64 tx) ∧ w'.cell? ⟨w.heap.size, 1, none⟩ = some (.int .i64 ty) ∧ w'.cell? ⟨b1, off1 + h * 2, none⟩ = some (.int .i64 x) ∧ w'.cell? ⟨b1, off1 + h * 2 + 1, none⟩ = some (.int .i64 y)) (go_keep) ((go_at_call 90; refine (HO.out _).mono ?_; rintro e' w3 ⟨rfl, hb4⟩; have q0 := (hb4.cell (p := ⟨w.heap.size, 0, none⟩) (World.block_lt_of_cell? _ _ k0)).trans k0; have q1 := (hb4.cell (p := ⟨w.heap.size, 1, none⟩) (World.block_lt_of_cell? _ _ k1)).trans k1; have q2 := (hb4.cell (p := ⟨b1, off1 + h * 2, none⟩) (World.block_lt_of_cell? _ _ c0)).trans c0; have q3 := (hb4.cell (p := ⟨b1, off1 + h * 2 + 1, none⟩) (World.block_lt_of_cell? _ _ c1)).trans c1; (first | have HB4 := Lib.hid (HB.out.trans (hb4.mono HB.out.size)) | have HB4 := Lib.hid ((bel_drewN HB.out 1).trans (hb4.mono HB.out.size))); clear hb4))
        all_goals go_wp2_with fail
        all_goals (
          go_roundw
          case rel => exact ⟨h + 1, hi, by go_num, rfl, by omega, hhn, ⟨HN.out, HI.out.2⟩, HB4.out⟩
          case measure => simp [intOf]; omega)
      · have HN := Lib.hid (show (∀ (k : Nat) e, h ≤ k → E[k]? = some e → 0 ≤ Pt.ordE e (tx, ty)) from fun k e hk hke => by
          by_cases hkh : k = h
          · subst hkh
            rw [HE.out] at hke
            cases hke
            rw [← HZ.out]
            omega
          · have h1 := HR.out h k (x, y) e (by omega) HE.out hke
            by_cases h2 : 0 ≤ Pt.ordE e (tx, ty)
            · exact h2
            · have h3 := Pt.cp_edge.lt h1 (show Pt.ordE e (tx, ty) ≤ 0 by omega)
              rw [← HZ.out] at h3
              omega)
        go_region_held3 (fun w' => w'.cell? ⟨w.heap.size, 0, none⟩ = some (.int .i64 tx) ∧ w'.cell? ⟨w.heap.size, 1, none⟩ = some (.int .i64 ty) ∧ w'.cell? ⟨b1, off1 + h * 2, none⟩ = some (.int .i64 x) ∧ w'.cell? ⟨b1, off1 + h * 2 + 1, none⟩ = some (.int .i64 y)) (go_keep) ((go_at_call 90; refine (HO.out _).mono ?_; rintro e' w3 ⟨rfl, hb4⟩; have q0 := (hb4.cell (p := ⟨w.heap.size, 0, none⟩) (World.block_lt_of_cell? _ _ k0)).trans k0; have q1 := (hb4.cell (p := ⟨w.heap.size, 1, none⟩) (World.block_lt_of_cell? _ _ k1)).trans k1; have q2 := (hb4.cell (p := ⟨b1, off1 + h * 2, none⟩) (World.block_lt_of_cell? _ _ c0)).trans c0; have q3 := (hb4.cell (p := ⟨b1, off1 + h * 2 + 1, none⟩) (World.block_lt_of_cell? _ _ c1)).trans c1; (first | have HB4 := Lib.hid (HB.out.trans (hb4.mono HB.out.size)) | have HB4 := Lib.hid ((bel_drewN HB.out 1).trans (hb4.mono HB.out.size))); clear hb4))
        all_goals go_wp2_with fail
        all_goals (
          go_roundw
          case rel => exact ⟨lo, h, rfl, rfl, by omega, by omega, ⟨HI.out.1, HN.out⟩, HB4.out⟩
          case measure => simp [intOf]; omega)
    · obtain rfl : hi = lo := by omega
      have hlt' : ¬ (hi : Int) < (hi : Int) := by omega
      have HSp := Lib.hid (show spotE E (tx, ty) hi from ⟨by rw [HM.out]; omega, HI.out.1, HI.out.2⟩)
      by_cases hn2 : hi < n
      · have hn2' : (hi : Int) < (n : Int) := by omega
        have hh0 : (0 : Int) ≤ (hi : Int) := by omega
        obtain ⟨⟨x, y⟩, he⟩ : ∃ e, E[hi]? = some e := ⟨_, List.getElem?_eq_getElem (by rw [HM.out]; omega)⟩
        obtain ⟨b1, off1, rfl, c0, c1⟩ := HSk.out.edge hn2 he
        simp only at c0 c1
        have HE := Lib.hid he
        have HO := Lib.hid (fun W => order_any (x, y) (tx, ty) W)
        obtain ⟨z, hz⟩ : ∃ z, z = Pt.ordE (x, y) (tx, ty) := ⟨_, rfl⟩
        rw [← hz] at HO
        have HRes := Lib.hid (show (z == 0) = true ↔ ∃ f, E[hi]? = some f ∧ Pt.ordE f (tx, ty) = 0 by
          rw [he]
          constructor
          · intro h
            exact ⟨_, rfl, by rw [← hz]; simpa using h⟩
          · rintro ⟨f, hf, h⟩
            cases hf
            rw [← hz] at h
            simpa using h)
        clear he hz
        go_wp2_with fail
        go_region_held3 (fun w' => w'.cell? ⟨w.heap.size, 0, none⟩ = some (.int .i64 tx) ∧ w'.cell? ⟨w.heap.size, 1, none⟩ = some (.int .i64 ty) ∧ w'.cell? ⟨b1, off1 + hi * 2, none⟩ = some (.int .i64 x) ∧ w'.cell? ⟨b1, off1 + hi * 2 + 1, none⟩ = some (.int .i64 y)) (go_keep) ((go_at_call 90; refine (HO.out _).mono ?_; rintro e' w3 ⟨rfl, hb4⟩; have q0 := (hb4.cell (p := ⟨w.heap.size, 0, none⟩) (World.block_lt_of_cell? _ _ k0)).trans k0; have q1 := (hb4.cell (p := ⟨w.heap.size, 1, none⟩) (World.block_lt_of_cell? _ _ k1)).trans k1; have q2 := (hb4.cell (p := ⟨b1, off1 + hi * 2, none⟩) (World.block_lt_of_cell? _ _ c0)).trans c0; have q3 := (hb4.cell (p := ⟨b1, off1 + hi * 2 + 1, none⟩) (World.block_lt_of_cell? _ _ c1)).trans c1; (first | have HB4 := Lib.hid (HB.out.trans (hb4.mono HB.out.size)) | have HB4 := Lib.hid ((bel_drewN HB.out 1).trans (hb4.mono HB.out.size))); clear hb4))
        all_goals go_wp2_with fail
        all_goals go_ret2
        all_goals exact ⟨hi, _, rfl, HSp.out, HRes.out, HB0.out.andThen HB4.out⟩
      · obtain rfl : hi = n := by omega
        have HRes := Lib.hid (show false = true ↔ ∃ f, E[hi]? = some f ∧ Pt.ordE f (tx, ty) = 0 from ⟨fun h => (by cases h), fun ⟨f, hf, _⟩ => absurd (List.getElem?_eq_some_iff.1 hf).1 (by rw [HM.out]; omega)⟩)
        go_wp2_with fail
        go_quiet (fail)
        go_wp2_with fail
        go_ret2
        exact ⟨hi, _, rfl, HSp.out, HRes.out, bel_drewN (HB0.out.andThen HB.out) _⟩
end Go.Proofs.YtddedghnnkcnhaaGreatDoor
/-
  Patterns: slices.Clone, Make of the chapter's example.
-/
namespace Go.Proofs.YtddedghnnkcnhaaGreatDoor
open Go.RowKit
attribute [local go_sem ↓] Go.wp_at_zero Go.wp_at_succ
set_option maxRecDepth 100000
set_option linter.unusedVariables false

theorem CloneI_own (l : List Int) (A : Option Addr) (n c : Nat) (w : World) (hl : l.length = n) (hn : n ≤ 1099511627776) (hs : Sl w 1 A n (l.map (Value.int .i64))) :
    Calls Tryz.prog 151 #[.slice A n c] w fun e w' => ∃ v, e = .returned v ∧ w'.ownsRow w.heap.size 3 1 v n (l.map (Value.int .i64)) ∧ Below w.heap.size w w' := by
  have nn := fun (w : World) (a : Option Addr) (n c : Nat) => Lib.run_eql_slice_nil (P := Tryz.prog) w 22 3 a n c 0 0 Tryz.underlying22
  have HS := Lib.hid hs
  go_enter Tryz.func151, Tryz.ntmps151
  rcases A with _ | A
  · have hn0 : n = 0 := by
      rcases Nat.eq_zero_or_pos n with h | h
      · exact h
      · obtain ⟨_, _, h, _⟩ := hs.2 h; cases h
    subst hn0
    clear hs
    go_wp2_with fail
    go_ret
    obtain rfl := List.eq_nil_of_length_eq_zero hl
    exact ⟨_, rfl, World.ownsRow_nil _ _ _ _, Below.refl _ _⟩
  · have hbA := bel_al (Below.refl w.heap.size w) (.cells #[] 3)
    have HOE := Lib.hid (World.ownsRow_made (e := 3) (size := 1) w #[] 0 (Nat.le_refl _) (Nat.zero_le _) rfl)
    have HBA := Lib.hid hbA
    have SPA := Lib.hid (HS.out.keep hbA)
    clear hs hbA
    go_wp2_with (at_builtin; refine wpList_cat_at elemInt _ _ rfl rfl HOE.out HBA.out.size SPA.out rfl rfl (one_i64 _) (by unfold lim; omega) (by unfold lim; omega) ?_; intro v8 w8 hown8 hg8; have HO8 := Lib.hid hown8; have HB8 := Lib.hid (HBA.out.trans (hg8.belowOwn HBA.out.size HOE.out)); clear hown8 hg8 HOE HBA SPA)
    go_ret
    have hown := HO8.out
    rw [List.nil_append, Nat.zero_add] at hown
    exact ⟨_, rfl, hown, HB8.out⟩

def exE : List (Int × Int) := [(2, 1), (0, 1), (0, 2)]
def rk : Nat → List (Int × Int)
  | 0 => []
  | 1 => [(1, 2)]
  | 2 => [(0, 1), (1, 2)]
  | _ => [(0, 1), (0, 2), (1, 2)]
theorem rise0 : riseE [] := fun i j e f hij he hf => absurd he (by simp)
theorem rise1 (a : Int × Int) : riseE [a] := by
  intro i j e f hij he hf
  have h1 := (List.getElem?_eq_some_iff.1 hf).1
  simp at h1
  omega
theorem rise2 {a b : Int × Int} (h : Pt.ordE a b < 0) : riseE [a, b] := by
  intro i j e f hij he hf
  have h1 := (List.getElem?_eq_some_iff.1 hf).1
  simp at h1
  obtain rfl : i = 0 := by omega
  obtain rfl : j = 1 := by omega
  cases he
  cases hf
  exact h
structure ExF (k : Nat) (x y : Int) (t : Int × Int) (p : Nat) : Prop where
  at_ : exE[k]? = some (x, y)
  in_ : 0 ≤ x ∧ 0 ≤ y ∧ x < 3 ∧ y < 3
  ne : x ≠ y
  turn : turnE (x, y) = t
  rise : riseE (rk k)
  len : (rk k).length = k
  spot : ∀ q, spotE (rk k) t q → q = p
  le : p ≤ k
  new : ¬ ∃ f, (rk k)[p]? = some f ∧ Pt.ordE f t = 0
  ins : insE (rk k) p t = rk (k + 1)
theorem exF0 : ExF 0 2 1 (1, 2) 0 := { at_ := rfl, in_ := by omega, ne := by omega, turn := by decide, rise := rise0, len := rfl, spot := fun q h => (by have := h.1; simp [rk] at this; exact this), le := Nat.le_refl _, new := fun h => (by obtain ⟨f, hf, _⟩ := h; cases hf), ins := rfl }
theorem spot1 : ∀ q, spotE (rk 1) (0, 1) q → q = 0 := fun q h => by
  rcases Nat.eq_zero_or_pos q with h0 | h0
  · exact h0
  · have := h.2.1 0 (1, 2) h0 rfl
    exact absurd this (by decide)
theorem new1 : ¬ ∃ f, (rk 1)[0]? = some f ∧ Pt.ordE f (0, 1) = 0 := fun h => by
  obtain ⟨f, hf, h⟩ := h
  cases hf
  exact absurd h (by decide)
theorem exF1 : ExF 1 0 1 (0, 1) 0 := { at_ := rfl, in_ := by omega, ne := by omega, turn := by decide, rise := rise1 _, len := rfl, spot := spot1, le := by omega, new := new1, ins := rfl }
theorem spot2 : ∀ q, spotE (rk 2) (0, 2) q → q = 1 := fun q h => by
  rcases Nat.lt_trichotomy q 1 with h0 | h0 | h0
  · have := h.2.2 0 (0, 1) (by omega) rfl
    exact absurd this (by decide)
  · exact h0
  · have := h.2.1 1 (1, 2) h0 rfl
    exact absurd this (by decide)
theorem new2 : ¬ ∃ f, (rk 2)[1]? = some f ∧ Pt.ordE f (0, 2) = 0 := fun h => by
  obtain ⟨f, hf, h⟩ := h
  cases hf
  exact absurd h (by decide)
theorem exF2 : ExF 2 0 2 (0, 2) 1 := { at_ := rfl, in_ := by omega, ne := by omega, turn := by decide, rise := rise2 (by decide), len := rfl, spot := spot2, le := by omega, new := new2, ins := rfl }
theorem ex_facts (k : Nat) (hk : k < 3) : ∃ x y t p, ExF k x y t p := by
  rcases k with _ | k
  · exact ⟨_, _, _, _, exF0⟩
  · rcases k with _ | k
    · exact ⟨_, _, _, _, exF1⟩
    · rcases k with _ | k
      · exact ⟨_, _, _, _, exF2⟩
      · omega
end Go.Proofs.YtddedghnnkcnhaaGreatDoor
