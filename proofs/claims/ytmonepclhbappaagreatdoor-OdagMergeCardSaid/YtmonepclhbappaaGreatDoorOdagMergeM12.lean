/-
  Part 12 of the proof of OdagMerge: OdW, OdX, MrgP, MrgW.
-/
import Derived.RangeFuncNested
import Derived.RangeFuncBound
import Derived.RangeFuncCalls
import Derived.RangeFuncLeaves
import Derived.Shelf.Abstract
import Derived.Shelf.RegionOpen
import Derived.OwnWalkIn
import Derived.TacticsInMore
import Derived.LoopNIn
import Derived.LoopIn
import Derived.Test.YtmonepclhbappaaGreatDoorOdagMergeM9
import Derived.Test.YtmonepclhbappaaGreatDoorOdagMergeM11
import Derived.Test.YtmonepclhbappaaGreatDoorOdagMergeM3
import Derived.Deep.RegionLaw
import Derived.Test.YtmonepclhbappaaGreatDoorOdagMergeM6
/-
  Odags: walk: the paths that begin so come one by one.
-/
namespace Go.Proofs.YtmonepclhbappaaGreatDoor
open Go.RowKit Go.Shelf Go.Maps
attribute [local go_sem] Oper.semAt_some
set_option maxRecDepth 100000
set_option linter.unusedVariables false

section
variable {P : Program} {ops : Array Oper} {rest : List Oper} {o : Oper} {a : Act} {Q : Exit → Act → World → Prop}
theorem wpList_fullQ {t e : TypeId} {z : Value} {size bytes : Nat} (E : Elem P t e z size bytes) {W : World} (s x : Operand)
    (hgd : o.guard = none) (ho : o.op = .call { callee := .builtin .append, args := #[s, x], argTypes := #[t, t] })
    {A : Option Addr} {n : Nat} {xs : List Value} (hxs : Sl W size A n xs) (hA : A = none → n = 0)
    {b off m c : Nat} {ys : List Value} (hy : Sl W size (some ⟨b, off, none⟩) m ys) (hm : 0 < m)
    (hs : a.eval s = .slice A n n) (hx : a.eval x = .slice (some ⟨b, off, none⟩) m c) (h1 : ∀ u ∈ ys, u.oneCell' = true)
    (hlim : (n + m) * bytes ≤ lim) (hlim' : n + m ≤ lim)
    (h : ∀ v' w', w'.ownsRow W.heap.size e size v' (n + m) (xs ++ ys) → Below W.heap.size W w' → wpList P ops Q rest (a.put o.dst v') w') : wpList P ops Q (o :: rest) a W := by
  obtain ⟨v', w', hr, h2, h3⟩ := run_full (P := P) (ty := o.type) (c := c) E hxs hA hy hm h1 hlim hlim'
  refine wpList_plain hgd fun K hK => ?_
  unfold Oper.wp execOp
  simp only [ho, resolve, invoke, builtin, Sem.run_bind, Sem.run_pure, Result.andThen_ok, List.map_toArray, List.map_cons, List.map_nil, hs, hx, hr]
  exact hK _ _ (h v' w' h2 h3)
theorem wpListIn_fullQ {F : Fence} {k : Nat} {t e : TypeId} {z : Value} {size bytes : Nat} (E : Elem P t e z size bytes) {W : World} (s x : Operand)
    (hgd : o.guard = none) (ho : o.op = .call { callee := .builtin .append, args := #[s, x], argTypes := #[t, t] })
    {A : Option Addr} {n : Nat} {xs : List Value} (hxs : Sl W size A n xs) (hA : A = none → n = 0)
    {b off m c : Nat} {ys : List Value} (hy : Sl W size (some ⟨b, off, none⟩) m ys) (hm : 0 < m)
    (hs : a.eval s = .slice A n n) (hx : a.eval x = .slice (some ⟨b, off, none⟩) m c) (h1 : ∀ u ∈ ys, u.oneCell' = true)
    (hlim : (n + m) * bytes ≤ lim) (hlim' : n + m ≤ lim)
    (h : ∀ v' w', w'.ownsRow W.heap.size e size v' (n + m) (xs ++ ys) → Below W.heap.size W w' → wpListIn F k P ops Q rest (a.put o.dst v') w') : wpListIn F k P ops Q (o :: rest) a W := by
  obtain ⟨v', w', hr, h2, h3⟩ := run_full (P := P) (ty := o.type) (c := c) E hxs hA hy hm h1 hlim hlim'
  refine wpListIn_plain hgd fun K hK' => ?_
  unfold Oper.wpIn
  refine ⟨?_, ?_⟩
  · simp [Oper.about, ho, resolve, Target.leads, Sem.run_pure]
  · rw [Oper.semAt_plain F _ _ (by rw [ho]; intro c hc'; cases hc')]
    simp [execOp, ho, resolve, invoke, builtin, hs, hx, hr, Result.andThen]
    exact hK' _ _ (h v' w' h2 h3)
end

/-- How walk ends: all have come, or a round has said 'no more'. -/
def WalkEnd (n₀ n₂ cnt : Nat) (J Jx : List RowE → World → Prop) (pre : List RowE) (W : World) (e : Ending) (W' : World) : Prop :=
  ∃ r, e = .returned (.bool r) ∧ ((r = true ∧ (∃ ys : List RowE, ys.length = cnt ∧ J (pre ++ ys) W') ∧ KT n₀ n₂ W W') ∨ (r = false ∧ ∃ ys : List RowE, Jx (pre ++ ys) W'))
def AsksT (l n₀ n₁ n₂ : Nat) (G : List (List Int)) (J Jx : List RowE → World → Prop) : Prop :=
  ∀ (m : Nat) (pre : List RowE) (x : RowE) (W1 : World), J pre W1 → KnE n₁ G pre x W1 → pre.length < G.length → YieldAt Fence.wide m Tryz.prog l #[rv x] W1 fun e W' =>
    (e = .returned (.bool true) ∧ J (pre ++ [x]) W' ∧ KT n₀ n₂ W1 W') ∨ (e = .returned (.bool false) ∧ Jx (pre ++ [x]) W')
def WalkOK (l n₀ n₁ n₂ p : Nat) (w0 : World) (od : List Rw) (G : List (List Int)) (J Jx : List RowE → World → Prop) (d : Nat) : Prop :=
  ∀ (P L : List Int) (A B : Option Addr) (a b m : Nat) (pre : List RowE) (W : World), P.length + 1 + d = od.length → L.length = m → m ≤ 1000000 → SnT n₀ n₂ W A P.length (P.map (Value.int .i64)) → P.length ≤ a → (A = none → P.length = 0) →
    (0 < m → SnT n₀ n₂ W B m (L.map (Value.int .i64))) → Below n₀ w0 W → n₁ ≤ W.heap.size → (∀ x ∈ L, i64ok x) → (∀ (i : Nat) (q : List Int), (L.flatMap (tls (od.drop P.length)))[i]? = some q → G[pre.length + i]? = some (P ++ q)) → pre.length + (L.flatMap (tls (od.drop P.length))).length ≤ G.length → J pre W →
    Calls Tryz.prog 74 #[.pointer (some ⟨p, 0, none⟩), .slice A P.length a, .slice B m b, .func (.yield l) #[] #[]] W (WalkEnd n₀ n₂ (L.flatMap (tls (od.drop P.length))).length J Jx pre W)

theorem flatW_len1 {f : Int → List (List Int)} {L : List Int} (h : ∀ x ∈ L, (f x).length = 1) : (L.flatMap f).length = L.length := by
  induction L with
  | nil => rfl
  | cons x L ih => rw [List.flatMap_cons, List.length_append, h x (List.mem_cons_self ..), ih (fun y hy => h y (List.mem_cons_of_mem _ hy)), List.length_cons]; omega
theorem flatW_at {f : Int → List (List Int)} {L : List Int} {k : Nat} {x : Int} (hx : L[k]? = some x) {i : Nat} {q : List Int} (hq : (f x)[i]? = some q) : (L.flatMap f)[((L.take k).flatMap f).length + i]? = some q := by
  obtain ⟨h1, h2⟩ := List.getElem?_eq_some_iff.1 hx
  have e : L.flatMap f = (L.take k).flatMap f ++ (f x ++ (L.drop (k + 1)).flatMap f) := by
    conv => lhs; rw [← List.take_append_drop k L, List.drop_eq_getElem_cons h1, h2]
    rw [List.flatMap_append, List.flatMap_cons]
  rw [e, List.getElem?_append_right (by omega), Nat.add_sub_cancel_left, List.getElem?_append_left (List.getElem?_eq_some_iff.1 hq).1]
  exact hq
theorem flatW_take {f : Int → List (List Int)} {L : List Int} {k : Nat} {x : Int} (hx : L[k]? = some x) : ((L.take (k + 1)).flatMap f).length = ((L.take k).flatMap f).length + (f x).length := by
  obtain ⟨h1, h2⟩ := List.getElem?_eq_some_iff.1 hx
  rw [List.take_succ_eq_append_getElem h1, h2, List.flatMap_append, List.length_append]
  simp
theorem flatW_part {f : Int → List (List Int)} {L : List Int} (k : Nat) : ((L.take k).flatMap f).length ≤ (L.flatMap f).length := by
  conv => rhs; rw [← List.take_append_drop k L]
  rw [List.flatMap_append, List.length_append]
  omega

set_option maxHeartbeats 16000000 in
theorem walk_leaf {l n₀ n₁ n₂ p : Nat} {w0 : World} {od : List Rw} {G : List (List Int)} {J Jx : List RowE → World → Prop} (hod : OdM w0 p od) (hn0 : w0.heap.size = n₀) (hn01 : n₀ ≤ n₁) (hn21 : n₂ ≤ n₁) (hlen : od.length ≤ 100) (hJ : ∀ s A B, J s A → A.grownBy B none → J s B) (hY : AsksT l n₀ n₁ n₂ G J Jx) : WalkOK l n₀ n₁ n₂ p w0 od G J Jx 0 := by
  intro P L A B a b m pre W hPl hL hm hA hPa hA0 hB hbW hn1 hLx hG hN hJ0
  have HOd := Lib.hid hod
  have HJ := Lib.hid hJ
  have HY := Lib.hid hY
  have HA := Lib.hid hA
  have HA0 := Lib.hid hA0
  have HB := Lib.hid hB
  have HbW := Lib.hid hbW
  have HG := Lib.hid hG
  have HN := Lib.hid hN
  have HJ0 := Lib.hid hJ0
  have HL := Lib.hid hL
  have HN0 := Lib.hid hn0
  have HN1 := Lib.hid hn1
  have HN01 := Lib.hid (And.intro hn01 hn21)
  have HT1 := Lib.hid (show ∀ x, tls (od.drop P.length) x = [[x]] from fun x => tls_last (by omega) x)
  have HCnt := Lib.hid (show ∀ k, k ≤ m → ((L.take k).flatMap (tls (od.drop P.length))).length = k from fun k hk => by rw [flatW_len1 (fun x _ => by rw [HT1.out]; rfl), List.length_take, hL]; omega)
  have HCa := Lib.hid (show (L.flatMap (tls (od.drop P.length))).length = m from by rw [flatW_len1 (fun x _ => by rw [HT1.out]; rfl), hL])
  obtain ⟨cnt, hcnt⟩ : ∃ cnt, cnt = (L.flatMap (tls (od.drop P.length))).length := ⟨_, rfl⟩
  rw [← hcnt] at HCa ⊢
  have HCn := Lib.hid hcnt
  clear hcnt
  have HPl := Lib.hid hPl
  have hp8 : P.length ≤ 100 := by omega
  clear hPl hod hJ hY hA hA0 hB hbW hG hN hJ0 hL hn0 hn1 hn01 hn21 hLx
  refine (callsIn_wide (n := 3)).1 ?_
  refine callsIn_of_wp Tryz.func74 rfl trivial ?_ rfl
  simp only [Tryz.ntmps74, List.size_toArray, List.length_cons, List.length_nil, Nat.reduceAdd, Nat.reduceSub, Array.replicate_succ, Array.replicate_zero, List.push_toArray, List.append_toArray, List.nil_append, List.cons_append]
  gi_wp2
  gi_loopw [14] (fun iv wr => ∃ (k : Nat) (ys : List RowE), k ≤ m ∧ iv = .int .i64 (k : Int) ∧ Hid (ys.length = k) ∧ Hid (J (pre ++ ys) wr) ∧ Hid (KT n₀ n₂ W wr)) (fun iv _ => m - (intOf iv).toNat)
  case atStart => exact ⟨0, [], Nat.zero_le _, rfl, Lib.hid rfl, Lib.hid (by rw [List.append_nil]; exact HJ0.out), Lib.hid (KT.refl _ _ _)⟩
  case round =>
    obtain ⟨k, ys, hk, rfl, HYs, HJi, HKi⟩ := hrel
    by_cases hkm : k < m
    · have hkm' : (k : Int) < (m : Int) := by omega
      obtain ⟨x, hx⟩ : ∃ x, L[k]? = some x := ⟨_, List.getElem?_eq_getElem (by rw [HL.out]; exact hkm)⟩
      have hBm := HB.out (by omega)
      obtain ⟨bb, off, rfl, _⟩ := hBm.1.at_ (show 0 < m by omega)
      have c1 := (hBm.keep HKi.out).1.again hkm (show (L.map (Value.int .i64))[k]? = some (.int .i64 x) by rw [List.getElem?_map, hx]; rfl)
      have hbr := HbW.out.trans HKi.out.1
      have HX := Lib.hid hx
      have HBr := Lib.hid hbr
      have hsz : n₀ ≤ wr.heap.size ∧ n₁ ≤ wr.heap.size := ⟨by have := hbr.size; have := HN0.out; omega, Nat.le_trans HN1.out HKi.out.1.size⟩
      have HSz := Lib.hid hsz
      obtain ⟨R, on, oc, bs, hblk, hon, _⟩ := HOd.out.keep (show Below w0.heap.size w0 wr by rw [HN0.out]; exact hbr)
      have co := hblk.cell 0
      simp at co
      have HOn := Lib.hid hon
      have HBo := Lib.hid hblk
      have HAr := Lib.hid (HA.out.keep HKi.out).1
      have hpn : (P.length : Int) + 1 = (on : Int) := by have := HPl.out; omega
      have hpn2 : (((P.length : Int) + 1) == (on : Int)) = true := by simp; omega
      have HCl := Lib.hid (show ∀ (w5 : World) (g5 c5 : Nat), Below wr.heap.size wr w5 → Sl w5 1 (some ⟨g5, 0, none⟩) (P.length + 1) ((P ++ [x]).map (Value.int .i64)) → Calls Tryz.prog 81 #[.slice (some ⟨g5, 0, none⟩) (P.length + 1) c5] w5 (fun e W1 => ∃ C c, e = .returned (.slice C (P.length + 1) c) ∧ KT n₀ n₂ wr W1 ∧ YieldAt Fence.wide 2 Tryz.prog l #[.slice C (P.length + 1) c] W1 fun e W' =>
        (e = .returned (.bool true) ∧ J (pre ++ ys ++ [(C, c, P ++ [x])]) W' ∧ KT n₀ n₂ W1 W') ∨ (e = .returned (.bool false) ∧ Jx (pre ++ ys ++ [(C, c, P ++ [x])]) W')) from fun w5 g5 c5 hb5 hs5 => by
          have hl1 : (P ++ [x]).length = P.length + 1 := by simp
          refine (CloneI_own (P ++ [x]) (some ⟨g5, 0, none⟩) (P.length + 1) c5 w5 hl1 (by omega) hs5).mono ?_
          rintro e W1 ⟨v, rfl, hown, hb⟩
          obtain ⟨C, c, rfl, hs⟩ := Sl.own hown
          have hbb := hb5.andThen hb
          refine ⟨C, c, rfl, KT.of_below hbb HSz.out.1, ?_⟩
          have hg := HG.out (((L.take k).flatMap (tls (od.drop P.length))).length + 0) [x] (flatW_at HX.out (by rw [HT1.out]; rfl))
          rw [HCnt.out k (by omega), Nat.add_zero] at hg
          have h := HY.out 2 (pre ++ ys) (C, c, P ++ [x]) W1 (HJ.out _ _ _ HJi.out (gb_below hbb none)) ⟨?_, by rw [List.length_append, HYs.out]; exact hg⟩ (by have := HN.out; rw [← HCn.out, HCa.out] at this; rw [List.length_append, HYs.out]; omega)
          · simp only [rv, hl1] at h
            exact h
          · simp only [rv, hl1]
            exact own_mono hown (Nat.le_trans HSz.out.2 hb5.size))
      have HC1 := Lib.hid (show ∀ V, Below wr.heap.size wr V → V.cell? ⟨p, 0, none⟩ = some (.slice R on oc) from fun V hV => (hV.cell (p := ⟨p, 0, none⟩) (World.block_lt_of_cell? wr _ co)).trans co)
      clear hx hbr hsz hblk hon hBm
      gi_wp2_with (first
        | ((try refine ⟨trivial, ?_⟩); (try refine ⟨fun h => (by cases h), ?_⟩); gi_at_call 109; refine (callsIn_wide.2 (Clip_any A P.length a _ hPa)).mono ?_; rintro e w2 ⟨rfl, rfl⟩)
        | ((try refine ⟨trivial, ?_⟩); (try refine ⟨fun h => (by cases h), ?_⟩); gi_at_call 81; refine (callsIn_wide.2 (HCl.out w5 g5 c5 HB5.out HS5.out)).mono ?_; clear HCl; rintro e W1 ⟨C, c, rfl, hkt, fn, tmps, assign, body, hy, hR⟩; have HKt := Lib.hid hkt; have HRr := Lib.hid hR; clear hkt hR)
        | (gi_at_builtin; refine wpListIn_fullQ elemInt _ _ rfl rfl (HAr.out.alloc _) HA0.out (Sl.newAt wr _ _ 1 rfl) (by omega) rfl rfl (by simp [Value.oneCell']) (by unfold lim; omega) (by unfold lim; omega) ?_; intro v5 w5 hown5 hb5; obtain ⟨g5, c5, rfl, _⟩ := own_form hown5 (by omega); have hbb5 := (bel_al (Below.refl wr.heap.size wr) (.cells #[.int .i64 x] 3)).andThen hb5; have co5 := HC1.out w5 hbb5; have HB5 := Lib.hid hbb5; have HS5 := Lib.hid (show Sl w5 1 (some ⟨g5, 0, none⟩) (P.length + 1) ((P ++ [x]).map (Value.int .i64)) from by rw [List.map_append]; exact Sl.of_own hown5); clear hown5 hb5 hbb5)
        | ((try refine ⟨fun h => (by cases h), ?_⟩); refine HRr.out.mono ?_; clear HRr; rintro e W2 (⟨rfl, hJ2, hk2⟩ | ⟨rfl, hx2⟩)))
      · have HJ2 := Lib.hid hJ2
        have HK2 := Lib.hid hk2
        clear hJ2 hk2 hy
        go_roundw
        case rel => exact ⟨k + 1, ys ++ [(C, c, P ++ [x])], by omega, by go_num, Lib.hid (by rw [List.length_append, HYs.out]; rfl), Lib.hid (by rw [← List.append_assoc]; exact HJ2.out), Lib.hid ((HKi.out.trans HKt.out).trans HK2.out)⟩
        case measure => simp [intOf]; omega
      · go_ret
        exact ⟨false, rfl, .inr ⟨rfl, ys ++ [(C, c, P ++ [x])], by rw [← List.append_assoc]; exact hx2⟩⟩
    · obtain rfl : k = m := by omega
      have hkm' : ¬ (k : Int) < (k : Int) := by omega
      gi_wp2
      go_ret
      exact ⟨true, rfl, .inl ⟨rfl, ⟨ys, by rw [HYs.out, HCa.out], HJi.out⟩, HKi.out⟩⟩
/-- 'r[a]', of a row known in an earlier world. -/
theorem wpList_lookR0 {ops : Array Oper} {rest : List Oper} {o : Oper} {a : Act} {Q : Exit → Act → World → Prop} (w0 w : World) (hg : o.guard = none) (m x : Operand) (hop : o.op = Op.lookup 114 m x false) (b : Nat) (r : Rw) (hm : a.eval m = .map (some b)) (hown : MRow w0 b r) (hb : Below w0.heap.size w0 w) (y : Int) (hx : a.eval x = .int .i64 y) (h1 : -9223372036854775808 ≤ y) (h2 : y ≤ 9223372036854775807)
    (hK : ∀ (A : Option Addr) (c : Nat) (l : List Int), RowOK w0 (A, c, l) → l = lkR r y → wpList Tryz.prog ops Q rest (a.put o.dst (.slice A l.length c)) w) :
    wpList Tryz.prog ops Q (o :: rest) a w := by
  obtain ⟨me, rfl, hM, hR⟩ := hown
  obtain ⟨A, c, l, h3, h4, h5⟩ := MRow.look hR y
  refine wpList_lookI w hg m x _ hop 22 kInt Tryz.underlying114 (.slice none 0 0) (by kernel_rfl) b _ hm (MapI.keep hM hb) y hx h1 h2 ?_
  rw [h5]
  exact hK A c l h3 h4

set_option maxHeartbeats 16000000 in
theorem walk_step {l n₀ n₁ n₂ p : Nat} {w0 : World} {od : List Rw} {G : List (List Int)} {J Jx : List RowE → World → Prop} (hod : OdM w0 p od) (hn0 : w0.heap.size = n₀) (hn01 : n₀ ≤ n₁) (hn21 : n₂ ≤ n₁) (hlen : od.length ≤ 100) (hOB : OdB 60000 od) (hNu : Nums od) (hJ : ∀ s A B, J s A → A.grownBy B none → J s B) {d : Nat} (ih : WalkOK l n₀ n₁ n₂ p w0 od G J Jx d) : WalkOK l n₀ n₁ n₂ p w0 od G J Jx (d + 1) := by
  intro P L A B a b m pre W hPl hL hm hA hPa hA0 hB hbW hn1 hLx hG hN hJ0
  obtain ⟨rb, ro, on, oc, mb, hon, co0, hoc, co1, hmr⟩ := hod.row (show P.length < od.length by omega)
  have HC0 := Lib.hid (show ∀ V, Below n₀ w0 V → V.cell? ⟨p, 0, none⟩ = some (.slice (some ⟨rb, ro, none⟩) on oc) ∧ V.cell? ⟨rb, ro + P.length, none⟩ = some (.map (some mb)) from fun V hV => by
    have hV' : Below w0.heap.size w0 V := by rw [hn0]; exact hV
    exact ⟨(hV'.cell (p := ⟨p, 0, none⟩) (World.block_lt_of_cell? w0 _ co0)).trans co0, (hV'.cell (p := ⟨rb, ro + P.length, none⟩) (World.block_lt_of_cell? w0 _ co1)).trans co1⟩)
  have HIH := Lib.hid ih
  have HJ := Lib.hid hJ
  have HA := Lib.hid hA
  have HA0 := Lib.hid hA0
  have HB := Lib.hid hB
  have HbW := Lib.hid hbW
  have HG := Lib.hid hG
  have HN := Lib.hid hN
  have HJ0 := Lib.hid hJ0
  have HL := Lib.hid hL
  have HLx := Lib.hid hLx
  have HN0 := Lib.hid hn0
  have HN1 := Lib.hid hn1
  have HN01 := Lib.hid (And.intro hn01 hn21)
  have HMr := Lib.hid hmr
  have HNu := Lib.hid hNu
  have HOB := Lib.hid hOB
  have HTs := Lib.hid (show ∀ x, tls (od.drop P.length) x = ((lkR (od.getD P.length []) x).flatMap (tls (od.drop (P.length + 1)))).map (x :: ·) from fun x => tls_step (by omega) x)
  obtain ⟨cnt, hcnt⟩ : ∃ cnt, cnt = (L.flatMap (tls (od.drop P.length))).length := ⟨_, rfl⟩
  rw [← hcnt]
  have HCn := Lib.hid hcnt
  have HPl := Lib.hid hPl
  have HOn := Lib.hid hon
  have hp8 : P.length ≤ 100 := by omega
  have hne : (((P.length : Int) + 1) == (on : Int)) = false := by simp; omega
  have hlt : (P.length : Int) < (on : Int) := by omega
  have hp0 : (0 : Int) ≤ (P.length : Int) := by omega
  clear hPl hod hJ hA hA0 hB hbW hG hN hJ0 hL hn0 hn1 hn01 hn21 hLx ih co0 co1 hon hoc hmr hcnt hNu hOB hlen
  go_enter Tryz.func74, Tryz.ntmps74
  go_wp2_with fail
  go_loopw [14] (fun iv wr => ∃ (k : Nat) (ys : List RowE), k ≤ m ∧ iv = .int .i64 (k : Int) ∧ Hid (ys.length = ((L.take k).flatMap (tls (od.drop P.length))).length) ∧ Hid (J (pre ++ ys) wr) ∧ Hid (KT n₀ n₂ W wr)) (fun iv _ => m - (intOf iv).toNat)
  case atStart => exact ⟨0, [], Nat.zero_le _, rfl, Lib.hid (by simp), Lib.hid (by rw [List.append_nil]; exact HJ0.out), Lib.hid (KT.refl _ _ _)⟩
  case round =>
    obtain ⟨k, ys, hk, rfl, HYs, HJi, HKi⟩ := hrel
    by_cases hkm : k < m
    · have hkm' : (k : Int) < (m : Int) := by omega
      obtain ⟨x, hx⟩ : ∃ x, L[k]? = some x := ⟨_, List.getElem?_eq_getElem (by rw [HL.out]; exact hkm)⟩
      have hBm := HB.out (by omega)
      obtain ⟨bb, off, rfl, _⟩ := hBm.1.at_ (show 0 < m by omega)
      have c1 := (hBm.keep HKi.out).1.again hkm (show (L.map (Value.int .i64))[k]? = some (.int .i64 x) by rw [List.getElem?_map, hx]; rfl)
      have hbr := HbW.out.trans HKi.out.1
      have HX := Lib.hid hx
      have HXx := Lib.hid (HLx.out x (List.mem_of_getElem? hx))
      have HBr := Lib.hid hbr
      have HSz := Lib.hid (show n₀ ≤ wr.heap.size ∧ n₁ ≤ wr.heap.size from ⟨by have := hbr.size; have := HN0.out; omega, Nat.le_trans HN1.out HKi.out.1.size⟩)
      have HAr := Lib.hid (HA.out.keep HKi.out).1
      have HIk := Lib.hid (show ∀ (w5 : World) (g5 c5 : Nat) (A2 : Option Addr) (c2 : Nat) (l2 : List Int), Below wr.heap.size wr w5 → w5.ownsRow (wr.alloc (.cells #[.int .i64 x] 3)).heap.size 3 1 (.slice (some ⟨g5, 0, none⟩) (P.length + 1) c5) (P.length + 1) (P.map (Value.int .i64) ++ [.int .i64 x]) → RowOK w0 (A2, c2, l2) → l2 = lkR (od.getD P.length []) x →
          Calls Tryz.prog 74 #[.pointer (some ⟨p, 0, none⟩), .slice (some ⟨g5, 0, none⟩) (P.length + 1) c5, .slice A2 l2.length c2, .func (.yield l) #[] #[]] w5 (WalkEnd n₀ n₂ (tls (od.drop P.length) x).length J Jx (pre ++ ys) w5) from fun w5 g5 c5 A2 c2 l2 hb5 hown hrow hl2 => by
        have hl1 : (P ++ [x]).length = P.length + 1 := by simp
        have hpd : P.length < od.length := by have := HPl.out; omega
        have hbw5 : Below n₀ w0 w5 := HBr.out.trans (hb5.mono HSz.out.1)
        have hs5 : SnT n₀ n₂ w5 (some ⟨g5, 0, none⟩) (P.length + 1) ((P ++ [x]).map (Value.int .i64)) := by
          rw [List.map_append]
          exact SnT.of_own hown (by have := HSz.out.2; have := HN01.out.2; simp; omega)
        have hlenx : (tls (od.drop P.length) x).length = (l2.flatMap (tls (od.drop (P ++ [x]).length))).length := by rw [HTs.out, List.length_map, hl1, hl2]
        have h := HIH.out (P ++ [x]) l2 (some ⟨g5, 0, none⟩) A2 c5 c2 l2.length (pre ++ ys) w5 (by rw [hl1]; have := HPl.out; omega) rfl (by rw [hl2]; exact Nat.le_trans (lkR_B (HOB.out _ (getD_memO hpd)) x) (by omega)) (by rw [hl1]; exact hs5) (by rw [hl1]; exact (own_cap hown).1) (fun e => by cases e)
          (fun hpos => ⟨(hrow.1.keep (by rw [HN0.out]; exact hbw5)), fun y hy => by
            obtain ⟨b9, o9, e9, hc9⟩ := hrow.1.at_ (show 0 < l2.length from hpos)
            simp only at e9
            rw [hy] at e9
            cases e9
            obtain ⟨u, _, hu⟩ := hc9 0 (by omega)
            exact .inl (by have := World.block_lt_of_cell? w0 _ hu; rw [HN0.out] at this; exact this)⟩) hbw5 (Nat.le_trans HSz.out.2 hb5.size) (fun z hz => HNu.out.link hpd (by rw [hl2] at hz; exact hz)) (fun i q hq => ?_) ?_ (HJ.out _ _ _ HJi.out (gb_below hb5 none))
        · rw [hl1] at h
          rw [hlenx, hl1]
          exact h
        · have hq2 : (tls (od.drop P.length) x)[i]? = some (x :: q) := by
            rw [HTs.out, List.getElem?_map, ← hl2]
            rw [hl1] at hq
            rw [hq]
            rfl
          have h2 := HG.out _ _ (flatW_at HX.out hq2)
          rw [List.length_append, HYs.out, Nat.add_assoc, h2]
          simp
        · rw [← hlenx, List.length_append, HYs.out]
          have h3 := flatW_take (f := tls (od.drop P.length)) HX.out
          have h4 := flatW_part (f := tls (od.drop P.length)) (L := L) (k + 1)
          have h5 := HN.out
          omega)
      have HC1 := Lib.hid (show ∀ V, Below wr.heap.size wr V → V.cell? ⟨p, 0, none⟩ = some (.slice (some ⟨rb, ro, none⟩) on oc) ∧ V.cell? ⟨rb, ro + P.length, none⟩ = some (.map (some mb)) ∧ Below w0.heap.size w0 V from fun V hV => by
        have h9 := HBr.out.trans (hV.mono HSz.out.1)
        exact ⟨(HC0.out V h9).1, (HC0.out V h9).2, by rw [HN0.out]; exact h9⟩)
      clear hx hbr hBm
      go_wp2_with (first
        | (go_at_call 109; refine (Clip_any A P.length a _ hPa).mono ?_; rintro e w2 ⟨rfl, rfl⟩)
        | (go_at_call 74; refine (HIk.out w5 g5 c5 A2 c2 l2 HB5.out HO5.out HR2.out HE2.out).mono ?_; clear HIk; rintro e w9 ⟨r, rfl, (⟨rfl, ⟨ys2, hy2, hj2⟩, hk2⟩ | ⟨rfl, ys2, hj2⟩)⟩)
        | (at_lookup; refine wpList_lookR0 w0 _ rfl _ _ rfl mb _ (by go_simp) HMr.out HW5.out x (by go_simp) HXx.out.1 HXx.out.2 ?_; intro A2 c2 l2 hr2 he2; have HR2 := Lib.hid hr2; have HE2 := Lib.hid he2; clear hr2 he2)
        | (at_builtin; refine wpList_fullQ elemInt _ _ rfl rfl (HAr.out.alloc _) HA0.out (Sl.newAt wr _ _ 1 rfl) (by omega) rfl rfl (by simp [Value.oneCell']) (by unfold lim; omega) (by unfold lim; omega) ?_; intro v5 w5 hown5 hb5; obtain ⟨g5, c5, rfl, _⟩ := own_form hown5 (by omega); have hbb5 := (bel_al (Below.refl wr.heap.size wr) (.cells #[.int .i64 x] 3)).andThen hb5; obtain ⟨co5, cm5, hw5⟩ := HC1.out w5 hbb5; have HW5 := Lib.hid hw5; have HB5 := Lib.hid hbb5; have HO5 := Lib.hid hown5; clear hown5 hb5 hbb5 hw5))
      · have HY2 := Lib.hid hy2
        have HJ2 := Lib.hid hj2
        have HK2 := Lib.hid hk2
        clear hy2 hj2 hk2
        go_roundw
        case rel => exact ⟨k + 1, ys ++ ys2, by omega, by go_num, Lib.hid (by rw [List.length_append, HYs.out, HY2.out, flatW_take HX.out]), Lib.hid (by rw [← List.append_assoc]; exact HJ2.out), Lib.hid (HKi.out.trans ((KT.of_below HB5.out HSz.out.1).trans HK2.out))⟩
        case measure => simp [intOf]; omega
      · have HJ2 := Lib.hid hj2
        clear hj2
        go_ret
        exact ⟨false, rfl, .inr ⟨rfl, ys ++ ys2, by rw [← List.append_assoc]; exact HJ2.out⟩⟩
    · obtain rfl : k = m := by omega
      have hkm' : ¬ (k : Int) < (k : Int) := by omega
      have HTk := Lib.hid (show L.take k = L from List.take_of_length_le (by rw [HL.out]; exact Nat.le_refl _))
      go_wp2_with fail
      go_ret
      exact ⟨true, rfl, .inl ⟨rfl, ⟨ys, by rw [HYs.out, HTk.out, HCn.out], HJi.out⟩, HKi.out⟩⟩

theorem walk_ok {l n₀ n₁ n₂ p : Nat} {w0 : World} {od : List Rw} {G : List (List Int)} {J Jx : List RowE → World → Prop} (hod : OdM w0 p od) (hn0 : w0.heap.size = n₀) (hn01 : n₀ ≤ n₁) (hn21 : n₂ ≤ n₁) (hlen : od.length ≤ 100) (hOB : OdB 60000 od) (hNu : Nums od) (hJ : ∀ s A B, J s A → A.grownBy B none → J s B) (hY : AsksT l n₀ n₁ n₂ G J Jx) (d : Nat) : WalkOK l n₀ n₁ n₂ p w0 od G J Jx d := by
  induction d with
  | zero => exact walk_leaf hod hn0 hn01 hn21 hlen hJ hY
  | succ d ih => exact walk_step hod hn0 hn01 hn21 hlen hOB hNu hJ ih
end Go.Proofs.YtmonepclhbappaaGreatDoor
/-
  Odags: Paths: all paths come one by one.
-/
namespace Go.Proofs.YtmonepclhbappaaGreatDoor
open Go.RowKit Go.Shelf Go.Maps
set_option maxRecDepth 100000
set_option linter.unusedVariables false

theorem OdPaths_any (o : Option Addr) (w : World) : Calls Tryz.prog 30 #[.pointer o] w fun e w' => e = .returned (.func (.func 73) #[] #[.pointer (some ⟨w.heap.size, 0, none⟩)]) ∧ w' = w.alloc (.cells #[.pointer o] 51) := by
  go_enter Tryz.func30, Tryz.ntmps30
  go_wp2_with fail
  go_ret
  exact ⟨rfl, rfl⟩

set_option maxHeartbeats 8000000 in
theorem Paths1_any {l n₀ n₁ n₂ p B N : Nat} {w0 W : World} {od : List Rw} {J Jx : List RowE → World → Prop} (hod : OdM w0 p od) (hn0 : w0.heap.size = n₀) (hn01 : n₀ ≤ n₁) (hn21 : n₂ ≤ n₁) (hn1 : n₁ ≤ W.heap.size) (hO : OdOK od N) (hJ : ∀ s A B, J s A → A.grownBy B none → J s B) (hY : AsksT l n₀ n₁ n₂ (allP od) J Jx) (hbW : Below n₀ w0 W) (hB : Blk W B 51 #[.pointer (some ⟨p, 0, none⟩)]) (hJ0 : J [] W) :
    Calls Tryz.prog 73 #[.func (.yield l) #[] #[], .pointer (some ⟨B, 0, none⟩)] W fun e W' => (∃ v, e = .returned v) ∧ ((∃ xs : List RowE, xs.length = (allP od).length ∧ J xs W') ∨ ∃ pre : List RowE, Jx pre W') := by
  have c0 := hB.cell 0
  simp at c0
  have HKc := Lib.hid (show ∀ V, Below W.drew.heap.size W.drew V → V.cell? ⟨B, 0, none⟩ = some (.pointer (some ⟨p, 0, none⟩)) from fun V hb => (hb.cell (p := ⟨B, 0, none⟩) (World.block_lt_of_cell? W _ c0)).trans c0)
  have hbd : Below n₀ w0 W.drew := hbW.trans (bel_drewN (Below.refl _ _) 1)
  have hod' : OdM W.drew p od := hod.keep (by rw [hn0]; exact hbd)
  have HRw := Lib.hid (OdRow_any p od 0 W.drew hod' (fun r hr => (hO.B r hr).mono (by omega)) (by rw [hO.len]; have := hO.h8; omega))
  have hk0 : keysAt od 0 = (od.getD 0 []).map (·.1) := by
    have := keysAt_in (od := od) (i := 0) (by rw [hO.len]; have := hO.h1; omega)
    rw [show ((0 : Nat) : Int) = 0 from rfl] at this
    exact this
  have HWk := Lib.hid (show ∀ (V : World) (A2 : Option Addr) (c2 : Nat), Below W.drew.heap.size W.drew V → V.ownsRow W.drew.heap.size 3 1 (.slice A2 (keysAt od 0).length c2) (keysAt od 0).length ((keysAt od 0).map (Value.int .i64)) →
      Calls Tryz.prog 74 #[.pointer (some ⟨p, 0, none⟩), .slice none 0 0, .slice A2 (keysAt od 0).length c2, .func (.yield l) #[] #[]] V (WalkEnd n₀ n₂ (allP od).length J Jx [] V) from fun V A2 c2 hV hown => by
    have hd : (keysAt od 0).flatMap (tls (od.drop 0)) = allP od := by rw [hk0, List.drop_zero]; rfl
    have hdw : W.drew.heap.size = W.heap.size := rfl
    have h := walk_ok hod hn0 hn01 hn21 (by rw [hO.len]; have := hO.h8; omega) hO.B hO.Nu hJ hY (od.length - 1) [] (keysAt od 0) none A2 0 c2 (keysAt od 0).length [] V (by rw [hO.len]; have := hO.h1; simp; omega) rfl (by rw [hk0, List.length_map]; exact Nat.le_trans (hO.B _ (getD_memO (by rw [hO.len]; have := hO.h1; omega))).1 (by omega)) (SnT.nil _ _ _) (Nat.le_refl _) (fun _ => rfl)
      (fun _ => SnT.of_own hown (by rw [hdw]; omega)) (hbd.trans (hV.mono (by rw [hdw]; omega))) (by have := hV.size; rw [hdw] at this; omega) (fun x hx => hO.Nu.key (i := 0) (by rw [hO.len]; have := hO.h1; omega) (by rw [hk0] at hx; exact hx)) (fun i q hq => ?_) ?_ (hJ _ _ _ hJ0 (gb_below ((bel_drewN (Below.refl _ _) 1).andThen hV) none))
    · rw [List.length_nil, hd] at h
      exact h
    · rw [List.length_nil, hd] at hq
      simpa using hq
    · show 0 + ((keysAt od 0).flatMap (tls (od.drop 0))).length ≤ _
      rw [hd]
      omega)
  clear hB hod hn0 hn01 hn21 hn1 hO hJ hY hbW hJ0 hbd hod' hk0
  generalize hks : keysAt od 0 = ks at *
  clear hks
  go_enter Tryz.func73, Tryz.ntmps73
  go_wp2_with fail
  go_region_law (go_simp; first
      | (go_at_call 34; refine HRw.out.mono ?_; clear HRw; rintro e' w3 ⟨v, rfl, hown, hb⟩; obtain ⟨A2, c2, rfl, _⟩ := Sl.own hown; have zz := HKc.out _ hb; have HO := Lib.hid hown; have HB1 := Lib.hid hb; clear hown hb)
      | (go_at_call 74; refine (HWk.out w3 A2 c2 HB1.out HO.out).mono ?_; clear HWk; rintro e' w4 ⟨r, rfl, hres⟩; have HRs := Lib.hid hres; clear hres))
  all_goals (
    go_wp2_with fail
    go_end0
    refine ⟨⟨_, rfl⟩, ?_⟩
    rcases HRs.out with ⟨_, ⟨ys, h1, h2⟩, _⟩ | ⟨_, ys, h2⟩
    · exact .inl ⟨ys, h1, by simpa using h2⟩
    · exact .inr ⟨ys, by simpa using h2⟩)

theorem paths_gives (d n₀ n₂ B p N : Nat) (od : List Rw) (w0 w : World) (hod : OdM w0 p od) (hO : OdOK od N) (hn0 : w0.heap.size = n₀) (hn01 : n₀ ≤ w.heap.size) (hn21 : n₂ ≤ w.heap.size) (hb : Below n₀ w0 w) (hB : Blk w B 51 #[.pointer (some ⟨p, 0, none⟩)]) :
    GivesKnown Fence.wide d Tryz.prog 73 #[.pointer (some ⟨B, 0, none⟩)] (fun x : RowE => #[rv x]) (KnE w.heap.size (allP od)) (fun _ => KT n₀ n₂) (fun xs => xs.length = (allP od).length) (fun _ => True) (allP od).length w := by
  intro l J Jx W hW hJ hJx hY h0
  have hJ' : ∀ s A B, J s A → A.grownBy B none → J s B := fun s A B h hg => hJ s A B none h hg (fun r e => by cases e)
  have hYA : AsksT l n₀ w.heap.size n₂ (allP od) J Jx := fun m pre x W1 h1 h2 h3 => yieldAt_anyE rfl m (hY pre x W1 h1 h2 h3)
  refine (callsIn_wide.2 (Paths1_any hod hn0 hn01 hn21 hW.size hO hJ' hYA (hb.trans (hW.mono hn01)) (hB.keep hW) h0)).mono fun e W' ⟨hv, h⟩ => ⟨hv, ?_⟩
  rcases h with ⟨xs, h1, h2⟩ | ⟨pre, h1⟩
  · exact .inl ⟨xs, h1, h2⟩
  · exact .inr ⟨pre, trivial, h1⟩
end Go.Proofs.YtmonepclhbappaaGreatDoor
/-
  Odags plainly: two merged.
-/
namespace Go.Proofs.YtmonepclhbappaaGreatDoor
open Go.RowKit
set_option linter.unusedVariables false

/-- A row into which these numbers with their links have been put. -/
def foldR (d : Rw) : Rw := d.foldl (fun r q => stepR r q.1 q.2) []
theorem foldR_snoc (d : Rw) (q : Int × List Int) : foldR (d ++ [q]) = stepR (foldR d) q.1 q.2 := by unfold foldR; rw [List.foldl_append]; rfl
theorem foldR_ok (d : Rw) : IncR (foldR d) ∧ (∀ a, a ∈ (foldR d).map (·.1) ↔ a ∈ d.map (·.1)) ∧ (∀ a, Inc (lkR (foldR d) a)) ∧ ∀ a b, b ∈ lkR (foldR d) a ↔ ∃ q ∈ d, q.1 = a ∧ b ∈ q.2 := by
  obtain ⟨rs, rfl⟩ : ∃ rs, d = rs.reverse := ⟨d.reverse, by simp⟩
  induction rs with
  | nil =>
    refine ⟨List.Pairwise.nil, fun a => Iff.rfl, fun a => List.Pairwise.nil, fun a b => ⟨fun h => (by cases h), fun ⟨q, hq, _⟩ => (by cases hq)⟩⟩
  | cons q rs ih =>
    rw [List.reverse_cons, foldR_snoc]
    generalize rs.reverse = d at *
    obtain ⟨h1, h2, h3, h4⟩ := ih
    unfold stepR
    refine ⟨h1.put _ _, fun a => ?_, fun a => ?_, fun a b => ?_⟩
    · rw [keys_putR, h2, List.map_append, List.mem_append, List.map_singleton, List.mem_singleton]
      exact or_comm
    · rw [lkR_putR]
      split
      · exact setL_inc _
      · exact h3 a
    · rw [lkR_putR]
      split
      · rename_i e
        subst e
        rw [setL_mem, List.mem_append, h4]
        constructor
        · rintro (⟨p, hp, e, hb⟩ | hb)
          · exact ⟨p, List.mem_append_left _ hp, e, hb⟩
          · exact ⟨q, List.mem_append_right _ (List.mem_singleton_self _), rfl, hb⟩
        · rintro ⟨p, hp, e, hb⟩
          rcases List.mem_append.1 hp with hp | hp
          · exact .inl ⟨p, hp, e, hb⟩
          · rw [List.mem_singleton.1 hp] at hb
            exact .inr hb
      · rename_i e
        rw [h4]
        constructor
        · rintro ⟨p, hp, e', hb⟩
          exact ⟨p, List.mem_append_left _ hp, e', hb⟩
        · rintro ⟨p, hp, e', hb⟩
          rcases List.mem_append.1 hp with hp | hp
          · exact ⟨p, hp, e', hb⟩
          · rw [List.mem_singleton.1 hp] at e'
            exact absurd e'.symm e
theorem foldR_perm {d d' : Rw} (h : d.Perm d') : foldR d = foldR d' := by
  obtain ⟨h1, h2, h3, h4⟩ := foldR_ok d
  obtain ⟨k1, k2, k3, k4⟩ := foldR_ok d'
  refine rw_ext h1 k1 (fun a => by rw [h2, k2]; exact (h.map _).mem_iff) fun a => inc_ext (h3 a) (k3 a) fun b => ?_
  rw [h4, k4]
  exact ⟨fun ⟨q, hq, e⟩ => ⟨q, h.mem_iff.1 hq, e⟩, fun ⟨q, hq, e⟩ => ⟨q, h.mem_iff.2 hq, e⟩⟩
theorem stepR_B2 {K k : Nat} {r : Rw} (h : RwB K r) (a : Int) (nx : List Int) (hn : nx.length ≤ k) : RwB (K + (k + 1)) (stepR r a nx) := by
  refine ⟨Nat.le_trans (putR_len _ _ _) (by have := h.1; omega), fun q hq => ?_⟩
  unfold stepR putR at hq
  rcases List.mem_append.1 hq with hq | hq
  · have := h.2 q (List.mem_filter.1 hq).1
    omega
  · rcases List.mem_cons.1 hq with rfl | hq
    · have h1 := setL_le (lkR r a ++ nx)
      rw [List.length_append] at h1
      have h2 := lkR_B h a
      show (setL (lkR r a ++ nx)).length ≤ _
      omega
    · have := h.2 q (List.mem_filter.1 hq).1
      omega
theorem foldR_B {k : Nat} (d : Rw) : (∀ q ∈ d, q.2.length ≤ k) → RwB (d.length * (k + 1)) (foldR d) := by
  obtain ⟨rs, rfl⟩ : ∃ rs, d = rs.reverse := ⟨d.reverse, by simp⟩
  induction rs with
  | nil => exact fun _ => ⟨Nat.zero_le _, fun q hq => by cases hq⟩
  | cons q rs ih =>
    rw [List.reverse_cons, foldR_snoc]
    generalize rs.reverse = d at *
    intro h
    rw [List.length_append, List.length_singleton, Nat.succ_mul]
    exact stepR_B2 (ih fun p hp => h p (List.mem_append_left _ hp)) _ _ (h q (List.mem_append_right _ (List.mem_singleton_self _)))
/-- Two odags merged. -/
def mergeO (od od' : List Rw) : List Rw := (List.range od.length).map fun i => foldR (od.getD i [] ++ od'.getD i [])
theorem mergeO_len (od od' : List Rw) : (mergeO od od').length = od.length := by unfold mergeO; simp
theorem mergeO_at (od od' : List Rw) {i : Nat} (h : i < (mergeO od od').length) : (mergeO od od')[i] = foldR (od.getD i [] ++ od'.getD i []) := by simp [mergeO]
theorem lkR_iff {r : Rw} (h : IncR r) {a b : Int} : (∃ q ∈ r, q.1 = a ∧ b ∈ q.2) ↔ b ∈ lkR r a := by
  constructor
  · rintro ⟨q, hq, rfl, hb⟩
    rw [h.lk hq]
    exact hb
  · exact fun hb => lkR_mem hb
theorem merge_odOf {n : Nat} {ls ls' : List (List Int)} (h : ∀ x ∈ ls, x.length = n) (h' : ∀ x ∈ ls', x.length = n) : mergeO (odOf n ls) (odOf n ls') = odOf n (ls ++ ls') := by
  refine List.ext_getElem (by rw [mergeO_len, odOf_len, odOf_len]) fun i h1 h2 => ?_
  rw [odOf_len] at h2
  obtain ⟨g1, g2, g3⟩ := odOf_row n i h2 ls h
  obtain ⟨k1, k2, k3⟩ := odOf_row n i h2 ls' h'
  obtain ⟨m1, m2, m3⟩ := odOf_row n i h2 (ls ++ ls') fun x hx => (List.mem_append.1 hx).elim (h x) (h' x)
  have e : ∀ {l : List (List Int)} (hh : i < (odOf n l).length), (odOf n l).getD i [] = (odOf n l)[i] := fun hh => by rw [List.getD_eq_getElem?_getD, List.getElem?_eq_getElem hh]; rfl
  rw [← e]
  rw [mergeO_at]
  obtain ⟨f1, f2, f3, f4⟩ := foldR_ok ((odOf n ls).getD i [] ++ (odOf n ls').getD i [])
  refine rw_ext f1 m1 (fun a => ?_) fun a => inc_ext (f3 a) (by rw [m3]; exact setL_inc _) fun b => ?_
  · rw [f2, m2, List.map_append, List.mem_append, g2, k2]
    constructor
    · rintro (⟨x, hx, e⟩ | ⟨x, hx, e⟩)
      · exact ⟨x, List.mem_append_left _ hx, e⟩
      · exact ⟨x, List.mem_append_right _ hx, e⟩
    · rintro ⟨x, hx, e⟩
      rcases List.mem_append.1 hx with hx | hx
      · exact .inl ⟨x, hx, e⟩
      · exact .inr ⟨x, hx, e⟩
  · rw [f4, m3]
    have hsplit : (∃ q ∈ (odOf n ls).getD i [] ++ (odOf n ls').getD i [], q.1 = a ∧ b ∈ q.2) ↔ b ∈ lkR ((odOf n ls).getD i []) a ∨ b ∈ lkR ((odOf n ls').getD i []) a := by
      rw [← lkR_iff g1, ← lkR_iff k1]
      constructor
      · rintro ⟨q, hq, e⟩
        rcases List.mem_append.1 hq with hq | hq
        · exact .inl ⟨q, hq, e⟩
        · exact .inr ⟨q, hq, e⟩
      · rintro (⟨q, hq, e⟩ | ⟨q, hq, e⟩)
        · exact ⟨q, List.mem_append_left _ hq, e⟩
        · exact ⟨q, List.mem_append_right _ hq, e⟩
    rw [hsplit, g3, k3]
    unfold lnks
    rw [setL_mem, setL_mem, setL_mem, List.filter_append, List.flatMap_append, List.mem_append]
end Go.Proofs.YtmonepclhbappaaGreatDoor
/-
  Rows of an odag whose links lie in rows of ints: they outlive a change of other cells. put again.
-/
namespace Go.Proofs.YtmonepclhbappaaGreatDoor
open Go.RowKit Go.Maps
set_option maxRecDepth 100000
set_option linter.unusedVariables false
set_option linter.unusedSectionVars false

def IntAt (w : World) (A : Option Addr) : Prop := ∀ x : Addr, A = some x → ∃ cs fr, w.heap[x.block]? = some (.cells cs 3 fr)
def MRowT (w : World) (b : Nat) (r : Rw) : Prop := ∃ m : List ME, m.map pl = r ∧ MapR w b (m.map mv) ∧ ∀ e ∈ m, RowOK w e.2 ∧ IntAt w e.2.1
section
variable {w w' : World} {b b' : Nat} {r : Rw} {A : Option Addr}
theorem IntAt.keep (h : IntAt w A) (hb : Below w.heap.size w w') : IntAt w' A := fun x hx => by
  obtain ⟨cs, fr, h1⟩ := h x hx
  exact ⟨cs, fr, (hb.block _ (Array.getElem?_eq_some_iff.1 h1).1).trans h1⟩
theorem IntAt.turned (h : IntAt w A) (hm : NC w b) (hg : w.grownBy w' (some b)) : IntAt w' A := fun x hx => by
  obtain ⟨cs, fr, h1⟩ := h x hx
  refine ⟨cs, fr, (hg.block _ (Array.getElem?_eq_some_iff.1 h1).1 fun e => ?_).trans h1⟩
  cases e
  obtain ⟨o, h2, h3⟩ := hm
  rw [h1] at h2
  cases h2
  cases h3
theorem IntAt.of_own {B n c : Nat} {xs : List Value} (h : w.ownsRow B 3 1 (.slice A n c) n xs) : IntAt w A := fun x hx => by
  subst hx
  rcases h.2 with ⟨h1, _⟩ | ⟨g, cap, cur, h1, _, h3, _⟩
  · cases h1
  · cases h1
    exact ⟨cur, _, h3⟩
theorem MRowT.row (h : MRowT w b r) : MRow w b r := by
  obtain ⟨m, h1, h2, h3⟩ := h
  exact ⟨m, h1, h2, fun e he => (h3 e he).1⟩
theorem MRowT.keep (h : MRowT w b r) (hb : Below w.heap.size w w') : MRowT w' b r := by
  obtain ⟨m, h1, h2, h3⟩ := h
  exact ⟨m, h1, MapI.keep h2 hb, fun e he => ⟨(h3 e he).1.keep hb, (h3 e he).2.keep hb⟩⟩
theorem MRowT.other (h : MRowT w b r) (hm : NC w b') (hg : w.grownBy w' (some b')) (hne : b ≠ b') : MRowT w' b r := by
  obtain ⟨m, h1, h2, h3⟩ := h
  exact ⟨m, h1, MapI.kept h2 hg (fun e => hne (by cases e; rfl)), fun e he => ⟨(h3 e he).1.turned hm hg, (h3 e he).2.turned hm hg⟩⟩
theorem MRowT.grown {row : Option Nat} (h : MRowT w b r) (hg : w.grownBy w' row) (hr : ∀ g, row = some g → ∃ cs t fr, w.heap[g]? = some (.cells cs t fr) ∧ t ≠ 3) : MRowT w' b r := by
  have hnc := h.row.isMap
  obtain ⟨m, h1, h2, h3⟩ := h
  refine ⟨m, h1, MapI.kept h2 hg (fun e => ?_), fun e he => ?_⟩
  · obtain ⟨cs, t, fr, h4, _⟩ := hr b e.symm
    obtain ⟨o, h5, h6⟩ := hnc
    rw [h4] at h5
    cases h5
    cases h6
  · obtain ⟨k1, k2⟩ := h3 e he
    have hne : ∀ x : Addr, e.2.1 = some x → x.block < w.heap.size ∧ some x.block ≠ row := fun x hx => by
      obtain ⟨cs, fr, h4⟩ := k2 x hx
      refine ⟨(Array.getElem?_eq_some_iff.1 h4).1, fun e => ?_⟩
      obtain ⟨cs', t, fr', h5, h6⟩ := hr _ e.symm
      rw [h4] at h5
      injection h5 with h5
      injection h5 with _ h7
      exact h6 h7.symm
    refine ⟨⟨k1.1.grownQ hg hne, k1.2⟩, fun x hx => ?_⟩
    obtain ⟨cs, fr, h4⟩ := k2 x hx
    exact ⟨cs, fr, (hg.block _ (hne x hx).1 (hne x hx).2).trans h4⟩
theorem MRowT.made (w : World) : MRowT (w.alloc (.map #[] 0)) w.heap.size [] := ⟨[], rfl, MapI.made _ _ w, fun e he => by cases he⟩
end
section
variable (w : World) {ops : Array Oper} {rest : List Oper} {o : Oper} {a : Act} {Q : Exit → Act → World → Prop}
/-- 'r[a] = l'. -/
theorem wpList_putRT (hg : o.guard = none) (m x v : Operand) (hop : o.op = Op.mapUpdate 114 m x v) (b : Nat) (r : Rw) (hm : a.eval m = .map (some b)) (hown : MRowT w b r) (hn : r.length ≤ 1000000) (y : Int) (hx : a.eval x = .int .i64 y) (h1 : -9223372036854775808 ≤ y) (h2 : y ≤ 9223372036854775807)
    (A : Option Addr) (c n : Nat) (l : List Int) (hl : l.length = n) (hv : a.eval v = .slice A n c) (hrow : RowOK w (A, c, l)) (hIA : IntAt w A)
    (hK : ∀ w', MRowT w' b (putR r y l) → w.grownBy w' (some b) → wpList Tryz.prog ops Q rest (a.put o.dst undef) w') :
    wpList Tryz.prog ops Q (o :: rest) a w := by
  have hmap := hown.row.isMap
  obtain ⟨me, rfl, hM, hR⟩ := hown
  subst hl
  refine wpList_putI w hg m x v _ hop 22 kInt Tryz.underlying114 b _ hm hM (by rw [List.length_map] at hn ⊢; unfold maxLen; omega) y _ hx hv h1 h2 fun w' hM' hgr => hK w' ?_ hgr
  refine ⟨(me.filter fun e => decide (e.1 < y)) ++ ((y, A, c, l) : ME) :: me.filter fun e => decide (y < e.1), ?_, ?_, fun e he => ?_⟩
  · exact (put_map pl (fun _ => rfl) me (y, A, c, l) (y, l) rfl).symm
  · have := put_map mv (fun _ => rfl) me (y, A, c, l) (y, .slice A l.length c) rfl
    rw [← this]
    exact hM'
  · have hall : ∀ e ∈ (y, A, c, l) :: me, RowOK w e.2 ∧ IntAt w e.2.1 := fun e he => by
      rcases List.mem_cons.1 he with rfl | he
      · exact ⟨hrow, hIA⟩
      · exact hR e he
    have h := hall e (by
      rcases List.mem_append.1 he with he | he
      · exact List.mem_cons_of_mem _ (List.mem_filter.1 he).1
      · rcases List.mem_cons.1 he with rfl | he
        · exact List.mem_cons_self ..
        · exact List.mem_cons_of_mem _ (List.mem_filter.1 he).1)
    exact ⟨h.1.turned hmap hgr, h.2.turned hmap hgr⟩
end

set_option maxHeartbeats 2000000 in
theorem put_anyT (b : Nat) (r : Rw) (a : Int) (B : Option Addr) (m d : Nat) (L : List Int) (w : World) (hr : MRowT w b r) (hrl : r.length ≤ 1000000) (hll : ∀ x ∈ r, x.2.length ≤ 100000) (ha : -9223372036854775808 ≤ a ∧ a ≤ 9223372036854775807) (hL : RowOK w (B, d, L)) (hm : L.length = m) (hm2 : m ≤ 100000) :
    Calls Tryz.prog 67 #[.map (some b), .int .i64 a, .slice B m d] w fun e w' => e = .returned (.tuple #[]) ∧ MRowT w' b (putR r a (setL (lkR r a ++ L))) ∧ w.grownBy w' (some b) := by
  have HR := Lib.hid hr
  have HL := Lib.hid hL
  have HM := Lib.hid hm
  have HA := Lib.hid ha
  have HRl := Lib.hid hrl
  have HLk := Lib.hid (show (lkR r a).length ≤ 100000 from by
    unfold lkR
    cases hf : r.find? fun p => decide (p.1 = a) with
    | none => simp
    | some p => exact hll p (List.mem_of_find?_eq_some hf))
  clear hr hL hm ha hrl hll
  go_enter Tryz.func67, Tryz.ntmps67
  go_wp2_with (first
    | (at_lookup; refine wpList_lookR _ rfl _ _ rfl b r rfl HR.out.row a rfl HA.out.1 HA.out.2 ?_; intro A c l hrow hl; have HRow := Lib.hid hrow; have HEl := Lib.hid hl; clear hrow hl)
    | (go_at_call 103; refine (Union_any l L A B l.length c m d _ rfl (by rw [HEl.out]; exact HLk.out) HRow.out.2 HRow.out.1 HM.out hm2 (by have := HL.out.2; rw [← HM.out]; exact this) (by have := HL.out.1; rw [HM.out] at this; exact this)).mono ?_; rintro e w2 ⟨v, rfl, hown, hb⟩; have HU := Lib.hid hown; have HB := Lib.hid hb; have hsh := Sl.own hown; obtain ⟨C, k, rfl, _⟩ := hsh; have HRk := Lib.hid (HR.out.keep hb); have HC := Lib.hid (show RowOK w2 (C, k, setL (l ++ L)) from ⟨Sl.of_own hown, own_cap hown⟩); have HIA := Lib.hid (IntAt.of_own hown); clear hown hb)
    | (at_mapUpdate; refine wpList_putRT _ rfl _ _ _ rfl b r rfl HRk.out HRl.out a rfl HA.out.1 HA.out.2 C k _ (setL (l ++ L)) rfl rfl HC.out HIA.out ?_; intro w3 hM hg3; have HM3 := Lib.hid hM; have HG3 := Lib.hid hg3; clear hM hg3))
  go_end0
  exact ⟨rfl, by rw [← HEl.out]; exact HM3.out, gb_then HB.out HG3.out⟩
end Go.Proofs.YtmonepclhbappaaGreatDoor
