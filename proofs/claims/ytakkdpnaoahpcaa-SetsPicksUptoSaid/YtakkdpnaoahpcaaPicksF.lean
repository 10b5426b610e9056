/-
  sets.picks where one is still to be picked: by what it does where one less is.
-/
import Derived.Test.YtakkdpnaoahpcaaListS
import Derived.Test.YtakkdpnaoahpcaaPicksP
import Derived.Test.YtakkdpnaoahpcaaRangeQ
import Derived.Deep.RegionLaw
import Derived.Deep.Cut
namespace Go.Proofs.Ytakkdpnaoahpcaa
open Go.RowKit
set_option maxRecDepth 100000
set_option linter.unusedVariables false

abbrev Row := Option Addr × Nat × List Int
/-- A round keeps the cells of the blocks that Q names, but for those of the row that it was handed. -/
def Kq (Q : Nat → Prop) (x : Row) (W W' : World) : Prop := W.heap.size ≤ W'.heap.size ∧ ∀ k o, Q k → (∀ a : Addr, x.1 = some a → a.block ≠ k) → W.heap[k]? = some o → o.isCells = true → W'.heap[k]? = some o
def Kept (Q : Nat → Prop) (W W' : World) : Prop := W.heap.size ≤ W'.heap.size ∧ ∀ k o, Q k → W.heap[k]? = some o → o.isCells = true → W'.heap[k]? = some o
theorem Kept.refl (Q : Nat → Prop) (W : World) : Kept Q W W := ⟨Nat.le_refl _, fun _ _ _ h _ => h⟩
theorem Kept.trans {Q : Nat → Prop} {A B C : World} (h : Kept Q A B) (k : Kept Q B C) : Kept Q A C := ⟨Nat.le_trans h.1 k.1, fun j o hj ho hc => k.2 j o hj (h.2 j o hj ho hc) hc⟩
theorem Kept.of_below {Q : Nat → Prop} {W W' : World} (h : Below W.heap.size W W') : Kept Q W W' := ⟨h.size, fun k o _ ho _ => (h.block k (Array.getElem?_eq_some_iff.1 ho).1).trans ho⟩
theorem Kept.then_round {Q : Nat → Prop} {x : Row} {A B C : World} (h : Below A.heap.size A B) (hx : ∀ a : Addr, x.1 = some a → A.heap.size ≤ a.block) (k : Kq Q x B C) : Kept Q A C :=
  ⟨Nat.le_trans h.size k.1, fun j o hj ho hc => k.2 j o hj (fun a ha e => by
    have h1 := hx a ha
    have h2 := (Array.getElem?_eq_some_iff.1 ho).1
    omega) ((h.block j (Array.getElem?_eq_some_iff.1 ho).1).trans ho) hc⟩
theorem Kq.trans {Q : Nat → Prop} {x : Row} {A B C : World} (h : Kq Q x A B) (k : Kq Q x B C) : Kq Q x A C := ⟨Nat.le_trans h.1 k.1, fun j o hj hx ho hc => k.2 j o hj hx (h.2 j o hj hx ho hc) hc⟩
theorem Kq.of_kept {Q : Nat → Prop} {x : Row} {W W' : World} (h : Kept Q W W') : Kq Q x W W' := ⟨h.1, fun k o hk _ ho hc => h.2 k o hk ho hc⟩
theorem Kept.putObj {Q : Nat → Prop} {W : World} {l : Nat} {o : Obj} (o' : Obj) (hl : W.heap[l]? = some o) (ho : o.isCells = false) : Kept Q W (W.putObj l o') :=
  ⟨(grownBy_putObj' W l o').size, fun k u _ hk hc => by
    by_cases e : k = l
    · subst e
      rw [hl] at hk
      cases hk
      rw [ho] at hc
      cases hc
    · exact (World.putObj_heap_other e).trans hk⟩
theorem Kept.cell {Q : Nat → Prop} {W W' : World} (h : Kept Q W W') {a : Addr} {u : Value} (hb : Q a.block) (hc : W.cell? a = some u) : W'.cell? a = some u := by
  have hc' := hc
  unfold World.cell? at hc'
  cases ho : W.heap[a.block]? with
  | none => simp [ho] at hc'
  | some o =>
    have hcell : o.isCells = true := by cases o <;> simp_all [Obj.isCells]
    exact (World.cell?_of_block ((h.2 _ _ hb ho hcell).trans ho.symm)).trans hc
theorem Kept.set {Q : Nat → Prop} {B : Nat} (W : World) (i : Nat) (v : Value) (h : ¬ Q B) : Kept Q W (W.setCell ⟨B, i, none⟩ v) :=
  ⟨(KeepsWalks.setCell W _ v).size, fun k o hk ho _ => (Below.heap_setCell _ _ _ _ (fun e => h (by have e' : k = B := e; rw [← e']; exact hk))).trans ho⟩
theorem Sl.newAt1 (w : World) (o : Obj) (cs : List Value) (e : TypeId) (n : Nat) (hn : cs.length = n) : Sl ((w.alloc o).alloc (.cells cs.toArray e)) 1 (some ⟨w.heap.size + 1, 0, none⟩) n cs := by
  have h := Sl.newAt (w.alloc o) cs e n hn
  rw [World.size_alloc] at h
  exact h
/-- A slice in a block that Q names. -/
def Sq (Q : Nat → Prop) (W : World) (A : Option Addr) (n : Nat) (xs : List Value) : Prop := Sl W 1 A n xs ∧ ∀ x : Addr, A = some x → Q x.block
theorem Sq.keep {Q : Nat → Prop} {W W' : World} {A : Option Addr} {n : Nat} {xs : List Value} (h : Sq Q W A n xs) (hk : Kept Q W W') : Sq Q W' A n xs :=
  ⟨⟨h.1.1, fun hn => by
    obtain ⟨b, off, rfl, h2⟩ := h.1.2 hn
    exact ⟨b, off, rfl, fun j v hj => hk.cell (a := ⟨b, off + j, none⟩) (show Q (⟨b, off, none⟩ : Addr).block from h.2 _ rfl) (h2 j v hj)⟩⟩, h.2⟩

/-- How picks ends: all have come, or a round has said 'no more'. -/
def PickRes (Q : Nat → Prop) (cnt : Nat) (J Jx : List Row → World → Prop) (pre : List Row) (W : World) (r : Bool) (W' : World) : Prop :=
  (r = true ∧ (∃ ys : List Row, ys.length = cnt ∧ J (pre ++ ys) W') ∧ Kept Q W W') ∨ (r = false ∧ ∃ ys : List Row, 0 < ys.length ∧ ys.length ≤ cnt ∧ Jx (pre ++ ys) W')
def PickEnd (Q : Nat → Prop) (cnt : Nat) (J Jx : List Row → World → Prop) (pre : List Row) (W : World) (e : Ending) (W' : World) : Prop := ∃ r, e = .returned (.bool r) ∧ PickRes Q cnt J Jx pre W r W'
def PickOK (l : Nat) (Q : Nat → Prop) (n₁ N : Nat) (G : List (List Int)) (J Jx : List Row → World → Prop) (k : Nat) : Prop :=
  ∀ (P L : List Int) (A B : Option Addr) (a b : Nat) (pre : List Row) (W : World), P.length + k ≤ 1000 → L.length ≤ 1000 → Sq Q W A P.length (P.map (Value.int .i64)) → P.length ≤ a → (A = none → P.length = 0) →
    Sq Q W B L.length (L.map (Value.int .i64)) → L.length ≤ b → b ≤ 9223372036854775807 → n₁ ≤ W.heap.size → (∀ i q, (combos k L)[i]? = some q → G[pre.length + i]? = some (P ++ q)) → pre.length + (combos k L).length ≤ N → J pre W →
    Calls Try.prog 40 #[.slice A P.length a, .slice B L.length b, .int .i64 (k : Int), .func (.yield l) #[] #[]] W (PickEnd Q (combos k L).length J Jx pre W)

set_option maxHeartbeats 16000000 in
theorem picks_step {l n₁ N : Nat} {Q : Nat → Prop} {G : List (List Int)} {J Jx : List Row → World → Prop} (hQ : ∀ k, n₁ ≤ k → Q k) (hJ : ∀ s A B, J s A → A.grownBy B none → J s B) {k : Nat} (ih : PickOK l Q n₁ N G J Jx k) : PickOK l Q n₁ N G J Jx (k + 1) := by
  intro P L A B a b pre W hPm hL1 hA hPa hA0 hB hmb hb63 hn1 hG hN hJ0
  obtain ⟨n, hn⟩ : ∃ n, n = L.length := ⟨_, rfl⟩
  rw [← hn] at hL1 hB hmb ⊢
  have HIH := Lib.hid ih
  have HJ := Lib.hid hJ
  have HQ := Lib.hid hQ
  have HA := Lib.hid hA
  have HA0 := Lib.hid hA0
  have HB := Lib.hid hB
  have HG := Lib.hid hG
  have HN := Lib.hid hN
  have HJ0 := Lib.hid hJ0
  have HL := Lib.hid hn.symm
  clear ih hJ hA hA0 hB hG hN hJ0 hn hQ
  rw [show ((k + 1 : Nat) : Int) = (k : Int) + 1 from by omega]
  go_enter Try.func40, Try.ntmps40
  have hm0 : ¬ (((k + 1 : Nat) : Int) = 0) := by omega
  have hm0' : (((k : Int) + 1) == 0) = false := by rw [beq_eq_false_iff_ne]; omega
  have hm0'' : ¬ ((k : Int) + 1 = 0) := by omega
  go_wp2_with fail
  go_loopw [9] (fun iv wr => ∃ (i : Nat) (ys : List Row), i ≤ n ∧ iv = .int .i64 (i : Int) ∧ ys.length + (combos (k + 1) (L.drop i)).length = (combos (k + 1) L).length ∧ (∀ j q, (combos (k + 1) (L.drop i))[j]? = some q → G[pre.length + ys.length + j]? = some (P ++ q)) ∧ J (pre ++ ys) wr ∧ Kept Q W wr) (fun iv _ => n - (intOf iv).toNat)
  case atStart => exact ⟨0, [], Nat.zero_le _, rfl, by simp, by simpa using HG.out, by rw [List.append_nil]; exact HJ0.out, Kept.refl _ _⟩
  case round =>
    obtain ⟨i, ys, hi, rfl, hys, hgy, hJi, hk⟩ := hrel
    have HYs := Lib.hid hys
    have HGy := Lib.hid hgy
    have HJi := Lib.hid hJi
    have HK := Lib.hid hk
    clear hys hJi hk hgy
    have hw1 : IntKind.i64.wrap ((i : Int) + ((k : Int) + 1)) = (i : Int) + ((k : Int) + 1) := by rw [IntKind.wrap_i64]; omega
    have hw2 : wrap64 ((i : Int) + ((k : Int) + 1)) = (i : Int) + ((k : Int) + 1) := by unfold wrap64; omega
    by_cases him : i + (k + 1) ≤ n
    · have him' : (i : Int) + ((k : Int) + 1) ≤ (n : Int) := by omega
      have hin : i < n := by omega
      obtain ⟨bb, off, rfl, _⟩ := HB.out.1.at_ (show 0 < n by omega)
      obtain ⟨x, hx⟩ : ∃ x, L[i]? = some x := ⟨_, List.getElem?_eq_getElem (by rw [HL.out]; exact hin)⟩
      have c1 := (HB.out.keep HK.out).1.again hin (show (L.map (Value.int .i64))[i]? = some (.int .i64 x) by rw [List.getElem?_map, hx]; rfl)
      have HX := Lib.hid hx
      clear hx
      go_upto_region 6 with (fail)
      have hwi : IntKind.i64.wrap ((i : Int) + 1) = ((i + 1 : Nat) : Int) := by rw [IntKind.wrap_i64]; omega
      have hwk : IntKind.i64.wrap ((k : Int) + 1 - 1) = (k : Int) := by rw [IntKind.wrap_i64]; omega
      have hwk' : IntKind.i64.wrap (k : Int) = (k : Int) := by rw [IntKind.wrap_i64]; omega
      have hmi : (n : Int) - ((i : Int) + 1) = ((n - (i + 1) : Nat) : Int) := by omega
      have hin' : (i : Int) < (n : Int) := by omega
      have hib : i ≤ b := by omega
      have hib' : (i : Int) ≤ (b : Int) := by omega
      have hle : i + 1 ≤ n := by omega
      have hle' : ((i + 1 : Nat) : Int) ≤ (n : Int) := by omega
      have hle5 : (0 : Int) ≤ (i : Int) + 1 := by omega
      have hle6 : (i : Int) + 1 ≤ (n : Int) := by omega
      have hle7 : (n : Int) ≤ (b : Int) := by omega
      have hPl : P.length ≤ 1000 := by omega
      obtain ⟨A2, hA2⟩ : ∃ A2 : Option Addr, A2 = if b = i + 1 then some ⟨bb, off, none⟩ else some ⟨bb, off + (i + 1), none⟩ := ⟨_, rfl⟩
      have HA2 := Lib.hid hA2
      have HTl := Lib.hid (show ∀ W2, Below wr.heap.size wr W2 → Sq Q W2 A2 (n - (i + 1)) ((L.drop (i + 1)).map (Value.int .i64)) from fun W2 hb2 => by
        have hS := (HB.out.keep HK.out).1.keep hb2
        refine ⟨?_, fun y hy => ?_⟩
        · rw [List.map_drop, HA2.out]
          by_cases hbi : b = i + 1
          · rw [if_pos hbi]
            obtain rfl : n = i + 1 := by omega
            rw [Nat.sub_self, List.drop_of_length_le (by rw [List.length_map, HL.out]; exact Nat.le_refl _)]
            exact Sl.nil _ _ _
          · rw [if_neg hbi]
            exact hS.drop hle
        · have h0 := HB.out.2 _ rfl
          rw [HA2.out] at hy
          by_cases hbi : b = i + 1
          · rw [if_pos hbi] at hy
            cases hy
            exact h0
          · rw [if_neg hbi] at hy
            cases hy
            exact h0)
      have HGo := Lib.hid (show ∀ (g27 c27 : Nat) (w27 : World), n₁ ≤ g27 → Below wr.heap.size wr w27 → Sl w27 1 (some ⟨g27, 0, none⟩) (P.length + 1) ((P ++ [x]).map (Value.int .i64)) → P.length + 1 ≤ c27 →
          Calls Try.prog 40 #[.slice (some ⟨g27, 0, none⟩) (P.length + 1) c27, .slice A2 (n - (i + 1)) (b - (i + 1)), .int .i64 (k : Int), .func (.yield l) #[] #[]] w27 (PickEnd Q (combos k (L.drop (i + 1))).length J Jx (pre ++ ys) w27) from fun g27 c27 w27 hg hb27 hs27 hc27 => by
        have hlen : (P ++ [x]).length = P.length + 1 := by simp
        have hlen2 : (L.drop (i + 1)).length = n - (i + 1) := by rw [List.length_drop, HL.out]
        have hca := combos_at k HX.out
        have h := HIH.out (P ++ [x]) (L.drop (i + 1)) (some ⟨g27, 0, none⟩) A2 c27 (b - (i + 1)) (pre ++ ys) w27 (by rw [hlen]; omega) (by rw [hlen2]; omega) (by rw [hlen]; exact ⟨hs27, fun y hy => by cases hy; exact HQ.out _ hg⟩) (by rw [hlen]; exact hc27) (fun h => by cases h) (by rw [hlen2]; exact HTl.out _ hb27) (by rw [hlen2]; omega) (by omega) (Nat.le_trans hn1 (Nat.le_trans HK.out.1 hb27.size)) (fun r q hq => ?_) ?_ (HJ.out _ _ _ HJi.out (gb_below hb27 none))
        · rw [hlen, hlen2] at h
          exact h
        · rw [List.length_append, List.append_assoc]
          refine HGy.out r (x :: q) ?_
          rw [hca]
          have hr := (List.getElem?_eq_some_iff.1 hq).1
          rw [List.getElem?_append_left (by rw [List.length_map]; exact hr), List.getElem?_map, hq]; rfl
        · have h1 := HYs.out
          have h2 := HN.out
          rw [hca, List.length_append, List.length_map] at h1
          rw [List.length_append]
          omega)
      have HD := Lib.hid (show Below wr.heap.size wr wr.drew from bel_drewN (Below.refl _ _) 1)
      have HOx := Lib.hid (show ∀ u ∈ [Value.int .i64 x], u.oneCell' = true from one_i64 [x])
      have HAr := Lib.hid (HA.out.keep HK.out).1
      have HNx := Lib.hid (show ∀ ys2 : List Row, ys2.length = (combos k (L.drop (i + 1))).length → (ys ++ ys2).length + (combos (k + 1) (L.drop (i + 1))).length = (combos (k + 1) L).length ∧ (∀ j q, (combos (k + 1) (L.drop (i + 1)))[j]? = some q → G[pre.length + (ys ++ ys2).length + j]? = some (P ++ q)) from fun ys2 h2 => by
        have hca := combos_at k HX.out
        have h1 := HYs.out
        rw [hca, List.length_append, List.length_map] at h1
        refine ⟨by rw [List.length_append]; omega, fun j q hq => ?_⟩
        have := HGy.out ((combos k (L.drop (i + 1))).length + j) q (by rw [hca, List.getElem?_append_right (by rw [List.length_map]; omega), List.length_map, Nat.add_sub_cancel_left]; exact hq)
        rw [List.length_append, h2]
        rw [← Nat.add_assoc] at this
        rw [← Nat.add_assoc (pre.length)]
        exact this)
      go_region_law (first
        | (go_simp; first
        | (go_at_call 49; refine (Clip_any A P.length a _ hPa).mono ?_; rintro e w2 ⟨rfl, rfl⟩)
        | (go_at_call 40
           try rw [← hA2]
           refine (HGo.out g27 c27 _ HG27.out (by first | exact HB27.out | exact bel_al HB27.out _) (by first | exact HS27.out | exact HS27.out.alloc _) HC27.out).mono ?_
           rintro e w9 ⟨r, rfl, hres⟩
           have HRes := Lib.hid hres
           clear hres))
        | (refine step_full elemInt (.tmp 25) (.tmp 30) rfl rfl (Sl.keep HAr.out (by first | exact bel_al HD.out _ | exact bel_al (bel_al HD.out _) _)) HA0.out (show Sl _ 1 (some ⟨_, _, none⟩) 1 [.int .i64 x] from by first | exact Sl.newAt _ [.int .i64 x] _ 1 rfl | exact (Sl.newAt _ [.int .i64 x] _ 1 rfl).alloc _ | exact Sl.newAt1 _ _ [.int .i64 x] _ 1 rfl) (by omega) rfl rfl HOx.out (by unfold lim; omega) (by unfold lim; omega) ?_
           intro v27 w27 hown27 hb27
           obtain ⟨g27, c27, rfl, hg27⟩ := own_form hown27 (by omega)
           have HB27 := Lib.hid (show Below wr.heap.size wr w27 from by first | exact (bel_al HD.out _).andThen hb27 | exact (bel_al (bel_al HD.out _) _).andThen hb27)
           have HG27 := Lib.hid (show n₁ ≤ g27 from Nat.le_trans hn1 (Nat.le_trans HK.out.1 (Nat.le_trans (by first | exact (bel_al HD.out _).size | exact (bel_al (bel_al HD.out _) _).size) hg27)))
           have HS27 := Lib.hid (show Sl w27 1 (some ⟨g27, 0, none⟩) (P.length + 1) ((P ++ [x]).map (Value.int .i64)) from by rw [List.map_append]; exact Sl.of_own hown27)
           have HC27 := Lib.hid (own_cap hown27).1
           clear hown27 hb27 hg27))
      all_goals (
        rcases HRes.out with ⟨rfl, ⟨ys2, hy2, hj2⟩, hk2⟩ | ⟨rfl, ys2, hy2, hy3, hj2⟩
        · have HY2 := Lib.hid (HNx.out ys2 hy2)
          have HJ2 := Lib.hid hj2
          have HK2 := Lib.hid hk2
          clear hy2 hj2 hk2
          try rw [← hA2]
          clear hA2
          go_wp2_with fail
          try go_big_round
          refine ⟨?_, ?_⟩
          · exact ⟨i + 1, ys ++ ys2, by omega, by go_num, HY2.out.1, HY2.out.2, by rw [← List.append_assoc]; exact HJ2.out, HK.out.trans ((Kept.of_below HB27.out).trans HK2.out)⟩
          · simp [intOf]; omega
        · have HJ2 := Lib.hid hj2
          have HY2 := Lib.hid (show 0 < (ys ++ ys2).length ∧ (ys ++ ys2).length ≤ (combos (k + 1) L).length from by
            have h1 := HYs.out
            rw [combos_at k HX.out, List.length_append, List.length_map] at h1
            rw [List.length_append]
            omega)
          clear hj2 hy2 hy3
          try rw [← hA2]
          clear hA2
          go_wp2_with fail
          go_ret
          exact ⟨false, rfl, .inr ⟨rfl, ys ++ ys2, HY2.out.1, HY2.out.2, by rw [← List.append_assoc]; exact HJ2.out⟩⟩)
    · have him' : ¬ (i : Int) + ((k : Int) + 1) ≤ (n : Int) := by omega
      have hnone := combos_short (L.drop i) (k + 1) (by rw [List.length_drop, HL.out]; omega)
      have HE := Lib.hid (show ys.length = (combos (k + 1) L).length by rw [← HYs.out, hnone]; simp)
      clear hnone
      go_wp2_with fail
      go_ret
      exact ⟨true, rfl, .inl ⟨rfl, ⟨ys, HE.out, HJi.out⟩, HK.out⟩⟩
end Go.Proofs.Ytakkdpnaoahpcaa
