/-
  perm.fill where something is left: by what it does where one less is left.
-/
import Derived.Test.YtakkdpnaoahpcaaDoorListS
import Derived.Test.YtakkdpnaoahpcaaDoorPermQ
import Derived.Test.YtakkdpnaoahpcaaDoorPermP
import Derived.Test.YtakkdpnaoahpcaaDoorRangeQ
import Derived.Deep.RegionLaw
import Derived.Deep.Cut
namespace Go.Proofs.YtakkdpnaoahpcaaDoor
open Go.RowKit
set_option maxRecDepth 100000
set_option linter.unusedVariables false

abbrev Row := Option Addr × Nat × List Int
/-- A round that goes on keeps the cells that lie at or beyond n₁. -/
def Kpp (n₁ : Nat) (W W' : World) : Prop := W.heap.size ≤ W'.heap.size ∧ ∀ k o, n₁ ≤ k → W.heap[k]? = some o → o.isCells = true → W'.heap[k]? = some o
theorem Kpp.refl (n₁ : Nat) (W : World) : Kpp n₁ W W := ⟨Nat.le_refl _, fun _ _ _ h _ => h⟩
theorem Kpp.trans {n₁ : Nat} {A B C : World} (h : Kpp n₁ A B) (k : Kpp n₁ B C) : Kpp n₁ A C := ⟨Nat.le_trans h.1 k.1, fun j o hj ho hc => k.2 j o hj (h.2 j o hj ho hc) hc⟩
theorem Kpp.of_below {n₁ : Nat} {W W' : World} (h : Below W.heap.size W W') : Kpp n₁ W W' := ⟨h.size, fun k o _ ho _ => (h.block k (Array.getElem?_eq_some_iff.1 ho).1).trans ho⟩
theorem Kpp.putObj {n₁ : Nat} {W : World} {l : Nat} {o : Obj} (o' : Obj) (hl : W.heap[l]? = some o) (ho : o.isCells = false) : Kpp n₁ W (W.putObj l o') :=
  ⟨(grownBy_putObj' W l o').size, fun k u _ hk hc => by
    by_cases e : k = l
    · subst e
      rw [hl] at hk
      cases hk
      rw [ho] at hc
      cases hc
    · exact (World.putObj_heap_other e).trans hk⟩
theorem Kpp.cell {n₁ : Nat} {W W' : World} (h : Kpp n₁ W W') {a : Addr} {u : Value} (hb : n₁ ≤ a.block) (hc : W.cell? a = some u) : W'.cell? a = some u := by
  have hc' := hc
  unfold World.cell? at hc'
  cases ho : W.heap[a.block]? with
  | none => simp [ho] at hc'
  | some o =>
    have hcell : o.isCells = true := by cases o <;> simp_all [Obj.isCells]
    exact (World.cell?_of_block ((h.2 _ _ hb ho hcell).trans ho.symm)).trans hc
theorem Sl.newAt1 (w : World) (o : Obj) (cs : List Value) (e : TypeId) (n : Nat) (hn : cs.length = n) : Sl ((w.alloc o).alloc (.cells cs.toArray e)) 1 (some ⟨w.heap.size + 1, 0, none⟩) n cs := by
  have h := Sl.newAt (w.alloc o) cs e n hn
  rw [World.size_alloc] at h
  exact h
/-- A slice that lies at or beyond n₁. -/
def Sn (n₁ : Nat) (W : World) (A : Option Addr) (n : Nat) (xs : List Value) : Prop := Sl W 1 A n xs ∧ ∀ x : Addr, A = some x → n₁ ≤ x.block
theorem Sn.keep {n₁ : Nat} {W W' : World} {A : Option Addr} {n : Nat} {xs : List Value} (h : Sn n₁ W A n xs) (hk : Kpp n₁ W W') : Sn n₁ W' A n xs :=
  ⟨⟨h.1.1, fun hn => by
    obtain ⟨b, off, rfl, h2⟩ := h.1.2 hn
    exact ⟨b, off, rfl, fun j v hj => hk.cell (a := ⟨b, off + j, none⟩) (show n₁ ≤ (⟨b, off, none⟩ : Addr).block from h.2 _ rfl) (h2 j v hj)⟩⟩, h.2⟩

/-- How fill ends: all have come, or a round has said 'no more'. -/
def FillRes (n₁ cnt : Nat) (J Jx : List Row → World → Prop) (pre : List Row) (W : World) (r : Bool) (W' : World) : Prop :=
  (r = true ∧ (∃ ys : List Row, ys.length = cnt ∧ J (pre ++ ys) W') ∧ Kpp n₁ W W') ∨ (r = false ∧ ∃ ys : List Row, Jx (pre ++ ys) W')
def FillEnd (n₁ cnt : Nat) (J Jx : List Row → World → Prop) (pre : List Row) (W : World) (e : Ending) (W' : World) : Prop := ∃ r, e = .returned (.bool r) ∧ FillRes n₁ cnt J Jx pre W r W'
def FillOK (l n₁ N : Nat) (G : List (List Int)) (J Jx : List Row → World → Prop) (m : Nat) : Prop :=
  ∀ (P L : List Int) (A B : Option Addr) (a b : Nat) (pre : List Row) (W : World), P.length + m ≤ 8 → L.length = m → Sn n₁ W A P.length (P.map (Value.int .i64)) → P.length ≤ a → (A = none → P.length = 0) →
    Sn n₁ W B m (L.map (Value.int .i64)) → m ≤ b → b ≤ 9223372036854775807 → n₁ ≤ W.heap.size → (∀ i q, (fills m L)[i]? = some q → G[pre.length + i]? = some (P ++ q)) → pre.length + fac m ≤ N → J pre W →
    Calls Tryd.prog 15 #[.slice A P.length a, .slice B m b, .func (.yield l) #[] #[]] W (FillEnd n₁ (fac m) J Jx pre W)

theorem fills_at {m i r : Nat} {L q : List Int} (hi : i ≤ m) (h : (fills m (L.eraseIdx i))[r]? = some q) : (fills (m + 1) L)[i * fac m + r]? = some (L.getD i 0 :: q) := by
  have hF := fac_pos m
  have hr : r < fac m := by
    have := (List.getElem?_eq_some_iff.1 h).1
    rwa [fills_len] at this
  have hlt : i * fac m + r < fac (m + 1) := by
    rw [fac]
    have : (i + 1) * fac m ≤ (m + 1) * fac m := Nat.mul_le_mul_right _ (by omega)
    rw [Nat.add_mul] at this
    omega
  rw [fills_get L hlt]
  rw [fills_get _ hr] at h
  have e1 : (i * fac m + r) / fac m = i := by rw [Nat.mul_comm, Nat.mul_add_div hF, Nat.div_eq_of_lt hr]; rfl
  have e2 : (i * fac m + r) % fac m = r := by rw [Nat.mul_comm, Nat.mul_add_mod, Nat.mod_eq_of_lt hr]
  rw [ofR, e1, e2, Option.some.inj h]

set_option maxHeartbeats 16000000 in
theorem fill_step {l n₁ N : Nat} {G : List (List Int)} {J Jx : List Row → World → Prop} (hJ : ∀ s A B, J s A → A.grownBy B none → J s B) {m : Nat} (ih : FillOK l n₁ N G J Jx m) : FillOK l n₁ N G J Jx (m + 1) := by
  intro P L A B a b pre W hPm hL hA hPa hA0 hB hmb hb63 hn1 hG hN hJ0
  have HIH := Lib.hid ih
  have HJ := Lib.hid hJ
  have HA := Lib.hid hA
  have HA0 := Lib.hid hA0
  have HB := Lib.hid hB
  have HG := Lib.hid hG
  have HN := Lib.hid hN
  have HJ0 := Lib.hid hJ0
  have HL := Lib.hid hL
  obtain ⟨bb, off, rfl, _⟩ := hB.1.at_ (show 0 < m + 1 by omega)
  clear ih hJ hA hA0 hB hG hN hJ0 hL
  go_enter Tryd.func15, Tryd.ntmps15
  have hm0 : ¬ (((m + 1 : Nat) : Int) = 0) := by omega
  have hm0' : (((m : Int) + 1) == 0) = false := by rw [beq_eq_false_iff_ne]; omega
  have hm0'' : ¬ ((m : Int) + 1 = 0) := by omega
  go_wp2_with fail
  go_loopw [18] (fun iv wr => ∃ (i : Nat) (ys : List Row), i ≤ m + 1 ∧ iv = .int .i64 (i : Int) ∧ ys.length = i * fac m ∧ J (pre ++ ys) wr ∧ Kpp n₁ W wr) (fun iv _ => m + 1 - (intOf iv).toNat)
  case atStart => exact ⟨0, [], Nat.zero_le _, rfl, by simp, by rw [List.append_nil]; exact HJ0.out, Kpp.refl _ _⟩
  case round =>
    obtain ⟨i, ys, hi, rfl, hys, hJi, hk⟩ := hrel
    have HYs := Lib.hid hys
    have HJi := Lib.hid hJi
    have HK := Lib.hid hk
    clear hys hJi hk
    by_cases him : i < m + 1
    · have him' : (i : Int) < ((m + 1 : Nat) : Int) := by omega
      have him2 : (i : Int) < (m : Int) + 1 := by omega
      obtain ⟨x, hx⟩ : ∃ x, L[i]? = some x := ⟨_, List.getElem?_eq_getElem (by rw [HL.out]; exact him)⟩
      have c1 := (HB.out.keep HK.out).1.again him (show (L.map (Value.int .i64))[i]? = some (.int .i64 x) by rw [List.getElem?_map, hx]; rfl)
      have HX := Lib.hid hx
      clear hx
      go_upto_region 6 with (fail)
      have hmi : (m : Int) + 1 - ((i : Int) + 1) = ((m - i : Nat) : Int) := by omega
      have hwi : IntKind.i64.wrap ((i : Int) + 1) = ((i + 1 : Nat) : Int) := by rw [IntKind.wrap_i64]; omega
      have hib : i ≤ b := by omega
      have hib' : (i : Int) ≤ (b : Int) := by omega
      have hle : i + 1 ≤ m + 1 := by omega
      have hle' : ((i + 1 : Nat) : Int) ≤ ((m + 1 : Nat) : Int) := by omega
      have hbm' : ((m + 1 : Nat) : Int) ≤ (b : Int) := by omega
      have hle3 : i ≤ m := by omega
      have hle4 : (i : Int) ≤ (m : Int) := by omega
      have hle5 : (0 : Int) ≤ (i : Int) + 1 := by omega
      have hle6 : (i : Int) + 1 ≤ (m : Int) + 1 := by omega
      have hle7 : (m : Int) + 1 ≤ (b : Int) := by omega
      have hPl : P.length ≤ 8 := by omega
      obtain ⟨A2, hA2⟩ : ∃ A2 : Option Addr, A2 = if b = i + 1 then some ⟨bb, off, none⟩ else some ⟨bb, off + (i + 1), none⟩ := ⟨_, rfl⟩
      have HA2 := Lib.hid hA2
      have HLr := Lib.hid (show [((some ⟨bb, off, none⟩ : Option Addr), b, L.take i), (A2, b - (i + 1), L.drop (i + 1))].map rv = [.slice (some ⟨bb, off, none⟩) i b, .slice A2 (m - i) (b - (i + 1))] by
        have h1 : (L.take i).length = i := by rw [List.length_take, HL.out]; omega
        have h2 : (L.drop (i + 1)).length = m - i := by rw [List.length_drop, HL.out]; omega
        simp only [List.map_cons, List.map_nil, rv, h1, h2])
      have HFl := Lib.hid (show flat [((some ⟨bb, off, none⟩ : Option Addr), b, L.take i), (A2, b - (i + 1), L.drop (i + 1))] = L.eraseIdx i by
        simp only [flat, List.flatMap_cons, List.flatMap_nil, List.append_nil]
        rw [List.eraseIdx_eq_take_drop_succ])
      have HEr := Lib.hid (show (L.eraseIdx i).length = m by rw [List.length_eraseIdx, if_pos (by rw [HL.out]; exact him), HL.out]; rfl)
      have HAll := Lib.hid (show ∀ W2, Below wr.heap.size wr W2 → AllRows W2 [((some ⟨bb, off, none⟩ : Option Addr), b, L.take i), (A2, b - (i + 1), L.drop (i + 1))] from fun W2 hb2 t ht => by
        have hS := (HB.out.keep HK.out).1.keep hb2
        have h1 : (L.take i).length = i := by rw [List.length_take, HL.out]; omega
        have h2 : (L.drop (i + 1)).length = m - i := by rw [List.length_drop, HL.out]; omega
        rcases List.mem_cons.1 ht with rfl | ht
        · refine ⟨?_, by show (L.take i).length ≤ b; omega, hb63⟩
          show Sl W2 1 _ (L.take i).length ((L.take i).map _)
          rw [h1, List.map_take]
          exact hS.take (by omega)
        · obtain rfl : t = (A2, b - (i + 1), L.drop (i + 1)) := by simpa using ht
          refine ⟨?_, by show (L.drop (i + 1)).length ≤ b - (i + 1); omega, by show b - (i + 1) ≤ _; omega⟩
          show Sl W2 1 A2 (L.drop (i + 1)).length ((L.drop (i + 1)).map _)
          rw [h2, List.map_drop, HA2.out]
          by_cases hbi : b = i + 1
          · rw [if_pos hbi]
            obtain rfl : i = m := by omega
            rw [Nat.sub_self, List.drop_of_length_le (by rw [List.length_map, HL.out]; exact Nat.le_refl _)]
            exact Sl.nil _ _ _
          · rw [if_neg hbi, show m - i = m + 1 - (i + 1) by omega]
            exact hS.drop (by omega))
      have HGo := Lib.hid (show ∀ (g27 c27 : Nat) (C : Option Addr) (c36 : Nat) (w36 : World), n₁ ≤ g27 → (∀ y : Addr, C = some y → n₁ ≤ y.block) → Below wr.heap.size wr w36 → Sl w36 1 (some ⟨g27, 0, none⟩) (P.length + 1) ((P ++ [x]).map (Value.int .i64)) → P.length + 1 ≤ c27 → Sl w36 1 C m ((L.eraseIdx i).map (Value.int .i64)) → m ≤ c36 → c36 ≤ 9223372036854775807 →
          Calls Tryd.prog 15 #[.slice (some ⟨g27, 0, none⟩) (P.length + 1) c27, .slice C m c36, .func (.yield l) #[] #[]] w36 (FillEnd n₁ (fac m) J Jx (pre ++ ys) w36) from fun g27 c27 C c36 w36 hg hC hb36 hs27 hc27 hs36 hc36 h63 => by
        have hlen : (P ++ [x]).length = P.length + 1 := by simp
        have h := HIH.out (P ++ [x]) (L.eraseIdx i) (some ⟨g27, 0, none⟩) C c27 c36 (pre ++ ys) w36 (by rw [hlen]; omega) HEr.out (by rw [hlen]; exact ⟨hs27, fun y hy => by cases hy; exact hg⟩) (by rw [hlen]; exact hc27) (fun h => by cases h) ⟨hs36, hC⟩ hc36 h63 (Nat.le_trans hn1 (Nat.le_trans HK.out.1 hb36.size)) (fun r q hq => ?_) ?_ (HJ.out _ _ _ HJi.out (gb_below hb36 none))
        · rw [hlen] at h
          exact h
        · rw [List.length_append, HYs.out, List.append_assoc, Nat.add_assoc]
          refine HG.out _ _ ?_
          have hd : L.getD i 0 = x := by rw [List.getD_eq_getElem?_getD, HX.out]; rfl
          have := fills_at (by omega) hq
          rw [hd] at this
          exact this
        · rw [List.length_append, HYs.out]
          have h1 : (i + 1) * fac m ≤ (m + 1) * fac m := Nat.mul_le_mul_right _ (by omega)
          rw [Nat.add_mul] at h1
          have h2 := HN.out
          rw [fac] at h2
          omega)
      have HD := Lib.hid (show Below wr.heap.size wr wr.drew from bel_drewN (Below.refl _ _) 1)
      have HOx := Lib.hid (show ∀ u ∈ [Value.int .i64 x], u.oneCell' = true from one_i64 [x])
      have HAr := Lib.hid (HA.out.keep HK.out).1
      go_region_law (first
        | (go_simp; first
        | (go_at_call 25; refine (Clip_any A P.length a _ hPa).mono ?_; rintro e w2 ⟨rfl, rfl⟩)
        | (go_at_call 26
           rw [← hA2]
           try rw [← hA2] at HB0
           refine (Concat_any [((some ⟨bb, off, none⟩ : Option Addr), b, L.take i), (A2, b - (i + 1), L.drop (i + 1))] _ 2 2 _ rfl (by omega) (by rw [HLr.out]; first | exact Sl.newAt _ [_, _] _ 2 rfl | exact (Sl.newAt1 _ _ [_, _] _ 2 rfl).drew.keep HB0.out | exact ((Sl.newAt _ [_, _] _ 2 rfl).alloc _).drew.keep HB0.out | exact (Sl.newAt _ [_, _] _ 2 rfl).drew.keep HB0.out) (HAll.out _ (by first | exact HB27.out | exact bel_al HB27.out _)) (by rw [HFl.out, HEr.out]; omega)).mono ?_
           rintro e w36 ⟨v36, rfl, hown36, hb36⟩
           rw [HFl.out, HEr.out] at hown36
           obtain ⟨C, c36, rfl, hs36⟩ := Sl.own hown36
           have HS36 := Lib.hid hs36
           have HC36 := Lib.hid (own_cap hown36)
           have HB36 := Lib.hid (show Below wr.heap.size wr w36 from by first | exact HB27.out.andThen hb36 | exact (bel_al HB27.out _).andThen hb36)
           have HG36 := Lib.hid (show ∀ y : Addr, C = some y → n₁ ≤ y.block from fun y hy => by subst hy; exact Nat.le_trans hn1 (Nat.le_trans HK.out.1 (Nat.le_trans (by first | exact HB27.out.size | exact (bel_al HB27.out _).size) (hown36.lt _ rfl).1)))
           have HS27' := Lib.hid (show Sl w36 1 (some ⟨g27, 0, none⟩) (P.length + 1) ((P ++ [x]).map (Value.int .i64)) from by rw [List.map_append]; first | exact HS27.out.keep hb36 | exact (HS27.out.alloc _).keep hb36)
           clear hown36 hs36 hb36)
        | (go_at_call 15
           refine (HGo.out g27 c27 C c36 _ HG27.out HG36.out HB36.out HS27'.out HC27.out HS36.out HC36.out.1 HC36.out.2).mono ?_
           rintro e w9 ⟨r, rfl, hres⟩
           have HRes := Lib.hid hres
           clear hres))
        | (refine step_full elemInt (.tmp 24) (.tmp 26) rfl rfl (Sl.keep HAr.out (by first | exact bel_al HD.out _ | exact bel_al (bel_al HD.out _) _)) HA0.out (show Sl _ 1 (some ⟨_, _, none⟩) 1 [.int .i64 x] from by first | exact Sl.newAt _ [.int .i64 x] _ 1 rfl | exact (Sl.newAt _ [.int .i64 x] _ 1 rfl).alloc _ | exact Sl.newAt1 _ _ [.int .i64 x] _ 1 rfl) (by omega) rfl rfl HOx.out (by unfold lim; omega) (by unfold lim; omega) ?_
           intro v27 w27 hown27 hb27
           obtain ⟨g27, c27, rfl, hg27⟩ := own_form hown27 (by omega)
           have HB0 := Lib.hid hb27
           have HB27 := Lib.hid (show Below wr.heap.size wr w27 from by first | exact (bel_al HD.out _).andThen hb27 | exact (bel_al (bel_al HD.out _) _).andThen hb27)
           have HG27 := Lib.hid (show n₁ ≤ g27 from Nat.le_trans hn1 (Nat.le_trans HK.out.1 (Nat.le_trans (by first | exact (bel_al HD.out _).size | exact (bel_al (bel_al HD.out _) _).size) hg27)))
           have HS27 := Lib.hid (Sl.of_own hown27)
           have HC27 := Lib.hid (own_cap hown27).1
           clear hown27 hb27 hg27))
      all_goals (
        rcases HRes.out with ⟨rfl, ⟨ys2, hy2, hj2⟩, hk2⟩ | ⟨rfl, ys2, hj2⟩
        · have HY2 := Lib.hid hy2
          have HJ2 := Lib.hid hj2
          have HK2 := Lib.hid hk2
          clear hy2 hj2 hk2
          try rw [← hA2]
          clear hA2
          go_wp2_with fail
          try go_big_round
          refine ⟨?_, ?_⟩
          · exact ⟨i + 1, ys ++ ys2, by omega, by go_num, by rw [List.length_append, HYs.out, HY2.out, Nat.add_mul]; omega, by rw [← List.append_assoc]; exact HJ2.out, HK.out.trans ((Kpp.of_below HB36.out).trans HK2.out)⟩
          · simp [intOf]; omega
        · have HJ2 := Lib.hid hj2
          clear hj2
          try rw [← hA2]
          clear hA2
          go_wp2_with fail
          go_ret
          exact ⟨false, rfl, .inr ⟨rfl, ys ++ ys2, by rw [← List.append_assoc]; exact HJ2.out⟩⟩)
    · obtain rfl : i = m + 1 := by omega
      have him' : ¬ ((m + 1 : Nat) : Int) < ((m + 1 : Nat) : Int) := by omega
      have him2 : ¬ ((m + 1 : Nat) : Int) < (m : Int) + 1 := by omega
      go_wp2_with fail
      go_ret
      exact ⟨true, rfl, .inl ⟨rfl, ⟨ys, HYs.out, HJi.out⟩, HK.out⟩⟩
end Go.Proofs.YtakkdpnaoahpcaaDoor
