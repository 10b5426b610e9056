/-
  Part 11 of the proof of LoadMore: WireI, WrK, WireM.
-/
import Derived.Test.YtbbmgcdocolakaaGreatDoorLoadMoreM10
import Derived.Test.YtbbmgcdocolakaaGreatDoorLoadMoreM8
import Derived.Test.YtbbmgcdocolakaaGreatDoorLoadMoreM2
import Derived.Test.YtbbmgcdocolakaaGreatDoorLoadMoreM9
set_option linter.unusedVariables false
/-
  Contract of the document's Put.
-/
namespace Go.Proofs.YtbbmgcdocolakaaGreatDoor
open Go.RowKit
set_option maxRecDepth 100000
set_option linter.unusedVariables false

/-- The place of the first number that can't be, or -1. -/
def badE : Err → Int
  | .flt _ a _ => a
  | _ => -1
/-- An error of a writer. -/
def WE (E : Err) : Prop := E = .nil ∨ ∃ a : Nat, a ≤ 1000000 ∧ E = .flt 3 a txtNumber
theorem WE.pNum {z : Int} {st : St} (h : WE st.2) (hl : st.1.length ≤ 1000000) : WE (pNum z st).2 := by
  unfold Go.Proofs.YtbbmgcdocolakaaGreatDoor.pNum
  split
  · exact h
  · rcases h with h | ⟨a, ha, h⟩
    · rw [h]; exact .inr ⟨_, hl, rfl⟩
    · rw [h]; exact .inr ⟨a, ha, rfl⟩
theorem WE.pNums : ∀ {l : List Int} {st : St}, WE st.2 → st.1.length + 4 * l.length ≤ 1000000 → WE (pNums l st).2
  | [], _, h, _ => h
  | z :: l, st, h, hl => by
    rw [List.length_cons] at hl
    rw [Go.Proofs.YtbbmgcdocolakaaGreatDoor.pNums]
    exact WE.pNums (h.pNum (by omega)) (by rw [pNum_len]; omega)
theorem WE.pItem {x : Item} {st : St} (h : WE st.2) (hn : near x) (hl : st.1.length ≤ 900000) : WE (pItem x st).2 := by
  obtain ⟨h1, h2, _⟩ := hn
  unfold Go.Proofs.YtbbmgcdocolakaaGreatDoor.pItem
  split
  · exact h.pNum (by omega)
  split
  · exact h
  split
  · exact h.pNum (by omega)
  · rw [pList]; exact (h.pNum (by omega)).pNums (by rw [pNum_len]; omega)
theorem WE.pItems : ∀ {l : List Item} {st : St}, WE st.2 → (∀ x ∈ l, near x) → st.1.length + 500 * l.length ≤ 900000 → WE (pItems l st).2
  | [], _, h, _, _ => h
  | x :: l, st, h, hn, hl => by
    rw [List.length_cons] at hl
    have h1 := pItem_len (hn x (List.mem_cons_self ..)) st
    rw [Go.Proofs.YtbbmgcdocolakaaGreatDoor.pItems]
    exact WE.pItems (h.pItem (hn x (List.mem_cons_self ..)) (by omega)) (fun y hy => hn y (List.mem_cons_of_mem _ hy)) (by omega)
theorem badE_nil {E : Err} (h : WE E) : badE E < 0 ↔ E = .nil := by
  rcases h with rfl | ⟨a, _, rfl⟩
  · simp [badE]
  · simp only [badE]
    constructor
    · intro h; omega
    · intro h; cases h

theorem Fits_any (z : Int) (hz : -9223372036854775808 ≤ z ∧ z ≤ 9223372036854775807) (w : World) :
    Calls Tryz.prog 51 #[.int .i64 z] w fun e w' => e = .returned (.bool (decide (fits z))) ∧ w = w' := by
  go_enter Tryz.func51, Tryz.ntmps51
  by_cases h0 : 0 ≤ z
  · by_cases h1 : z ≤ 4294967295
    · have HX := Lib.hid (show fits z from ⟨h0, h1⟩)
      go_wp2_with fail
      go_ret
      exact ⟨ret_bool (by rw [decide_eq_true HX.out]), rfl⟩
    · have HX := Lib.hid (show ¬ fits z from fun h => h1 h.2)
      go_wp2_with fail
      go_ret
      exact ⟨ret_bool (by rw [decide_eq_false HX.out]), rfl⟩
  · have HX := Lib.hid (show ¬ fits z from fun h => h0 h.1)
    go_wp2_with fail
    go_ret
    exact ⟨ret_bool (by rw [decide_eq_false HX.out]), rfl⟩
set_option maxHeartbeats 8000000 in
theorem Put_ref (xs : List Item) (A : Option Addr) (n c : Nat) (w : World) (hI : Its w A n xs) (hN : Near xs) :
    Calls Tryz.prog 21 #[.slice A n c] w fun e w' => ∃ C k, e = .returned (.tuple #[.slice C (pItems xs ([], .nil)).1.length k, .int .i64 (badE (pItems xs ([], .nil)).2)]) ∧ Sl w' 1 C (pItems xs ([], .nil)).1.length ((pItems xs ([], .nil)).1.map (Value.int .u8)) ∧ Below w.heap.size w w' := by
  have HI := Lib.hid hI
  have hlen := hI.1
  have hn40 : n ≤ 40 := by have := hN.1; omega
  have HN := Lib.hid hN
  clear hI hN
  go_enter Tryz.func21, Tryz.ntmps21
  go_wp2_with fail
  go_loopw [4, 5, 6] (fun bv dv iv wr => ∃ (i : Nat) (st : St), i ≤ n ∧ iv = .int .i64 i ∧ Hid (st = pItems (xs.take i) ([], .nil)) ∧ dv = .int .i64 (badE st.2) ∧ wr.ownsRow w.heap.size 5 1 bv st.1.length (st.1.map (Value.int .u8)) ∧ Below w.heap.size w wr) (fun _ _ iv _ => n - (intOf iv).toNat)
  case atStart => exact ⟨0, ([], .nil), Nat.zero_le _, rfl, rfl, rfl, World.ownsRow_nil _ _ _ _, Below.refl _ _⟩
  case round =>
    obtain ⟨i, st, hi, rfl, HST0, rfl, hown, hb⟩ := hrel
    obtain ⟨A4, c4, rfl, _⟩ := Sl.own hown
    have HO := Lib.hid hown
    have HB := Lib.hid hb
    by_cases hlt : i < n
    · have hj : i < xs.length := by omega
      obtain ⟨hok, b, off, LA, lc, rfl, d0, d1, d2, d3, hsl, _, _⟩ := HI.out.2 i xs[i] (List.getElem?_eq_getElem hj)
      have hck : ∀ {p : Addr} {v : Value}, w.cell? p = some v → wr.cell? p = some v := fun hp => (hb.cell (World.block_lt_of_cell? w _ hp)).trans hp
      have HCK := Lib.hid (fun W (hW : Below w.heap.size w W) => (show ∀ (p : Addr) (v : Value), w.cell? p = some v → W.cell? p = some v from fun _ _ hp => (hW.cell (World.block_lt_of_cell? w _ hp)).trans hp))
      have c0 := hck d0
      have c1 := hck d1
      have c2 := hck d2
      have c3 := hck d3
      have HD2 := Lib.hid d2
      have HD3 := Lib.hid d3
      clear hck d0 d1 d2 d3
      have HT := Lib.hid (List.take_succ_eq_append_getElem hj)
      have hnr := HN.out.2 _ (List.getElem_mem hj)
      have hbl := pItems_len (l := xs.take i) (fun x hx => HN.out.2 x (List.mem_of_mem_take hx)) ([], .nil)
      have hwe := WE.pItems (l := xs.take i) (st := ([], .nil)) (.inl rfl) (fun x hx => HN.out.2 x (List.mem_of_mem_take hx)) (by rw [List.length_take]; simp only [List.length_nil]; omega)
      rw [List.length_take] at hbl
      simp only [List.length_nil] at hbl
      rw [← HST0.out] at hbl hwe
      have HWE := Lib.hid hwe
      generalize xs[i] = x at *
      obtain ⟨k1, k2, k3, k4, k5⟩ := hok
      obtain ⟨n1, n2, n3, n4⟩ := hnr
      have HS := Lib.hid hsl
      have HK5 := Lib.hid k5
      have hbl2 : st.1.length ≤ 20000 := by omega
      clear hsl k5 hown hb hwe hbl
      by_cases e0 : x.kind = 0
      · have HE := Lib.hid (show pItem x st = pNum x.n st by rw [pItem, if_pos e0])
        have e0' : (x.kind == 0) = true := by simpa using e0
        clear e0
        go_wp2_with fail
        refine (Fits_any x.n k2 wr).mono ?_
        rintro e w0 ⟨rfl, rfl⟩
        by_cases hf : fits x.n
        · rw [decide_eq_true hf]
          obtain ⟨k, hk⟩ := Int.eq_ofNat_of_zero_le hf.1
          have hk2 : k < 4294967296 := by have := hf.2; omega
          have HST := Lib.hid (show pNum x.n st = (st.1 ++ wordL k, st.2) by rw [pNum, if_pos hf, hk]; rfl)
          clear hf
          go_wp2_with fail
          refine (RefWord_any k hk2 wr).mono ?_
          rintro e w2 ⟨A2, c2, rfl, hs2, hb2⟩
          have HO2 := Lib.hid (own_below HO.out (fun g hg => (HO.out.lt g hg).2) hb2)
          have HB2 := Lib.hid (HB.out.andThen hb2)
          have HS2 := Lib.hid hs2
          clear hs2 hb2
          go_wp2_with (at_builtin; refine wpList_cat_at elemByte _ _ rfl rfl HO2.out HB2.out.size HS2.out rfl rfl (one_u8 _) (by unfold lim; omega) (by unfold lim; omega) ?_; intro v3 w3 hown3 hg3; have HO3 := Lib.hid hown3; have HB3 := Lib.hid (HB2.out.trans (hg3.belowOwn HB2.out.size HO2.out)); clear hown3 hg3)
          go_roundw
          case rel => exact ⟨i + 1, pItem x st, by omega, by go_num, by show _ = _; rw [HT.out, pItems_snoc, HST0.out], by rw [HE.out, HST.out] <;> first | rfl | (rw [HBD.out]), by rw [HE.out, HST.out, List.length_append, wordL_len, List.map_append]; exact HO3.out, HB3.out⟩
          case measure => simp [intOf]; omega
        · rw [decide_eq_false hf]
          by_cases hE : st.2 = .nil
          · have HST := Lib.hid (show pNum x.n st = (st.1 ++ wordL 0, .flt 3 st.1.length txtNumber) by rw [pNum, if_neg hf, hE]; rfl)
            have hbd : badE st.2 = -1 := by rw [hE]; rfl
            clear hf hE
            go_wp2_with fail
            refine (RefWord_any 0 (by omega) wr).mono ?_
            rintro e w2 ⟨A2, c2, rfl, hs2, hb2⟩
            have HO2 := Lib.hid (own_below HO.out (fun g hg => (HO.out.lt g hg).2) hb2)
            have HB2 := Lib.hid (HB.out.andThen hb2)
            have HS2 := Lib.hid hs2
            clear hs2 hb2
            go_wp2_with (at_builtin; refine wpList_cat_at elemByte _ _ rfl rfl HO2.out HB2.out.size HS2.out rfl rfl (one_u8 _) (by unfold lim; omega) (by unfold lim; omega) ?_; intro v3 w3 hown3 hg3; have HO3 := Lib.hid hown3; have HB3 := Lib.hid (HB2.out.trans (hg3.belowOwn HB2.out.size HO2.out)); clear hown3 hg3)
            go_roundw
            case rel => exact ⟨i + 1, pItem x st, by omega, by go_num, by show _ = _; rw [HT.out, pItems_snoc, HST0.out], by rw [HE.out, HST.out] <;> first | rfl | (rw [HBD.out]), by rw [HE.out, HST.out, List.length_append, wordL_len, List.map_append]; exact HO3.out, HB3.out⟩
            case measure => simp [intOf]; omega
          · obtain ⟨a, ha, hE'⟩ := HWE.out.resolve_left hE
            have HST := Lib.hid (show pNum x.n st = (st.1 ++ wordL 0, st.2) by rw [pNum, if_neg hf, hE']; rfl)
            have hbd : badE st.2 = a := by rw [hE']; rfl
            have HBD := Lib.hid hbd
            clear hf hE hE'
            go_wp2_with fail
            refine (RefWord_any 0 (by omega) wr).mono ?_
            rintro e w2 ⟨A2, c2, rfl, hs2, hb2⟩
            have HO2 := Lib.hid (own_below HO.out (fun g hg => (HO.out.lt g hg).2) hb2)
            have HB2 := Lib.hid (HB.out.andThen hb2)
            have HS2 := Lib.hid hs2
            clear hs2 hb2
            go_wp2_with (at_builtin; refine wpList_cat_at elemByte _ _ rfl rfl HO2.out HB2.out.size HS2.out rfl rfl (one_u8 _) (by unfold lim; omega) (by unfold lim; omega) ?_; intro v3 w3 hown3 hg3; have HO3 := Lib.hid hown3; have HB3 := Lib.hid (HB2.out.trans (hg3.belowOwn HB2.out.size HO2.out)); clear hown3 hg3)
            go_roundw
            case rel => exact ⟨i + 1, pItem x st, by omega, by go_num, by show _ = _; rw [HT.out, pItems_snoc, HST0.out], by rw [HE.out, HST.out] <;> first | rfl | (rw [HBD.out]), by rw [HE.out, HST.out, List.length_append, wordL_len, List.map_append]; exact HO3.out, HB3.out⟩
            case measure => simp [intOf]; omega
      · have e0' : (x.kind == 0) = false := by simpa using e0
        by_cases e1 : x.kind = 1
        · have HE := Lib.hid (show pItem x st = pLong x.n st by rw [pItem, if_neg e0, if_pos e1])
          have e1' : (x.kind == 1) = true := by simpa using e1
          have hh : x.n % 18446744073709551616 / 4294967296 = (hiN x.n : Int) := by unfold hiN; omega
          have hu : IntKind.u64.wrap x.n = x.n % 18446744073709551616 := IntKind.wrap_u64 x.n
          have hlo : x.n % 18446744073709551616 % 4294967296 = (loN x.n : Int) := by unfold loN; omega
          have hl1 := hiN_lt x.n
          have hl2 := loN_lt x.n
          clear e0 e1
          go_wp2_with fail
          refine (RefWord_any (hiN x.n) hl1 wr).mono ?_
          rintro e w2 ⟨A2, c2, rfl, hs2, hb2⟩
          have HO2 := Lib.hid (own_below HO.out (fun g hg => (HO.out.lt g hg).2) hb2)
          have HB2 := Lib.hid (HB.out.andThen hb2)
          have HS2 := Lib.hid hs2
          clear hs2 hb2
          go_wp2_with (at_builtin; refine wpList_cat_at elemByte _ _ rfl rfl HO2.out HB2.out.size HS2.out rfl rfl (one_u8 _) (by unfold lim; omega) (by unfold lim; omega) ?_; intro v3 w3 hown3 hg3; have HO3 := Lib.hid hown3; have HB3 := Lib.hid (HB2.out.trans (hg3.belowOwn HB2.out.size HO2.out)); clear hown3 hg3)
          obtain ⟨A3, c3', rfl, _⟩ := Sl.own HO3.out
          refine (RefWord_any (loN x.n) hl2 w3).mono ?_
          rintro e w4 ⟨A4, c4, rfl, hs4, hb4⟩
          have HO4 := Lib.hid (own_below HO3.out (fun g hg => (HO3.out.lt g hg).2) hb4)
          have HB4 := Lib.hid (HB3.out.andThen hb4)
          have HS4 := Lib.hid hs4
          clear hs4 hb4
          go_wp2_with (at_builtin; refine wpList_cat_at elemByte _ _ rfl rfl HO4.out HB4.out.size HS4.out rfl rfl (one_u8 _) (by unfold lim; omega) (by unfold lim; omega) ?_; intro v5 w5 hown5 hg5; have HO5 := Lib.hid hown5; have HB5 := Lib.hid (HB4.out.trans (hg5.belowOwn HB4.out.size HO4.out)); clear hown5 hg5)
          go_roundw
          case rel => exact ⟨i + 1, pItem x st, by omega, by go_num, by show _ = _; rw [HT.out, pItems_snoc, HST0.out], by rw [HE.out]; rfl, by rw [HE.out, pLong, List.length_append, List.length_append, wordL_len, wordL_len, List.map_append, List.map_append]; exact HO5.out, HB5.out⟩
          case measure => simp [intOf]; omega
        · have e1' : (x.kind == 1) = false := by simpa using e1
          by_cases e2 : x.kind = 2
          · have HE := Lib.hid (show pItem x st = (st.1 ++ wordL x.s.size ++ sB x.s, st.2) by
              have hfit : fits (x.s.size : Int) := ⟨by omega, by omega⟩
              rw [pItem, if_neg e0, if_neg e1, if_pos e2, pText, pNum, if_pos hfit]; rfl)
            have e2' : (x.kind == 2) = true := by simpa using e2
            clear e0 e1 e2
            go_wp2_with fail
            refine (RefWord_any x.s.size (by omega) wr).mono ?_
            rintro e w2 ⟨A2, c2, rfl, hs2, hb2⟩
            have HO2 := Lib.hid (own_below HO.out (fun g hg => (HO.out.lt g hg).2) hb2)
            have HB2 := Lib.hid (HB.out.andThen hb2)
            have HS2 := Lib.hid hs2
            clear hs2 hb2
            have c2b := HCK.out w2 HB2.out _ _ HD2.out
            go_wp2_with (first
              | (at_builtin; refine wpList_cat_lies elemByte _ _ rfl rfl HO2.out HB2.out.size HS2.out (by omega) rfl rfl (one_u8 _) (by unfold lim; omega) (by unfold lim; omega) ?_; intro g3 q3 w3 hown3 hg3; have HO3 := Lib.hid hown3; have HB3 := Lib.hid (HB2.out.trans (hg3.belowOwn HB2.out.size HO2.out)); have c2d := HCK.out w3 HB3.out _ _ HD2.out; clear hown3 hg3 HO2 HB2)
              | (at_builtin; refine wpList_str_lies elemByte Tryz.underlying9 _ _ rfl rfl (l := st.1 ++ wordL x.s.size) (by rw [List.map_append]; exact HO3.out) HB3.out.size (s := x.s) (by omega) rfl rfl (by unfold lim; omega) ?_; intro g4 q4 w4 hown4 hg4; have HO4 := Lib.hid hown4; have HB4 := Lib.hid (HB3.out.grown hg4 HB3.out.size (fun k hk => (HO3.out.lt k hk).1)); clear hown4 hg4 HO3 HB3))
            go_roundw
            case rel => exact ⟨i + 1, pItem x st, by omega, by go_num, by show _ = _; rw [HT.out, pItems_snoc, HST0.out], by rw [HE.out], by rw [HE.out, List.length_append, List.length_append, wordL_len, sB_len]; exact HO4.out, HB4.out⟩
            case measure => simp [intOf]; omega
          · have e2' : (x.kind == 2) = false := by simpa using e2
            have e3' : (x.kind == 3) = true := by simp; omega
            have hfit : fits (x.l.length : Int) := ⟨by omega, by omega⟩
            have HE := Lib.hid (show pItem x st = pNums x.l (st.1 ++ wordL x.l.length, st.2) by
              rw [pItem, if_neg e0, if_neg e1, if_neg e2, pList, pNum, if_pos hfit]; rfl)
            clear e0 e1 e2 hfit
            go_wp2_with fail
            refine (RefWord_any x.l.length (by omega) wr).mono ?_
            rintro e w2 ⟨A2, c2, rfl, hs2, hb2⟩
            have HO2 := Lib.hid (own_below HO.out (fun g hg => (HO.out.lt g hg).2) hb2)
            have HB2 := Lib.hid (HB.out.andThen hb2)
            have HS2 := Lib.hid hs2
            clear hs2 hb2
            go_wp2_with (at_builtin; refine wpList_cat_at elemByte _ _ rfl rfl HO2.out HB2.out.size HS2.out rfl rfl (one_u8 _) (by unfold lim; omega) (by unfold lim; omega) ?_; intro v3 w3 hown3 hg3; have HO3 := Lib.hid hown3; have HB3 := Lib.hid (HB2.out.trans (hg3.belowOwn HB2.out.size HO2.out)); clear hown3 hg3)
            have hm2 : (st.1 ++ wordL x.l.length).length = st.1.length + 4 := by rw [List.length_append, wordL_len]
            have HM2 := Lib.hid hm2
            clear hm2
            go_loopw [4, 5, 9] (fun bv dv jv wq => ∃ (j : Nat) (sj : St), j ≤ x.l.length ∧ jv = .int .i64 j ∧ Hid (sj = pNums (x.l.take j) (st.1 ++ wordL x.l.length, st.2)) ∧ dv = .int .i64 (badE sj.2) ∧ wq.ownsRow w.heap.size 5 1 bv sj.1.length (sj.1.map (Value.int .u8)) ∧ Below w.heap.size w wq) (fun _ _ jv _ => x.l.length - (intOf jv).toNat)
            case atStart => exact ⟨0, (st.1 ++ wordL x.l.length, st.2), Nat.zero_le _, rfl, rfl, rfl, by rw [HM2.out, List.map_append]; exact HO3.out, HB3.out⟩
            case round =>
              obtain ⟨j, sj, hj2, rfl, HSJ, rfl, hown, hb⟩ := hrel
              obtain ⟨A5, c5, rfl, _⟩ := Sl.own hown
              have HO := Lib.hid hown
              have HB := Lib.hid hb
              have c3e := HCK.out wr hb _ _ HD3.out
              by_cases hlt2 : j < x.l.length
              · obtain ⟨b6, off6, u6', rfl, e6, c6⟩ := (HS.out.keep hb).one hlt2
                rw [List.getElem?_map, List.getElem?_eq_getElem hlt2] at e6
                obtain rfl := Option.some.inj e6
                have HTJ := Lib.hid (List.take_succ_eq_append_getElem hlt2)
                have hz := HK5.out _ (List.getElem_mem hlt2)
                have hlen2 := pNums_len (x.l.take j) (st.1 ++ wordL x.l.length, st.2)
                have hwe2 := WE.pNums (l := x.l.take j) (st := (st.1 ++ wordL x.l.length, st.2)) HWE.out (by rw [HM2.out, List.length_take]; omega)
                simp only [HM2.out] at hlen2
                rw [List.length_take] at hlen2
                rw [← HSJ.out] at hlen2 hwe2
                have HWE := Lib.hid hwe2
                generalize x.l[j] = z at *
                have hsl2 : sj.1.length ≤ 30000 := by omega
                clear e6 hown hb hlen2 hwe2
                go_wp2_with fail
                refine (Fits_any z hz wr).mono ?_
                rintro e w0 ⟨rfl, rfl⟩
                by_cases hf : fits z
                · rw [decide_eq_true hf]
                  obtain ⟨k, hk⟩ := Int.eq_ofNat_of_zero_le hf.1
                  have hk2 : k < 4294967296 := by have := hf.2; omega
                  have HST := Lib.hid (show pNum z sj = (sj.1 ++ wordL k, sj.2) by rw [pNum, if_pos hf, hk]; rfl)
                  clear hf
                  go_wp2_with fail
                  refine (RefWord_any k hk2 wr).mono ?_
                  rintro e w2 ⟨A2, c2, rfl, hs2, hb2⟩
                  have HO2 := Lib.hid (own_below HO.out (fun g hg => (HO.out.lt g hg).2) hb2)
                  have HB2 := Lib.hid (HB.out.andThen hb2)
                  have HS2 := Lib.hid hs2
                  clear hs2 hb2
                  go_wp2_with (at_builtin; refine wpList_cat_at elemByte _ _ rfl rfl HO2.out HB2.out.size HS2.out rfl rfl (one_u8 _) (by unfold lim; omega) (by unfold lim; omega) ?_; intro v3 w3 hown3 hg3; have HO3 := Lib.hid hown3; have HB3 := Lib.hid (HB2.out.trans (hg3.belowOwn HB2.out.size HO2.out)); clear hown3 hg3)
                  go_roundw
                  case rel => exact ⟨j + 1, pNum z sj, by omega, by go_num, by show _ = _; rw [HTJ.out, pNums_snoc, HSJ.out], by rw [HST.out] <;> first | rfl | (rw [HBD.out]), by rw [HST.out, List.length_append, wordL_len, List.map_append]; exact HO3.out, HB3.out⟩
                  case measure => simp [intOf]; omega
                · rw [decide_eq_false hf]
                  by_cases hE : sj.2 = .nil
                  · have HST := Lib.hid (show pNum z sj = (sj.1 ++ wordL 0, .flt 3 sj.1.length txtNumber) by rw [pNum, if_neg hf, hE]; rfl)
                    have hbd : badE sj.2 = -1 := by rw [hE]; rfl
                    clear hf hE
                    go_wp2_with fail
                    refine (RefWord_any 0 (by omega) wr).mono ?_
                    rintro e w2 ⟨A2, c2, rfl, hs2, hb2⟩
                    have HO2 := Lib.hid (own_below HO.out (fun g hg => (HO.out.lt g hg).2) hb2)
                    have HB2 := Lib.hid (HB.out.andThen hb2)
                    have HS2 := Lib.hid hs2
                    clear hs2 hb2
                    go_wp2_with (at_builtin; refine wpList_cat_at elemByte _ _ rfl rfl HO2.out HB2.out.size HS2.out rfl rfl (one_u8 _) (by unfold lim; omega) (by unfold lim; omega) ?_; intro v3 w3 hown3 hg3; have HO3 := Lib.hid hown3; have HB3 := Lib.hid (HB2.out.trans (hg3.belowOwn HB2.out.size HO2.out)); clear hown3 hg3)
                    go_roundw
                    case rel => exact ⟨j + 1, pNum z sj, by omega, by go_num, by show _ = _; rw [HTJ.out, pNums_snoc, HSJ.out], by rw [HST.out] <;> first | rfl | (rw [HBD.out]), by rw [HST.out, List.length_append, wordL_len, List.map_append]; exact HO3.out, HB3.out⟩
                    case measure => simp [intOf]; omega
                  · obtain ⟨a, ha, hE'⟩ := HWE.out.resolve_left hE
                    have HST := Lib.hid (show pNum z sj = (sj.1 ++ wordL 0, sj.2) by rw [pNum, if_neg hf, hE']; rfl)
                    have hbd : badE sj.2 = a := by rw [hE']; rfl
                    have HBD := Lib.hid hbd
                    clear hf hE hE'
                    go_wp2_with fail
                    refine (RefWord_any 0 (by omega) wr).mono ?_
                    rintro e w2 ⟨A2, c2, rfl, hs2, hb2⟩
                    have HO2 := Lib.hid (own_below HO.out (fun g hg => (HO.out.lt g hg).2) hb2)
                    have HB2 := Lib.hid (HB.out.andThen hb2)
                    have HS2 := Lib.hid hs2
                    clear hs2 hb2
                    go_wp2_with (at_builtin; refine wpList_cat_at elemByte _ _ rfl rfl HO2.out HB2.out.size HS2.out rfl rfl (one_u8 _) (by unfold lim; omega) (by unfold lim; omega) ?_; intro v3 w3 hown3 hg3; have HO3 := Lib.hid hown3; have HB3 := Lib.hid (HB2.out.trans (hg3.belowOwn HB2.out.size HO2.out)); clear hown3 hg3)
                    go_roundw
                    case rel => exact ⟨j + 1, pNum z sj, by omega, by go_num, by show _ = _; rw [HTJ.out, pNums_snoc, HSJ.out], by rw [HST.out] <;> first | rfl | (rw [HBD.out]), by rw [HST.out, List.length_append, wordL_len, List.map_append]; exact HO3.out, HB3.out⟩
                    case measure => simp [intOf]; omega
              · obtain rfl : j = x.l.length := by omega
                rw [List.take_of_length_le (Nat.le_refl _)] at HSJ
                clear hown
                go_wp2_with fail
                go_roundw
                case rel => exact ⟨i + 1, pItem x st, by omega, by go_num, by show _ = _; rw [HT.out, pItems_snoc, HST0.out], by rw [HE.out, HSJ.out], by rw [HE.out, ← HSJ.out]; exact HO.out, HB.out⟩
                case measure => simp [intOf]; omega
    · obtain rfl : i = n := by omega
      rw [List.take_of_length_le (by omega)] at HST0
      have HX := Lib.hid (Sl.of_own HO.out)
      clear hown
      go_wp2_with fail
      go_ret2
      exact ⟨A4, c4, by rw [← HST0.out]; rfl, by rw [← HST0.out]; exact HX.out, HB.out⟩
end Go.Proofs.YtbbmgcdocolakaaGreatDoor
/-
  Contracts of wire.Writer: Num, List where all fits: rows of other cells are left be.
-/
namespace Go.Proofs.YtbbmgcdocolakaaGreatDoor
open Go.RowKit
set_option maxRecDepth 100000
set_option linter.unusedVariables false

/-- All is left be but cells of bytes and of writers. -/
def okO (o : Obj) : Prop := ∀ cs t fr, o = .cells cs t fr → t ≠ 5 ∧ t ≠ 90
def WkT (w w' : World) : Prop := w.heap.size ≤ w'.heap.size ∧ ∀ (k : Nat) (o : Obj), okO o → w.heap[k]? = some o → w'.heap[k]? = some o
theorem WkT.refl (w : World) : WkT w w := ⟨Nat.le_refl _, fun _ _ _ h => h⟩
theorem WkT.trans {a b c : World} (h : WkT a b) (k : WkT b c) : WkT a c := ⟨Nat.le_trans h.1 k.1, fun i o ho hi => k.2 i o ho (h.2 i o ho hi)⟩
theorem WkT.of {w w' : World} (h : Below w.heap.size w w') : WkT w w' := ⟨h.size, fun k o _ hk => (h.block k (Array.getElem?_eq_some_iff.1 hk).1).trans hk⟩
theorem WkT.grown {w w' : World} {B n : Nat} {v : Value} {xs : List Value} (hown : w.ownsRow B 5 1 v n xs) (hg : w.grownBy w' v.ownBlock) : WkT w w' := ⟨hg.size, fun k o ho hk => by
  refine (hg.block k (Array.getElem?_eq_some_iff.1 hk).1 fun e => ?_).trans hk
  rcases hown.2 with ⟨rfl, _⟩ | ⟨g, cap, cur, rfl, _, h2, _⟩
  · simp [Value.ownBlock] at e
  · obtain rfl : k = g := by simpa [Value.ownBlock] using e
    rw [h2] at hk
    cases hk
    exact (ho _ _ _ rfl).1 rfl⟩
theorem WkT.set {w : World} {g i : Nat} {cs : Array Value} (hb : Blk w g 90 cs) (u : Value) : WkT w (w.setCell ⟨g, i, none⟩ u) := ⟨by simp, fun k o ho hk => by
  refine (Below.heap_setCell w ⟨g, i, none⟩ u k fun e => ?_).trans hk
  have e' : k = g := e
  subst e'
  unfold Blk at hb
  rw [hb] at hk
  cases hk
  exact (ho _ _ _ rfl).2 rfl⟩
theorem WkT.own {w w' : World} {B size n : Nat} {e : TypeId} {v : Value} {xs : List Value} (h : w.ownsRow B e size v n xs) (hk : WkT w w') (h1 : e ≠ 5) (h2 : e ≠ 90) : w'.ownsRow B e size v n xs := by
  refine ⟨h.1, ?_⟩
  rcases h.2 with h' | ⟨g, cap, cur, rfl, k1, k2, k3⟩
  · exact .inl h'
  · exact .inr ⟨g, cap, cur, rfl, k1, hk.2 g _ (fun cs t fr e => by cases e; exact ⟨h1, h2⟩) k2, k3⟩

set_option maxHeartbeats 2000000 in
theorem Num_K (k : Nat) (hk : k < 4294967296) (g B : Nat) (bs : List Int) (E : Err) (w : World) (hW : Wr w B g bs E) (hl : bs.length ≤ 1099511627776) :
    Calls Tryz.prog 76 #[.pointer (some ⟨g, 0, none⟩), .int .i64 k] w fun e w' => e = .returned (.tuple #[]) ∧ Wr w' B g (bs ++ wordL k) E ∧ Below B w w' ∧ WkT w w' := by
  obtain ⟨hBg, hE, bv, ev, hb, hown, he⟩ := hW
  have hBw : B ≤ w.heap.size := Nat.le_trans hBg (Nat.le_of_lt hb.lt)
  have hc0 := hb.cell 0
  simp at hc0
  have HW := Lib.hid (word_own k hk bs bv bs.length B w rfl hown hBw hl)
  have HBk := Lib.hid hb
  have HO := Lib.hid hown
  have HE := Lib.hid he
  clear hb hown he
  go_enter Tryz.func76, Tryz.ntmps76
  go_wp2_with fail
  refine HW.out.mono ?_
  rintro e w1 ⟨v', rfl, hown1, hgr⟩
  obtain ⟨g1, c1, rfl, _⟩ := own_form hown1 (by omega)
  have hb1 := hgr.blkOwn HBk.out HO.out (by decide)
  have hcell := hb1.cell 0
  simp at hcell
  have hfr := hb1.frozen 0
  have HT := Lib.hid (Wr.turn (bs' := bs ++ wordL k) hBg hE HBk.out HO.out HE.out hgr.g (by rw [List.length_append, wordL_len]; exact hown1))
  have HB1 := Lib.hid (hgr.belowOwn hBw HO.out)
  have HK1 := Lib.hid ((WkT.grown HO.out hgr.g).trans (WkT.set (i := 0) hb1 (.slice (some ⟨g1, 0, none⟩) (bs.length + 4) c1)))
  clear hown1 hgr hb1 HW
  go_wp2_with fail
  go_end0
  exact ⟨rfl, HT.out, HB1.out.setCell (p := ⟨g, 0, none⟩) hBg _, HK1.out⟩
/-- A list in bytes. -/
def encW (l : List Int) : List Int := wordL l.length ++ l.flatMap fun x => wordL x.toNat
theorem encF_len (l : List Int) : (l.flatMap fun x => wordL x.toNat).length = 4 * l.length := by
  induction l with
  | nil => rfl
  | cons x l ih => rw [List.flatMap_cons, List.length_append, ih, wordL_len, List.length_cons]; omega
theorem encW_len (l : List Int) : (encW l).length = 4 + 4 * l.length := by unfold encW; rw [List.length_append, encF_len, wordL_len]
theorem fits_nat {z : Int} (h : fits z) : ∃ k : Nat, z = (k : Int) ∧ k < 4294967296 := ⟨z.toNat, by have := h.1; omega, by have := h.1; have := h.2; omega⟩

set_option maxHeartbeats 2000000 in
theorem List_K (l : List Int) (hr : ∀ x ∈ l, fits x) (A : Option Addr) (n c : Nat) (hn : n ≤ 268435456) (hln : l.length = n) (g B : Nat) (bs : List Int) (E : Err) (w : World)
    (hsB : ∀ w', Below B w w' → WkT w w' → Sl w' 1 A n (l.map (Value.int .i64))) (hW : Wr w B g bs E) (hl : bs.length ≤ 1099511627) :
    Calls Tryz.prog 44 #[.pointer (some ⟨g, 0, none⟩), .slice A n c] w fun e w' => e = .returned (.tuple #[]) ∧ Wr w' B g (bs ++ encW l) E ∧ Below B w w' ∧ WkT w w' := by
  have HN := Lib.hid (Num_K n (by omega) g B bs E w hW (by omega))
  have HSB := Lib.hid hsB
  have HR := Lib.hid hr
  have HL := Lib.hid hl
  clear hW hsB hr hl
  go_enter Tryz.func44, Tryz.ntmps44
  go_wp2_with fail
  refine HN.out.mono ?_
  rintro e w1 ⟨rfl, hW1, hb1, hk1⟩
  have HW1 := Lib.hid hW1
  have HB1 := Lib.hid hb1
  have HK1 := Lib.hid hk1
  clear hW1 hb1 hk1 HN
  go_wp2_with fail
  go_loopw [12] (fun iv wr => ∃ i : Nat, i ≤ n ∧ iv = .int .i64 i ∧ Hid (Wr wr B g (bs ++ wordL n ++ (l.take i).flatMap fun x => wordL x.toNat) E) ∧ Hid (Below B w wr) ∧ Hid (WkT w wr)) (fun iv _ => n - (intOf iv).toNat)
  case atStart => exact ⟨0, Nat.zero_le _, rfl, Lib.hid (by rw [List.take_zero, List.flatMap_nil, List.append_nil]; exact HW1.out), HB1, HK1⟩
  case round =>
    clear HW1 HB1 HK1
    obtain ⟨i, hi, rfl, HWr, HB, HK⟩ := hrel
    by_cases hlt : i < n
    · have hj : i < l.length := by omega
      obtain ⟨b, off, u, rfl, e1, c1⟩ := (HSB.out wr HB.out HK.out).one hlt
      rw [List.getElem?_map, List.getElem?_eq_getElem hj] at e1
      obtain rfl := Option.some.inj e1
      have HT := Lib.hid (List.take_succ_eq_append_getElem hj)
      have hz := HR.out _ (List.getElem_mem hj)
      generalize l[i] = z at *
      obtain ⟨k, rfl, hk⟩ := fits_nat hz
      have HZ := Lib.hid (Num_K k hk g B _ E wr HWr.out (by
        have h1 := encF_len (l.take i)
        rw [List.length_take] at h1
        rw [List.length_append, List.length_append, h1, wordL_len]
        have := HL.out
        omega))
      clear e1 hz
      go_wp2_with fail
      refine HZ.out.mono ?_
      rintro e w2 ⟨rfl, hW2, hb2, hk2⟩
      have HW2 := Lib.hid hW2
      have HB2 := Lib.hid (HB.out.trans hb2)
      have HK2 := Lib.hid (HK.out.trans hk2)
      clear hW2 hb2 hk2 HZ
      go_wp2_with fail
      go_roundw
      case rel => exact ⟨i + 1, by omega, by go_num, Lib.hid (by rw [HT.out, List.flatMap_append, ← List.append_assoc]; simpa using HW2.out), HB2, HK2⟩
      case measure => simp [intOf]; omega
    · obtain rfl : i = n := by omega
      rw [List.take_of_length_le (by omega)] at HWr
      go_wp2_with fail
      go_end0
      refine ⟨rfl, ?_, HB.out, HK.out⟩
      unfold encW
      rw [hln, ← List.append_assoc]
      exact HWr.out
end Go.Proofs.YtbbmgcdocolakaaGreatDoor
/-
  Contracts of wire.Reader where the bytes suffice: List.
-/
namespace Go.Proofs.YtbbmgcdocolakaaGreatDoor
open Go.RowKit
set_option maxRecDepth 100000
set_option linter.unusedVariables false

/-- So many words. -/
def wordsL (l : List Int) : Nat → List Int
  | 0 => []
  | j + 1 => wordsL l j ++ [(wordN (l.drop (4 * j)) : Int)]
theorem wordsL_len (l : List Int) : ∀ j, (wordsL l j).length = j
  | 0 => rfl
  | j + 1 => by rw [wordsL, List.length_append, wordsL_len l j]; rfl

set_option maxHeartbeats 8000000 in
theorem List_okA (g B : Nat) (A : Option Addr) (n c a : Nat) (l : List Int) (w : World) (hR : Rd w B g A n c a .nil) (hm : a + 4 + 4 * wordN (l.drop a) ≤ n) (h60 : wordN (l.drop a) ≤ 60) (hn : n ≤ 1099511627776) (hnc : n ≤ c) (hc9 : c ≤ 9223372036854775807) (hl : l.length = n) (hb : Bys l) (hB : ∀ w', Below B w w' → Sl w' 1 A n (l.map (Value.int .u8))) :
    Calls Tryz.prog 71 #[.pointer (some ⟨g, 0, none⟩), .int .i64 60] w fun e w' => ∃ C k, e = .returned (.slice C (wordN (l.drop a)) k) ∧ Sl w' 1 C (wordN (l.drop a)) ((wordsL (l.drop (a + 4)) (wordN (l.drop a))).map (Value.int .i64)) ∧ Rd w' B g A n c (a + 4 + 4 * wordN (l.drop a)) .nil ∧ Below B w w' ∧ Asd g w w' ∧ (∀ x, C = some x → w.heap.size ≤ x.block) := by
  obtain ⟨hc0, hc1⟩ := rd_cells hR
  have HT := Lib.hid (num_ok g B A n c a a l w hR (by omega) hn hnc hc9 hl hb hB)
  have HSB := Lib.hid hB
  have HBy := Lib.hid hb
  clear hR hB hb
  generalize hN : wordN (l.drop a) = N at *
  clear hN
  go_enter Tryz.func71, Tryz.ntmps71
  go_wp2_with fail
  refine HT.out.mono ?_
  rintro e w1 ⟨rfl, hR1, hb1, ha1⟩
  have HR1 := Lib.hid hR1
  have HB1 := Lib.hid hb1
  have HD1 := Lib.hid ha1
  obtain ⟨_, _, _, ev, hbk, he⟩ := hR1
  obtain rfl : ev = .nilIface := he
  have hc2 := hbk.cell 2
  simp at hc2
  clear hb1 ha1 HT hbk
  rcases Nat.eq_zero_or_pos N with h0 | h0
  · subst h0
    go_wp2_with fail
    go_ret
    exact ⟨none, 0, rfl, Sl.nil _ _ _, HR1.out, HB1.out, HD1.out, fun x hx => by cases hx⟩
  · have hNz : ((N : Int) == 0) = false := by simp; omega
    have HZ := Lib.hid (take_ok g B A n c (a + 4) (4 * N) a l w1 HR1.out (by omega) (by omega) hn hnc hc9 (HSB.out w1 HB1.out) (fun W hW => HSB.out W (HB1.out.trans hW)))
    have h4N : ((4 * N : Nat) : Int) = 4 * (N : Int) := by omega
    rw [h4N] at HZ
    go_wp2_with fail
    refine HZ.out.mono ?_
    rintro e w2 ⟨C, k, rfl, hk, hs2, hR2, hb2, ha2⟩
    have hS := hs2 w2 hb2
    obtain ⟨b, off, hA, _⟩ := hS.2 (by omega)
    cases hA
    have HS := Lib.hid hS
    have HR2 := Lib.hid hR2
    have HB2 := Lib.hid (HB1.out.trans hb2)
    have HD2 := Lib.hid (HD1.out.trans ha2)
    have HBL := Lib.hid (((HBy.out.drop (a + 4)).take (4 * N)))
    have HLen := Lib.hid (show ((l.drop (a + 4)).take (4 * N)).length = 4 * N by rw [List.length_take, List.length_drop]; omega)
    have HWd := Lib.hid (fun j (hj : j < N) => (show wordN ((((l.drop (a + 4)).take (4 * N)).drop (4 * j))) = wordN ((l.drop (a + 4)).drop (4 * j)) by
      have hlen : (l.drop (a + 4)).length = n - (a + 4) := by rw [List.length_drop, hl]
      rw [List.drop_take]
      rw [← wordN_take (l := List.take (4 * N - 4 * j) _) (by rw [List.length_take, List.length_drop, hlen]; omega), List.take_take, Nat.min_eq_left (by omega), wordN_take (by rw [List.length_drop, hlen]; omega)]))
    have hBw2 : B ≤ w2.heap.size := Nat.le_trans HR2.out.1 (Nat.le_of_lt (by obtain ⟨_, _, _, _, h, _⟩ := HR2.out; exact h.lt))
    clear hs2 hR2 hb2 ha2 HZ hS hc0 hc1 hc2
    generalize (l.drop (a + 4)).take (4 * N) = bl at *
    generalize hrl : l.drop (a + 4) = rl at *
    have HRL := Lib.hid hrl
    clear hrl
    go_wp2_with fail
    go_loopw [7, 8] (fun bv lv wr => ∃ (j o k : Nat), j ≤ N ∧ bv = .slice (some ⟨b, o, none⟩) (4 * (N - j)) k ∧ (j < N → o = off + 4 * j) ∧ (4 * (N - j) ≤ k ∧ k ≤ 9223372036854775807) ∧ wr.ownsRow w2.heap.size 3 1 lv j ((wordsL rl j).map (Value.int .i64)) ∧ Below w2.heap.size w2 wr) (fun bv _ _ => lenV bv)
    case atStart => exact ⟨0, off, k, Nat.zero_le _, by rw [Nat.sub_zero], fun _ => rfl, by rw [Nat.sub_zero]; exact hk, World.ownsRow_nil _ _ _ _, Below.refl _ _⟩
    case round =>
      obtain ⟨j, o, k', hj, rfl, ho, hk', hown, hb⟩ := hrel
      have HO := Lib.hid hown
      have HBr := Lib.hid hb
      by_cases hlt : j < N
      · obtain rfl := ho hlt
        have hlw := wordN_lt (HBL.out.drop (4 * j))
        have HA := Lib.hid (wordAt_any (bl.drop (4 * j)) (some ⟨b, off + 4 * j, none⟩) (4 * (N - j)) k' wr (by rw [List.length_drop, HLen.out]; omega) (by omega) (HBL.out.drop _) (by
          have h1 := (HS.out.keep hb).drop (k := 4 * j) (by omega)
          rw [← List.map_drop, show 4 * N - 4 * j = 4 * (N - j) by omega] at h1
          exact h1))
        rw [HWd.out j hlt] at HA hlw
        have HWS := Lib.hid (show wordsL rl (j + 1) = wordsL rl j ++ [(wordN (rl.drop (4 * j)) : Int)] from rfl)
        generalize wordN (rl.drop (4 * j)) = Wj at *
        have hpos : (0 : Int) < ((4 * (N - j) : Nat) : Int) := by omega
        have hge4 : (4 : Int) ≤ ((4 * (N - j) : Nat) : Int) := by omega
        have hsub : 4 * (N - j) - 4 = 4 * (N - (j + 1)) := by omega
        generalize hm : 4 * (N - j) = mm at *
        have HM := Lib.hid hm
        clear hown hb hm
        by_cases hk4 : k' = 4
        · subst hk4
          go_wp2_with fail
          refine HA.out.mono ?_
          rintro e w3 ⟨rfl, hq⟩
          have HB3 := Lib.hid (HBr.out.andThen (drew_bel hq))
          have HO3 := Lib.hid (own_below HO.out (fun g hg => (HO.out.lt g hg).2) (drew_bel hq))
          clear hq HA
          go_wp2_with (at_builtin; refine wpList_push elemInt (w0 := w2) _ _ rfl rfl HO3.out HB3.out (Nat.le_refl _) rfl rfl rfl (by simp [Value.oneCell']) (by unfold lim; omega) (by unfold lim; omega) ?_; intro v4 w4 hown4 hb4; have HO4 := Lib.hid hown4; clear hown4)
          go_roundw
          case rel =>
            refine ⟨j + 1, _, _, by omega, rfl, fun h => by omega, by omega, ?_, hb4⟩
            rw [HWS.out, List.map_append]; exact HO4.out
          case measure => simp [lenV]; omega
        · go_wp2_with fail
          refine HA.out.mono ?_
          rintro e w3 ⟨rfl, hq⟩
          have HB3 := Lib.hid (HBr.out.andThen (drew_bel hq))
          have HO3 := Lib.hid (own_below HO.out (fun g hg => (HO.out.lt g hg).2) (drew_bel hq))
          clear hq HA
          go_wp2_with (at_builtin; refine wpList_push elemInt (w0 := w2) _ _ rfl rfl HO3.out HB3.out (Nat.le_refl _) rfl rfl rfl (by simp [Value.oneCell']) (by unfold lim; omega) (by unfold lim; omega) ?_; intro v4 w4 hown4 hb4; have HO4 := Lib.hid hown4; clear hown4)
          go_roundw
          case rel =>
            refine ⟨j + 1, _, _, by omega, rfl, fun h => by omega, by omega, ?_, hb4⟩
            rw [HWS.out, List.map_append]; exact HO4.out
          case measure => simp [lenV]; omega
      · obtain rfl : j = N := by omega
        obtain ⟨C, kk, rfl, hsl⟩ := Sl.own hown
        have HX := Lib.hid hsl
        have HOw := Lib.hid hown
        rw [Nat.sub_self]
        clear hown hsl hb
        go_wp2_with fail
        go_ret
        exact ⟨C, kk, rfl, by rw [HRL.out]; exact HX.out, HR2.out.keep HBr.out, HB2.out.trans (HBr.out.mono hBw2), HD2.out.trans (Asd.of HBr.out), fun x hx => by subst hx; exact Nat.le_trans HD2.out.1 (HOw.out.lt x.block rfl).1⟩
end Go.Proofs.YtbbmgcdocolakaaGreatDoor
