/-
  Contract of the document's Put.
-/
import Derived.Test.YtclbbchljiagpaaDoorWireH
namespace Go.Proofs.YtclbbchljiagpaaDoor
open Go.RowKit
set_option maxRecDepth 100000
set_option linter.unusedVariables false

/-- The place of the first number that can't be, or -1. -/
def badE : Err → Int
  | .flt _ a _ => a
  | _ => -1
/-- An error of a writer. -/
def WE (E : Err) : Prop := E = .nil ∨ ∃ a : Nat, a ≤ 1000000 ∧ E = .flt 3 a txtNumber
theorem WE.pNum {z : Int} {st : St} (h : WE st.2) (hl : st.1.length ≤ 1000000) : WE (pNum z st).2 := by
  unfold Go.Proofs.YtclbbchljiagpaaDoor.pNum
  split
  · exact h
  · rcases h with h | ⟨a, ha, h⟩
    · rw [h]; exact .inr ⟨_, hl, rfl⟩
    · rw [h]; exact .inr ⟨a, ha, rfl⟩
theorem WE.pNums : ∀ {l : List Int} {st : St}, WE st.2 → st.1.length + 4 * l.length ≤ 1000000 → WE (pNums l st).2
  | [], _, h, _ => h
  | z :: l, st, h, hl => by
    rw [List.length_cons] at hl
    rw [Go.Proofs.YtclbbchljiagpaaDoor.pNums]
    exact WE.pNums (h.pNum (by omega)) (by rw [pNum_len]; omega)
theorem WE.pItem {x : Item} {st : St} (h : WE st.2) (hn : near x) (hl : st.1.length ≤ 900000) : WE (pItem x st).2 := by
  obtain ⟨h1, h2, _⟩ := hn
  unfold Go.Proofs.YtclbbchljiagpaaDoor.pItem
  split
  · exact h.pNum (by omega)
  split
  · exact h
  split
  · exact h.pNum (by omega)
  · rw [pList]; exact (h.pNum (by omega)).pNums (by rw [pNum_len]; omega)
theorem WE.pItems : ∀ {l : List Item} {st : St}, WE st.2 → (∀ x ∈ l, near x) → st.1.length + 500 * l.length ≤ 900000 → WE (pItems l st).2
  | [], _, h, _, _ => h
  | x :: l, st, h, hn, hl => by
    rw [List.length_cons] at hl
    have h1 := pItem_len (hn x (List.mem_cons_self ..)) st
    rw [Go.Proofs.YtclbbchljiagpaaDoor.pItems]
    exact WE.pItems (h.pItem (hn x (List.mem_cons_self ..)) (by omega)) (fun y hy => hn y (List.mem_cons_of_mem _ hy)) (by omega)
theorem badE_nil {E : Err} (h : WE E) : badE E < 0 ↔ E = .nil := by
  rcases h with rfl | ⟨a, _, rfl⟩
  · simp [badE]
  · simp only [badE]
    constructor
    · intro h; omega
    · intro h; cases h

theorem Fits_any (z : Int) (hz : -9223372036854775808 ≤ z ∧ z ≤ 9223372036854775807) (w : World) :
    Calls Tryd.prog 68 #[.int .i64 z] w fun e w' => e = .returned (.bool (decide (fits z))) ∧ w = w' := by
  go_enter Tryd.func68, Tryd.ntmps68
  by_cases h0 : 0 ≤ z
  · by_cases h1 : z ≤ 4294967295
    · have HX := Lib.hid (show fits z from ⟨h0, h1⟩)
      go_wp2_with fail
      go_ret
      exact ⟨ret_bool (by rw [decide_eq_true HX.out]), rfl⟩
    · have HX := Lib.hid (show ¬ fits z from fun h => h1 h.2)
      go_wp2_with fail
      go_ret
      exact ⟨ret_bool (by rw [decide_eq_false HX.out]), rfl⟩
  · have HX := Lib.hid (show ¬ fits z from fun h => h0 h.1)
    go_wp2_with fail
    go_ret
    exact ⟨ret_bool (by rw [decide_eq_false HX.out]), rfl⟩
set_option maxHeartbeats 8000000 in
theorem Put_ref (xs : List Item) (A : Option Addr) (n c : Nat) (w : World) (hI : Its w A n xs) (hN : Near xs) :
    Calls Tryd.prog 25 #[.slice A n c] w fun e w' => ∃ C k, e = .returned (.tuple #[.slice C (pItems xs ([], .nil)).1.length k, .int .i64 (badE (pItems xs ([], .nil)).2)]) ∧ Sl w' 1 C (pItems xs ([], .nil)).1.length ((pItems xs ([], .nil)).1.map (Value.int .u8)) ∧ Below w.heap.size w w' := by
  have HI := Lib.hid hI
  have hlen := hI.1
  have hn40 : n ≤ 40 := by have := hN.1; omega
  have HN := Lib.hid hN
  clear hI hN
  go_enter Tryd.func25, Tryd.ntmps25
  go_wp2_with fail
  go_loopw [4, 5, 6] (fun bv dv iv wr => ∃ (i : Nat) (st : St), i ≤ n ∧ iv = .int .i64 i ∧ Hid (st = pItems (xs.take i) ([], .nil)) ∧ dv = .int .i64 (badE st.2) ∧ wr.ownsRow w.heap.size 5 1 bv st.1.length (st.1.map (Value.int .u8)) ∧ Below w.heap.size w wr) (fun _ _ iv _ => n - (intOf iv).toNat)
  case atStart => exact ⟨0, ([], .nil), Nat.zero_le _, rfl, rfl, rfl, World.ownsRow_nil _ _ _ _, Below.refl _ _⟩
  case round =>
    obtain ⟨i, st, hi, rfl, HST0, rfl, hown, hb⟩ := hrel
    obtain ⟨A4, c4, rfl, _⟩ := Sl.own hown
    have HO := Lib.hid hown
    have HB := Lib.hid hb
    by_cases hlt : i < n
    · have hj : i < xs.length := by omega
      obtain ⟨hok, b, off, LA, lc, rfl, d0, d1, d2, d3, hsl, _, _⟩ := HI.out.2 i xs[i] (List.getElem?_eq_getElem hj)
      have hck : ∀ {p : Addr} {v : Value}, w.cell? p = some v → wr.cell? p = some v := fun hp => (hb.cell (World.block_lt_of_cell? w _ hp)).trans hp
      have HCK := Lib.hid (fun W (hW : Below w.heap.size w W) => (show ∀ (p : Addr) (v : Value), w.cell? p = some v → W.cell? p = some v from fun _ _ hp => (hW.cell (World.block_lt_of_cell? w _ hp)).trans hp))
      have c0 := hck d0
      have c1 := hck d1
      have c2 := hck d2
      have c3 := hck d3
      have HD2 := Lib.hid d2
      have HD3 := Lib.hid d3
      clear hck d0 d1 d2 d3
      have HT := Lib.hid (List.take_succ_eq_append_getElem hj)
      have hnr := HN.out.2 _ (List.getElem_mem hj)
      have hbl := pItems_len (l := xs.take i) (fun x hx => HN.out.2 x (List.mem_of_mem_take hx)) ([], .nil)
      have hwe := WE.pItems (l := xs.take i) (st := ([], .nil)) (.inl rfl) (fun x hx => HN.out.2 x (List.mem_of_mem_take hx)) (by rw [List.length_take]; simp only [List.length_nil]; omega)
      rw [List.length_take] at hbl
      simp only [List.length_nil] at hbl
      rw [← HST0.out] at hbl hwe
      have HWE := Lib.hid hwe
      generalize xs[i] = x at *
      obtain ⟨k1, k2, k3, k4, k5⟩ := hok
      obtain ⟨n1, n2, n3, n4⟩ := hnr
      have HS := Lib.hid hsl
      have HK5 := Lib.hid k5
      have hbl2 : st.1.length ≤ 20000 := by omega
      clear hsl k5 hown hb hwe hbl
      by_cases e0 : x.kind = 0
      · have HE := Lib.hid (show pItem x st = pNum x.n st by rw [pItem, if_pos e0])
        have e0' : (x.kind == 0) = true := by simpa using e0
        clear e0
        go_wp2_with fail
        refine (Fits_any x.n k2 wr).mono ?_
        rintro e w0 ⟨rfl, rfl⟩
        by_cases hf : fits x.n
        · rw [decide_eq_true hf]
          obtain ⟨k, hk⟩ := Int.eq_ofNat_of_zero_le hf.1
          have hk2 : k < 4294967296 := by have := hf.2; omega
          have HST := Lib.hid (show pNum x.n st = (st.1 ++ wordL k, st.2) by rw [pNum, if_pos hf, hk]; rfl)
          clear hf
          go_wp2_with fail
          refine (RefWord_any k hk2 wr).mono ?_
          rintro e w2 ⟨A2, c2, rfl, hs2, hb2⟩
          have HO2 := Lib.hid (own_below HO.out (fun g hg => (HO.out.lt g hg).2) hb2)
          have HB2 := Lib.hid (HB.out.andThen hb2)
          have HS2 := Lib.hid hs2
          clear hs2 hb2
          go_wp2_with (at_builtin; refine wpList_cat_at elemByte _ _ rfl rfl HO2.out HB2.out.size HS2.out rfl rfl (one_u8 _) (by unfold lim; omega) (by unfold lim; omega) ?_; intro v3 w3 hown3 hg3; have HO3 := Lib.hid hown3; have HB3 := Lib.hid (HB2.out.trans (hg3.belowOwn HB2.out.size HO2.out)); clear hown3 hg3)
          go_roundw
          case rel => exact ⟨i + 1, pItem x st, by omega, by go_num, by show _ = _; rw [HT.out, pItems_snoc, HST0.out], by rw [HE.out, HST.out] <;> first | rfl | (rw [HBD.out]), by rw [HE.out, HST.out, List.length_append, wordL_len, List.map_append]; exact HO3.out, HB3.out⟩
          case measure => simp [intOf]; omega
        · rw [decide_eq_false hf]
          by_cases hE : st.2 = .nil
          · have HST := Lib.hid (show pNum x.n st = (st.1 ++ wordL 0, .flt 3 st.1.length txtNumber) by rw [pNum, if_neg hf, hE]; rfl)
            have hbd : badE st.2 = -1 := by rw [hE]; rfl
            clear hf hE
            go_wp2_with fail
            refine (RefWord_any 0 (by omega) wr).mono ?_
            rintro e w2 ⟨A2, c2, rfl, hs2, hb2⟩
            have HO2 := Lib.hid (own_below HO.out (fun g hg => (HO.out.lt g hg).2) hb2)
            have HB2 := Lib.hid (HB.out.andThen hb2)
            have HS2 := Lib.hid hs2
            clear hs2 hb2
            go_wp2_with (at_builtin; refine wpList_cat_at elemByte _ _ rfl rfl HO2.out HB2.out.size HS2.out rfl rfl (one_u8 _) (by unfold lim; omega) (by unfold lim; omega) ?_; intro v3 w3 hown3 hg3; have HO3 := Lib.hid hown3; have HB3 := Lib.hid (HB2.out.trans (hg3.belowOwn HB2.out.size HO2.out)); clear hown3 hg3)
            go_roundw
            case rel => exact ⟨i + 1, pItem x st, by omega, by go_num, by show _ = _; rw [HT.out, pItems_snoc, HST0.out], by rw [HE.out, HST.out] <;> first | rfl | (rw [HBD.out]), by rw [HE.out, HST.out, List.length_append, wordL_len, List.map_append]; exact HO3.out, HB3.out⟩
            case measure => simp [intOf]; omega
          · obtain ⟨a, ha, hE'⟩ := HWE.out.resolve_left hE
            have HST := Lib.hid (show pNum x.n st = (st.1 ++ wordL 0, st.2) by rw [pNum, if_neg hf, hE']; rfl)
            have hbd : badE st.2 = a := by rw [hE']; rfl
            have HBD := Lib.hid hbd
            clear hf hE hE'
            go_wp2_with fail
            refine (RefWord_any 0 (by omega) wr).mono ?_
            rintro e w2 ⟨A2, c2, rfl, hs2, hb2⟩
            have HO2 := Lib.hid (own_below HO.out (fun g hg => (HO.out.lt g hg).2) hb2)
            have HB2 := Lib.hid (HB.out.andThen hb2)
            have HS2 := Lib.hid hs2
            clear hs2 hb2
            go_wp2_with (at_builtin; refine wpList_cat_at elemByte _ _ rfl rfl HO2.out HB2.out.size HS2.out rfl rfl (one_u8 _) (by unfold lim; omega) (by unfold lim; omega) ?_; intro v3 w3 hown3 hg3; have HO3 := Lib.hid hown3; have HB3 := Lib.hid (HB2.out.trans (hg3.belowOwn HB2.out.size HO2.out)); clear hown3 hg3)
            go_roundw
            case rel => exact ⟨i + 1, pItem x st, by omega, by go_num, by show _ = _; rw [HT.out, pItems_snoc, HST0.out], by rw [HE.out, HST.out] <;> first | rfl | (rw [HBD.out]), by rw [HE.out, HST.out, List.length_append, wordL_len, List.map_append]; exact HO3.out, HB3.out⟩
            case measure => simp [intOf]; omega
      · have e0' : (x.kind == 0) = false := by simpa using e0
        by_cases e1 : x.kind = 1
        · have HE := Lib.hid (show pItem x st = pLong x.n st by rw [pItem, if_neg e0, if_pos e1])
          have e1' : (x.kind == 1) = true := by simpa using e1
          have hh : x.n % 18446744073709551616 / 4294967296 = (hiN x.n : Int) := by unfold hiN; omega
          have hu : IntKind.u64.wrap x.n = x.n % 18446744073709551616 := IntKind.wrap_u64 x.n
          have hlo : x.n % 18446744073709551616 % 4294967296 = (loN x.n : Int) := by unfold loN; omega
          have hl1 := hiN_lt x.n
          have hl2 := loN_lt x.n
          clear e0 e1
          go_wp2_with fail
          refine (RefWord_any (hiN x.n) hl1 wr).mono ?_
          rintro e w2 ⟨A2, c2, rfl, hs2, hb2⟩
          have HO2 := Lib.hid (own_below HO.out (fun g hg => (HO.out.lt g hg).2) hb2)
          have HB2 := Lib.hid (HB.out.andThen hb2)
          have HS2 := Lib.hid hs2
          clear hs2 hb2
          go_wp2_with (at_builtin; refine wpList_cat_at elemByte _ _ rfl rfl HO2.out HB2.out.size HS2.out rfl rfl (one_u8 _) (by unfold lim; omega) (by unfold lim; omega) ?_; intro v3 w3 hown3 hg3; have HO3 := Lib.hid hown3; have HB3 := Lib.hid (HB2.out.trans (hg3.belowOwn HB2.out.size HO2.out)); clear hown3 hg3)
          obtain ⟨A3, c3', rfl, _⟩ := Sl.own HO3.out
          refine (RefWord_any (loN x.n) hl2 w3).mono ?_
          rintro e w4 ⟨A4, c4, rfl, hs4, hb4⟩
          have HO4 := Lib.hid (own_below HO3.out (fun g hg => (HO3.out.lt g hg).2) hb4)
          have HB4 := Lib.hid (HB3.out.andThen hb4)
          have HS4 := Lib.hid hs4
          clear hs4 hb4
          go_wp2_with (at_builtin; refine wpList_cat_at elemByte _ _ rfl rfl HO4.out HB4.out.size HS4.out rfl rfl (one_u8 _) (by unfold lim; omega) (by unfold lim; omega) ?_; intro v5 w5 hown5 hg5; have HO5 := Lib.hid hown5; have HB5 := Lib.hid (HB4.out.trans (hg5.belowOwn HB4.out.size HO4.out)); clear hown5 hg5)
          go_roundw
          case rel => exact ⟨i + 1, pItem x st, by omega, by go_num, by show _ = _; rw [HT.out, pItems_snoc, HST0.out], by rw [HE.out]; rfl, by rw [HE.out, pLong, List.length_append, List.length_append, wordL_len, wordL_len, List.map_append, List.map_append]; exact HO5.out, HB5.out⟩
          case measure => simp [intOf]; omega
        · have e1' : (x.kind == 1) = false := by simpa using e1
          by_cases e2 : x.kind = 2
          · have HE := Lib.hid (show pItem x st = (st.1 ++ wordL x.s.size ++ sB x.s, st.2) by
              have hfit : fits (x.s.size : Int) := ⟨by omega, by omega⟩
              rw [pItem, if_neg e0, if_neg e1, if_pos e2, pText, pNum, if_pos hfit]; rfl)
            have e2' : (x.kind == 2) = true := by simpa using e2
            clear e0 e1 e2
            go_wp2_with fail
            refine (RefWord_any x.s.size (by omega) wr).mono ?_
            rintro e w2 ⟨A2, c2, rfl, hs2, hb2⟩
            have HO2 := Lib.hid (own_below HO.out (fun g hg => (HO.out.lt g hg).2) hb2)
            have HB2 := Lib.hid (HB.out.andThen hb2)
            have HS2 := Lib.hid hs2
            clear hs2 hb2
            have c2b := HCK.out w2 HB2.out _ _ HD2.out
            go_wp2_with (first
              | (at_builtin; refine wpList_cat_lies elemByte _ _ rfl rfl HO2.out HB2.out.size HS2.out (by omega) rfl rfl (one_u8 _) (by unfold lim; omega) (by unfold lim; omega) ?_; intro g3 q3 w3 hown3 hg3; have HO3 := Lib.hid hown3; have HB3 := Lib.hid (HB2.out.trans (hg3.belowOwn HB2.out.size HO2.out)); have c2d := HCK.out w3 HB3.out _ _ HD2.out; clear hown3 hg3 HO2 HB2)
              | (at_builtin; refine wpList_str_lies elemByte Tryd.underlying9 _ _ rfl rfl (l := st.1 ++ wordL x.s.size) (by rw [List.map_append]; exact HO3.out) HB3.out.size (s := x.s) (by omega) rfl rfl (by unfold lim; omega) ?_; intro g4 q4 w4 hown4 hg4; have HO4 := Lib.hid hown4; have HB4 := Lib.hid (HB3.out.grown hg4 HB3.out.size (fun k hk => (HO3.out.lt k hk).1)); clear hown4 hg4 HO3 HB3))
            go_roundw
            case rel => exact ⟨i + 1, pItem x st, by omega, by go_num, by show _ = _; rw [HT.out, pItems_snoc, HST0.out], by rw [HE.out], by rw [HE.out, List.length_append, List.length_append, wordL_len, sB_len]; exact HO4.out, HB4.out⟩
            case measure => simp [intOf]; omega
          · have e2' : (x.kind == 2) = false := by simpa using e2
            have e3' : (x.kind == 3) = true := by simp; omega
            have hfit : fits (x.l.length : Int) := ⟨by omega, by omega⟩
            have HE := Lib.hid (show pItem x st = pNums x.l (st.1 ++ wordL x.l.length, st.2) by
              rw [pItem, if_neg e0, if_neg e1, if_neg e2, pList, pNum, if_pos hfit]; rfl)
            clear e0 e1 e2 hfit
            go_wp2_with fail
            refine (RefWord_any x.l.length (by omega) wr).mono ?_
            rintro e w2 ⟨A2, c2, rfl, hs2, hb2⟩
            have HO2 := Lib.hid (own_below HO.out (fun g hg => (HO.out.lt g hg).2) hb2)
            have HB2 := Lib.hid (HB.out.andThen hb2)
            have HS2 := Lib.hid hs2
            clear hs2 hb2
            go_wp2_with (at_builtin; refine wpList_cat_at elemByte _ _ rfl rfl HO2.out HB2.out.size HS2.out rfl rfl (one_u8 _) (by unfold lim; omega) (by unfold lim; omega) ?_; intro v3 w3 hown3 hg3; have HO3 := Lib.hid hown3; have HB3 := Lib.hid (HB2.out.trans (hg3.belowOwn HB2.out.size HO2.out)); clear hown3 hg3)
            have hm2 : (st.1 ++ wordL x.l.length).length = st.1.length + 4 := by rw [List.length_append, wordL_len]
            have HM2 := Lib.hid hm2
            clear hm2
            go_loopw [4, 5, 9] (fun bv dv jv wq => ∃ (j : Nat) (sj : St), j ≤ x.l.length ∧ jv = .int .i64 j ∧ Hid (sj = pNums (x.l.take j) (st.1 ++ wordL x.l.length, st.2)) ∧ dv = .int .i64 (badE sj.2) ∧ wq.ownsRow w.heap.size 5 1 bv sj.1.length (sj.1.map (Value.int .u8)) ∧ Below w.heap.size w wq) (fun _ _ jv _ => x.l.length - (intOf jv).toNat)
            case atStart => exact ⟨0, (st.1 ++ wordL x.l.length, st.2), Nat.zero_le _, rfl, rfl, rfl, by rw [HM2.out, List.map_append]; exact HO3.out, HB3.out⟩
            case round =>
              obtain ⟨j, sj, hj2, rfl, HSJ, rfl, hown, hb⟩ := hrel
              obtain ⟨A5, c5, rfl, _⟩ := Sl.own hown
              have HO := Lib.hid hown
              have HB := Lib.hid hb
              have c3e := HCK.out wr hb _ _ HD3.out
              by_cases hlt2 : j < x.l.length
              · obtain ⟨b6, off6, u6', rfl, e6, c6⟩ := (HS.out.keep hb).one hlt2
                rw [List.getElem?_map, List.getElem?_eq_getElem hlt2] at e6
                obtain rfl := Option.some.inj e6
                have HTJ := Lib.hid (List.take_succ_eq_append_getElem hlt2)
                have hz := HK5.out _ (List.getElem_mem hlt2)
                have hlen2 := pNums_len (x.l.take j) (st.1 ++ wordL x.l.length, st.2)
                have hwe2 := WE.pNums (l := x.l.take j) (st := (st.1 ++ wordL x.l.length, st.2)) HWE.out (by rw [HM2.out, List.length_take]; omega)
                simp only [HM2.out] at hlen2
                rw [List.length_take] at hlen2
                rw [← HSJ.out] at hlen2 hwe2
                have HWE := Lib.hid hwe2
                generalize x.l[j] = z at *
                have hsl2 : sj.1.length ≤ 30000 := by omega
                clear e6 hown hb hlen2 hwe2
                go_wp2_with fail
                refine (Fits_any z hz wr).mono ?_
                rintro e w0 ⟨rfl, rfl⟩
                by_cases hf : fits z
                · rw [decide_eq_true hf]
                  obtain ⟨k, hk⟩ := Int.eq_ofNat_of_zero_le hf.1
                  have hk2 : k < 4294967296 := by have := hf.2; omega
                  have HST := Lib.hid (show pNum z sj = (sj.1 ++ wordL k, sj.2) by rw [pNum, if_pos hf, hk]; rfl)
                  clear hf
                  go_wp2_with fail
                  refine (RefWord_any k hk2 wr).mono ?_
                  rintro e w2 ⟨A2, c2, rfl, hs2, hb2⟩
                  have HO2 := Lib.hid (own_below HO.out (fun g hg => (HO.out.lt g hg).2) hb2)
                  have HB2 := Lib.hid (HB.out.andThen hb2)
                  have HS2 := Lib.hid hs2
                  clear hs2 hb2
                  go_wp2_with (at_builtin; refine wpList_cat_at elemByte _ _ rfl rfl HO2.out HB2.out.size HS2.out rfl rfl (one_u8 _) (by unfold lim; omega) (by unfold lim; omega) ?_; intro v3 w3 hown3 hg3; have HO3 := Lib.hid hown3; have HB3 := Lib.hid (HB2.out.trans (hg3.belowOwn HB2.out.size HO2.out)); clear hown3 hg3)
                  go_roundw
                  case rel => exact ⟨j + 1, pNum z sj, by omega, by go_num, by show _ = _; rw [HTJ.out, pNums_snoc, HSJ.out], by rw [HST.out] <;> first | rfl | (rw [HBD.out]), by rw [HST.out, List.length_append, wordL_len, List.map_append]; exact HO3.out, HB3.out⟩
                  case measure => simp [intOf]; omega
                · rw [decide_eq_false hf]
                  by_cases hE : sj.2 = .nil
                  · have HST := Lib.hid (show pNum z sj = (sj.1 ++ wordL 0, .flt 3 sj.1.length txtNumber) by rw [pNum, if_neg hf, hE]; rfl)
                    have hbd : badE sj.2 = -1 := by rw [hE]; rfl
                    clear hf hE
                    go_wp2_with fail
                    refine (RefWord_any 0 (by omega) wr).mono ?_
                    rintro e w2 ⟨A2, c2, rfl, hs2, hb2⟩
                    have HO2 := Lib.hid (own_below HO.out (fun g hg => (HO.out.lt g hg).2) hb2)
                    have HB2 := Lib.hid (HB.out.andThen hb2)
                    have HS2 := Lib.hid hs2
                    clear hs2 hb2
                    go_wp2_with (at_builtin; refine wpList_cat_at elemByte _ _ rfl rfl HO2.out HB2.out.size HS2.out rfl rfl (one_u8 _) (by unfold lim; omega) (by unfold lim; omega) ?_; intro v3 w3 hown3 hg3; have HO3 := Lib.hid hown3; have HB3 := Lib.hid (HB2.out.trans (hg3.belowOwn HB2.out.size HO2.out)); clear hown3 hg3)
                    go_roundw
                    case rel => exact ⟨j + 1, pNum z sj, by omega, by go_num, by show _ = _; rw [HTJ.out, pNums_snoc, HSJ.out], by rw [HST.out] <;> first | rfl | (rw [HBD.out]), by rw [HST.out, List.length_append, wordL_len, List.map_append]; exact HO3.out, HB3.out⟩
                    case measure => simp [intOf]; omega
                  · obtain ⟨a, ha, hE'⟩ := HWE.out.resolve_left hE
                    have HST := Lib.hid (show pNum z sj = (sj.1 ++ wordL 0, sj.2) by rw [pNum, if_neg hf, hE']; rfl)
                    have hbd : badE sj.2 = a := by rw [hE']; rfl
                    have HBD := Lib.hid hbd
                    clear hf hE hE'
                    go_wp2_with fail
                    refine (RefWord_any 0 (by omega) wr).mono ?_
                    rintro e w2 ⟨A2, c2, rfl, hs2, hb2⟩
                    have HO2 := Lib.hid (own_below HO.out (fun g hg => (HO.out.lt g hg).2) hb2)
                    have HB2 := Lib.hid (HB.out.andThen hb2)
                    have HS2 := Lib.hid hs2
                    clear hs2 hb2
                    go_wp2_with (at_builtin; refine wpList_cat_at elemByte _ _ rfl rfl HO2.out HB2.out.size HS2.out rfl rfl (one_u8 _) (by unfold lim; omega) (by unfold lim; omega) ?_; intro v3 w3 hown3 hg3; have HO3 := Lib.hid hown3; have HB3 := Lib.hid (HB2.out.trans (hg3.belowOwn HB2.out.size HO2.out)); clear hown3 hg3)
                    go_roundw
                    case rel => exact ⟨j + 1, pNum z sj, by omega, by go_num, by show _ = _; rw [HTJ.out, pNums_snoc, HSJ.out], by rw [HST.out] <;> first | rfl | (rw [HBD.out]), by rw [HST.out, List.length_append, wordL_len, List.map_append]; exact HO3.out, HB3.out⟩
                    case measure => simp [intOf]; omega
              · obtain rfl : j = x.l.length := by omega
                rw [List.take_of_length_le (Nat.le_refl _)] at HSJ
                clear hown
                go_wp2_with fail
                go_roundw
                case rel => exact ⟨i + 1, pItem x st, by omega, by go_num, by show _ = _; rw [HT.out, pItems_snoc, HST0.out], by rw [HE.out, HSJ.out], by rw [HE.out, ← HSJ.out]; exact HO.out, HB.out⟩
                case measure => simp [intOf]; omega
    · obtain rfl : i = n := by omega
      rw [List.take_of_length_le (by omega)] at HST0
      have HX := Lib.hid (Sl.of_own HO.out)
      clear hown
      go_wp2_with fail
      go_ret2
      exact ⟨A4, c4, by rw [← HST0.out]; rfl, by rw [← HST0.out]; exact HX.out, HB.out⟩
end Go.Proofs.YtclbbchljiagpaaDoor
