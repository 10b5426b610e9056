/-
  Part 10 of the proof of PatTexts: WireI, WireJ.
-/
import Derived.Test.YtddedghnnkcnhaaGreatDoorPatTextsM9
import Derived.Test.YtddedghnnkcnhaaGreatDoorPatTextsM7
import Derived.WalkSpells
/-
  Contract of the document's Put.
-/
namespace Go.Proofs.YtddedghnnkcnhaaGreatDoor
open Go.RowKit
set_option maxRecDepth 100000
set_option linter.unusedVariables false

/-- The place of the first number that can't be, or -1. -/
def badE : Err → Int
  | .flt _ a _ => a
  | _ => -1
/-- An error of a writer. -/
def WE (E : Err) : Prop := E = .nil ∨ ∃ a : Nat, a ≤ 1000000 ∧ E = .flt 3 a txtNumber
theorem WE.pNum {z : Int} {st : St} (h : WE st.2) (hl : st.1.length ≤ 1000000) : WE (pNum z st).2 := by
  unfold Go.Proofs.YtddedghnnkcnhaaGreatDoor.pNum
  split
  · exact h
  · rcases h with h | ⟨a, ha, h⟩
    · rw [h]; exact .inr ⟨_, hl, rfl⟩
    · rw [h]; exact .inr ⟨a, ha, rfl⟩
theorem WE.pNums : ∀ {l : List Int} {st : St}, WE st.2 → st.1.length + 4 * l.length ≤ 1000000 → WE (pNums l st).2
  | [], _, h, _ => h
  | z :: l, st, h, hl => by
    rw [List.length_cons] at hl
    rw [Go.Proofs.YtddedghnnkcnhaaGreatDoor.pNums]
    exact WE.pNums (h.pNum (by omega)) (by rw [pNum_len]; omega)
theorem WE.pItem {x : Item} {st : St} (h : WE st.2) (hn : near x) (hl : st.1.length ≤ 900000) : WE (pItem x st).2 := by
  obtain ⟨h1, h2, _⟩ := hn
  unfold Go.Proofs.YtddedghnnkcnhaaGreatDoor.pItem
  split
  · exact h.pNum (by omega)
  split
  · exact h
  split
  · exact h.pNum (by omega)
  · rw [pList]; exact (h.pNum (by omega)).pNums (by rw [pNum_len]; omega)
theorem WE.pItems : ∀ {l : List Item} {st : St}, WE st.2 → (∀ x ∈ l, near x) → st.1.length + 500 * l.length ≤ 900000 → WE (pItems l st).2
  | [], _, h, _, _ => h
  | x :: l, st, h, hn, hl => by
    rw [List.length_cons] at hl
    have h1 := pItem_len (hn x (List.mem_cons_self ..)) st
    rw [Go.Proofs.YtddedghnnkcnhaaGreatDoor.pItems]
    exact WE.pItems (h.pItem (hn x (List.mem_cons_self ..)) (by omega)) (fun y hy => hn y (List.mem_cons_of_mem _ hy)) (by omega)
theorem badE_nil {E : Err} (h : WE E) : badE E < 0 ↔ E = .nil := by
  rcases h with rfl | ⟨a, _, rfl⟩
  · simp [badE]
  · simp only [badE]
    constructor
    · intro h; omega
    · intro h; cases h

theorem Fits_any (z : Int) (hz : -9223372036854775808 ≤ z ∧ z ≤ 9223372036854775807) (w : World) :
    Calls Tryz.prog 138 #[.int .i64 z] w fun e w' => e = .returned (.bool (decide (fits z))) ∧ w = w' := by
  go_enter Tryz.func138, Tryz.ntmps138
  by_cases h0 : 0 ≤ z
  · by_cases h1 : z ≤ 4294967295
    · have HX := Lib.hid (show fits z from ⟨h0, h1⟩)
      go_wp2_with fail
      go_ret
      exact ⟨ret_bool (by rw [decide_eq_true HX.out]), rfl⟩
    · have HX := Lib.hid (show ¬ fits z from fun h => h1 h.2)
      go_wp2_with fail
      go_ret
      exact ⟨ret_bool (by rw [decide_eq_false HX.out]), rfl⟩
  · have HX := Lib.hid (show ¬ fits z from fun h => h0 h.1)
    go_wp2_with fail
    go_ret
    exact ⟨ret_bool (by rw [decide_eq_false HX.out]), rfl⟩
set_option maxHeartbeats 8000000 in
theorem Put_ref (xs : List Item) (A : Option Addr) (n c : Nat) (w : World) (hI : Its w A n xs) (hN : Near xs) :
    Calls Tryz.prog 62 #[.slice A n c] w fun e w' => ∃ C k, e = .returned (.tuple #[.slice C (pItems xs ([], .nil)).1.length k, .int .i64 (badE (pItems xs ([], .nil)).2)]) ∧ Sl w' 1 C (pItems xs ([], .nil)).1.length ((pItems xs ([], .nil)).1.map (Value.int .u8)) ∧ Below w.heap.size w w' := by
  have HI := Lib.hid hI
  have hlen := hI.1
  have hn40 : n ≤ 40 := by have := hN.1; omega
  have HN := Lib.hid hN
  clear hI hN
  go_enter Tryz.func62, Tryz.ntmps62
  go_wp2_with fail
  go_loopw [4, 5, 6] (fun bv dv iv wr => ∃ (i : Nat) (st : St), i ≤ n ∧ iv = .int .i64 i ∧ Hid (st = pItems (xs.take i) ([], .nil)) ∧ dv = .int .i64 (badE st.2) ∧ wr.ownsRow w.heap.size 5 1 bv st.1.length (st.1.map (Value.int .u8)) ∧ Below w.heap.size w wr) (fun _ _ iv _ => n - (intOf iv).toNat)
  case atStart => exact ⟨0, ([], .nil), Nat.zero_le _, rfl, rfl, rfl, World.ownsRow_nil _ _ _ _, Below.refl _ _⟩
  case round =>
    obtain ⟨i, st, hi, rfl, HST0, rfl, hown, hb⟩ := hrel
    obtain ⟨A4, c4, rfl, _⟩ := Sl.own hown
    have HO := Lib.hid hown
    have HB := Lib.hid hb
    by_cases hlt : i < n
    · have hj : i < xs.length := by omega
      obtain ⟨hok, b, off, LA, lc, rfl, d0, d1, d2, d3, hsl, _, _⟩ := HI.out.2 i xs[i] (List.getElem?_eq_getElem hj)
      have hck : ∀ {p : Addr} {v : Value}, w.cell? p = some v → wr.cell? p = some v := fun hp => (hb.cell (World.block_lt_of_cell? w _ hp)).trans hp
      have HCK := Lib.hid (fun W (hW : Below w.heap.size w W) => (show ∀ (p : Addr) (v : Value), w.cell? p = some v → W.cell? p = some v from fun _ _ hp => (hW.cell (World.block_lt_of_cell? w _ hp)).trans hp))
      have c0 := hck d0
      have c1 := hck d1
      have c2 := hck d2
      have c3 := hck d3
      have HD2 := Lib.hid d2
      have HD3 := Lib.hid d3
      clear hck d0 d1 d2 d3
      have HT := Lib.hid (List.take_succ_eq_append_getElem hj)
      have hnr := HN.out.2 _ (List.getElem_mem hj)
      have hbl := pItems_len (l := xs.take i) (fun x hx => HN.out.2 x (List.mem_of_mem_take hx)) ([], .nil)
      have hwe := WE.pItems (l := xs.take i) (st := ([], .nil)) (.inl rfl) (fun x hx => HN.out.2 x (List.mem_of_mem_take hx)) (by rw [List.length_take]; simp only [List.length_nil]; omega)
      rw [List.length_take] at hbl
      simp only [List.length_nil] at hbl
      rw [← HST0.out] at hbl hwe
      have HWE := Lib.hid hwe
      generalize xs[i] = x at *
      obtain ⟨k1, k2, k3, k4, k5⟩ := hok
      obtain ⟨n1, n2, n3, n4⟩ := hnr
      have HS := Lib.hid hsl
      have HK5 := Lib.hid k5
      have hbl2 : st.1.length ≤ 20000 := by omega
      clear hsl k5 hown hb hwe hbl
      by_cases e0 : x.kind = 0
      · have HE := Lib.hid (show pItem x st = pNum x.n st by rw [pItem, if_pos e0])
        have e0' : (x.kind == 0) = true := by simpa using e0
        clear e0
        go_wp2_with fail
        refine (Fits_any x.n k2 wr).mono ?_
        rintro e w0 ⟨rfl, rfl⟩
        by_cases hf : fits x.n
        · rw [decide_eq_true hf]
          obtain ⟨k, hk⟩ := Int.eq_ofNat_of_zero_le hf.1
          have hk2 : k < 4294967296 := by have := hf.2; omega
          have HST := Lib.hid (show pNum x.n st = (st.1 ++ wordL k, st.2) by rw [pNum, if_pos hf, hk]; rfl)
          clear hf
          go_wp2_with fail
          refine (RefWord_any k hk2 wr).mono ?_
          rintro e w2 ⟨A2, c2, rfl, hs2, hb2⟩
          have HO2 := Lib.hid (own_below HO.out (fun g hg => (HO.out.lt g hg).2) hb2)
          have HB2 := Lib.hid (HB.out.andThen hb2)
          have HS2 := Lib.hid hs2
          clear hs2 hb2
          go_wp2_with (at_builtin; refine wpList_cat_at elemByte _ _ rfl rfl HO2.out HB2.out.size HS2.out rfl rfl (one_u8 _) (by unfold lim; omega) (by unfold lim; omega) ?_; intro v3 w3 hown3 hg3; have HO3 := Lib.hid hown3; have HB3 := Lib.hid (HB2.out.trans (hg3.belowOwn HB2.out.size HO2.out)); clear hown3 hg3)
          go_roundw
          case rel => exact ⟨i + 1, pItem x st, by omega, by go_num, by show _ = _; rw [HT.out, pItems_snoc, HST0.out], by rw [HE.out, HST.out] <;> first | rfl | (rw [HBD.out]), by rw [HE.out, HST.out, List.length_append, wordL_len, List.map_append]; exact HO3.out, HB3.out⟩
          case measure => simp [intOf]; omega
        · rw [decide_eq_false hf]
          by_cases hE : st.2 = .nil
          · have HST := Lib.hid (show pNum x.n st = (st.1 ++ wordL 0, .flt 3 st.1.length txtNumber) by rw [pNum, if_neg hf, hE]; rfl)
            have hbd : badE st.2 = -1 := by rw [hE]; rfl
            clear hf hE
            go_wp2_with fail
            refine (RefWord_any 0 (by omega) wr).mono ?_
            rintro e w2 ⟨A2, c2, rfl, hs2, hb2⟩
            have HO2 := Lib.hid (own_below HO.out (fun g hg => (HO.out.lt g hg).2) hb2)
            have HB2 := Lib.hid (HB.out.andThen hb2)
            have HS2 := Lib.hid hs2
            clear hs2 hb2
            go_wp2_with (at_builtin; refine wpList_cat_at elemByte _ _ rfl rfl HO2.out HB2.out.size HS2.out rfl rfl (one_u8 _) (by unfold lim; omega) (by unfold lim; omega) ?_; intro v3 w3 hown3 hg3; have HO3 := Lib.hid hown3; have HB3 := Lib.hid (HB2.out.trans (hg3.belowOwn HB2.out.size HO2.out)); clear hown3 hg3)
            go_roundw
            case rel => exact ⟨i + 1, pItem x st, by omega, by go_num, by show _ = _; rw [HT.out, pItems_snoc, HST0.out], by rw [HE.out, HST.out] <;> first | rfl | (rw [HBD.out]), by rw [HE.out, HST.out, List.length_append, wordL_len, List.map_append]; exact HO3.out, HB3.out⟩
            case measure => simp [intOf]; omega
          · obtain ⟨a, ha, hE'⟩ := HWE.out.resolve_left hE
            have HST := Lib.hid (show pNum x.n st = (st.1 ++ wordL 0, st.2) by rw [pNum, if_neg hf, hE']; rfl)
            have hbd : badE st.2 = a := by rw [hE']; rfl
            have HBD := Lib.hid hbd
            clear hf hE hE'
            go_wp2_with fail
            refine (RefWord_any 0 (by omega) wr).mono ?_
            rintro e w2 ⟨A2, c2, rfl, hs2, hb2⟩
            have HO2 := Lib.hid (own_below HO.out (fun g hg => (HO.out.lt g hg).2) hb2)
            have HB2 := Lib.hid (HB.out.andThen hb2)
            have HS2 := Lib.hid hs2
            clear hs2 hb2
            go_wp2_with (at_builtin; refine wpList_cat_at elemByte _ _ rfl rfl HO2.out HB2.out.size HS2.out rfl rfl (one_u8 _) (by unfold lim; omega) (by unfold lim; omega) ?_; intro v3 w3 hown3 hg3; have HO3 := Lib.hid hown3; have HB3 := Lib.hid (HB2.out.trans (hg3.belowOwn HB2.out.size HO2.out)); clear hown3 hg3)
            go_roundw
            case rel => exact ⟨i + 1, pItem x st, by omega, by go_num, by show _ = _; rw [HT.out, pItems_snoc, HST0.out], by rw [HE.out, HST.out] <;> first | rfl | (rw [HBD.out]), by rw [HE.out, HST.out, List.length_append, wordL_len, List.map_append]; exact HO3.out, HB3.out⟩
            case measure => simp [intOf]; omega
      · have e0' : (x.kind == 0) = false := by simpa using e0
        by_cases e1 : x.kind = 1
        · have HE := Lib.hid (show pItem x st = pLong x.n st by rw [pItem, if_neg e0, if_pos e1])
          have e1' : (x.kind == 1) = true := by simpa using e1
          have hh : x.n % 18446744073709551616 / 4294967296 = (hiN x.n : Int) := by unfold hiN; omega
          have hu : IntKind.u64.wrap x.n = x.n % 18446744073709551616 := IntKind.wrap_u64 x.n
          have hlo : x.n % 18446744073709551616 % 4294967296 = (loN x.n : Int) := by unfold loN; omega
          have hl1 := hiN_lt x.n
          have hl2 := loN_lt x.n
          clear e0 e1
          go_wp2_with fail
          refine (RefWord_any (hiN x.n) hl1 wr).mono ?_
          rintro e w2 ⟨A2, c2, rfl, hs2, hb2⟩
          have HO2 := Lib.hid (own_below HO.out (fun g hg => (HO.out.lt g hg).2) hb2)
          have HB2 := Lib.hid (HB.out.andThen hb2)
          have HS2 := Lib.hid hs2
          clear hs2 hb2
          go_wp2_with (at_builtin; refine wpList_cat_at elemByte _ _ rfl rfl HO2.out HB2.out.size HS2.out rfl rfl (one_u8 _) (by unfold lim; omega) (by unfold lim; omega) ?_; intro v3 w3 hown3 hg3; have HO3 := Lib.hid hown3; have HB3 := Lib.hid (HB2.out.trans (hg3.belowOwn HB2.out.size HO2.out)); clear hown3 hg3)
          obtain ⟨A3, c3', rfl, _⟩ := Sl.own HO3.out
          refine (RefWord_any (loN x.n) hl2 w3).mono ?_
          rintro e w4 ⟨A4, c4, rfl, hs4, hb4⟩
          have HO4 := Lib.hid (own_below HO3.out (fun g hg => (HO3.out.lt g hg).2) hb4)
          have HB4 := Lib.hid (HB3.out.andThen hb4)
          have HS4 := Lib.hid hs4
          clear hs4 hb4
          go_wp2_with (at_builtin; refine wpList_cat_at elemByte _ _ rfl rfl HO4.out HB4.out.size HS4.out rfl rfl (one_u8 _) (by unfold lim; omega) (by unfold lim; omega) ?_; intro v5 w5 hown5 hg5; have HO5 := Lib.hid hown5; have HB5 := Lib.hid (HB4.out.trans (hg5.belowOwn HB4.out.size HO4.out)); clear hown5 hg5)
          go_roundw
          case rel => exact ⟨i + 1, pItem x st, by omega, by go_num, by show _ = _; rw [HT.out, pItems_snoc, HST0.out], by rw [HE.out]; rfl, by rw [HE.out, pLong, List.length_append, List.length_append, wordL_len, wordL_len, List.map_append, List.map_append]; exact HO5.out, HB5.out⟩
          case measure => simp [intOf]; omega
        · have e1' : (x.kind == 1) = false := by simpa using e1
          by_cases e2 : x.kind = 2
          · have HE := Lib.hid (show pItem x st = (st.1 ++ wordL x.s.size ++ sB x.s, st.2) by
              have hfit : fits (x.s.size : Int) := ⟨by omega, by omega⟩
              rw [pItem, if_neg e0, if_neg e1, if_pos e2, pText, pNum, if_pos hfit]; rfl)
            have e2' : (x.kind == 2) = true := by simpa using e2
            clear e0 e1 e2
            go_wp2_with fail
            refine (RefWord_any x.s.size (by omega) wr).mono ?_
            rintro e w2 ⟨A2, c2, rfl, hs2, hb2⟩
            have HO2 := Lib.hid (own_below HO.out (fun g hg => (HO.out.lt g hg).2) hb2)
            have HB2 := Lib.hid (HB.out.andThen hb2)
            have HS2 := Lib.hid hs2
            clear hs2 hb2
            have c2b := HCK.out w2 HB2.out _ _ HD2.out
            go_wp2_with (first
              | (at_builtin; refine wpList_cat_lies elemByte _ _ rfl rfl HO2.out HB2.out.size HS2.out (by omega) rfl rfl (one_u8 _) (by unfold lim; omega) (by unfold lim; omega) ?_; intro g3 q3 w3 hown3 hg3; have HO3 := Lib.hid hown3; have HB3 := Lib.hid (HB2.out.trans (hg3.belowOwn HB2.out.size HO2.out)); have c2d := HCK.out w3 HB3.out _ _ HD2.out; clear hown3 hg3 HO2 HB2)
              | (at_builtin; refine wpList_str_lies elemByte Tryz.underlying9 _ _ rfl rfl (l := st.1 ++ wordL x.s.size) (by rw [List.map_append]; exact HO3.out) HB3.out.size (s := x.s) (by omega) rfl rfl (by unfold lim; omega) ?_; intro g4 q4 w4 hown4 hg4; have HO4 := Lib.hid hown4; have HB4 := Lib.hid (HB3.out.grown hg4 HB3.out.size (fun k hk => (HO3.out.lt k hk).1)); clear hown4 hg4 HO3 HB3))
            go_roundw
            case rel => exact ⟨i + 1, pItem x st, by omega, by go_num, by show _ = _; rw [HT.out, pItems_snoc, HST0.out], by rw [HE.out], by rw [HE.out, List.length_append, List.length_append, wordL_len, sB_len]; exact HO4.out, HB4.out⟩
            case measure => simp [intOf]; omega
          · have e2' : (x.kind == 2) = false := by simpa using e2
            have e3' : (x.kind == 3) = true := by simp; omega
            have hfit : fits (x.l.length : Int) := ⟨by omega, by omega⟩
            have HE := Lib.hid (show pItem x st = pNums x.l (st.1 ++ wordL x.l.length, st.2) by
              rw [pItem, if_neg e0, if_neg e1, if_neg e2, pList, pNum, if_pos hfit]; rfl)
            clear e0 e1 e2 hfit
            go_wp2_with fail
            refine (RefWord_any x.l.length (by omega) wr).mono ?_
            rintro e w2 ⟨A2, c2, rfl, hs2, hb2⟩
            have HO2 := Lib.hid (own_below HO.out (fun g hg => (HO.out.lt g hg).2) hb2)
            have HB2 := Lib.hid (HB.out.andThen hb2)
            have HS2 := Lib.hid hs2
            clear hs2 hb2
            go_wp2_with (at_builtin; refine wpList_cat_at elemByte _ _ rfl rfl HO2.out HB2.out.size HS2.out rfl rfl (one_u8 _) (by unfold lim; omega) (by unfold lim; omega) ?_; intro v3 w3 hown3 hg3; have HO3 := Lib.hid hown3; have HB3 := Lib.hid (HB2.out.trans (hg3.belowOwn HB2.out.size HO2.out)); clear hown3 hg3)
            have hm2 : (st.1 ++ wordL x.l.length).length = st.1.length + 4 := by rw [List.length_append, wordL_len]
            have HM2 := Lib.hid hm2
            clear hm2
            go_loopw [4, 5, 9] (fun bv dv jv wq => ∃ (j : Nat) (sj : St), j ≤ x.l.length ∧ jv = .int .i64 j ∧ Hid (sj = pNums (x.l.take j) (st.1 ++ wordL x.l.length, st.2)) ∧ dv = .int .i64 (badE sj.2) ∧ wq.ownsRow w.heap.size 5 1 bv sj.1.length (sj.1.map (Value.int .u8)) ∧ Below w.heap.size w wq) (fun _ _ jv _ => x.l.length - (intOf jv).toNat)
            case atStart => exact ⟨0, (st.1 ++ wordL x.l.length, st.2), Nat.zero_le _, rfl, rfl, rfl, by rw [HM2.out, List.map_append]; exact HO3.out, HB3.out⟩
            case round =>
              obtain ⟨j, sj, hj2, rfl, HSJ, rfl, hown, hb⟩ := hrel
              obtain ⟨A5, c5, rfl, _⟩ := Sl.own hown
              have HO := Lib.hid hown
              have HB := Lib.hid hb
              have c3e := HCK.out wr hb _ _ HD3.out
              by_cases hlt2 : j < x.l.length
              · obtain ⟨b6, off6, u6', rfl, e6, c6⟩ := (HS.out.keep hb).one hlt2
                rw [List.getElem?_map, List.getElem?_eq_getElem hlt2] at e6
                obtain rfl := Option.some.inj e6
                have HTJ := Lib.hid (List.take_succ_eq_append_getElem hlt2)
                have hz := HK5.out _ (List.getElem_mem hlt2)
                have hlen2 := pNums_len (x.l.take j) (st.1 ++ wordL x.l.length, st.2)
                have hwe2 := WE.pNums (l := x.l.take j) (st := (st.1 ++ wordL x.l.length, st.2)) HWE.out (by rw [HM2.out, List.length_take]; omega)
                simp only [HM2.out] at hlen2
                rw [List.length_take] at hlen2
                rw [← HSJ.out] at hlen2 hwe2
                have HWE := Lib.hid hwe2
                generalize x.l[j] = z at *
                have hsl2 : sj.1.length ≤ 30000 := by omega
                clear e6 hown hb hlen2 hwe2
                go_wp2_with fail
                refine (Fits_any z hz wr).mono ?_
                rintro e w0 ⟨rfl, rfl⟩
                by_cases hf : fits z
                · rw [decide_eq_true hf]
                  obtain ⟨k, hk⟩ := Int.eq_ofNat_of_zero_le hf.1
                  have hk2 : k < 4294967296 := by have := hf.2; omega
                  have HST := Lib.hid (show pNum z sj = (sj.1 ++ wordL k, sj.2) by rw [pNum, if_pos hf, hk]; rfl)
                  clear hf
                  go_wp2_with fail
                  refine (RefWord_any k hk2 wr).mono ?_
                  rintro e w2 ⟨A2, c2, rfl, hs2, hb2⟩
                  have HO2 := Lib.hid (own_below HO.out (fun g hg => (HO.out.lt g hg).2) hb2)
                  have HB2 := Lib.hid (HB.out.andThen hb2)
                  have HS2 := Lib.hid hs2
                  clear hs2 hb2
                  go_wp2_with (at_builtin; refine wpList_cat_at elemByte _ _ rfl rfl HO2.out HB2.out.size HS2.out rfl rfl (one_u8 _) (by unfold lim; omega) (by unfold lim; omega) ?_; intro v3 w3 hown3 hg3; have HO3 := Lib.hid hown3; have HB3 := Lib.hid (HB2.out.trans (hg3.belowOwn HB2.out.size HO2.out)); clear hown3 hg3)
                  go_roundw
                  case rel => exact ⟨j + 1, pNum z sj, by omega, by go_num, by show _ = _; rw [HTJ.out, pNums_snoc, HSJ.out], by rw [HST.out] <;> first | rfl | (rw [HBD.out]), by rw [HST.out, List.length_append, wordL_len, List.map_append]; exact HO3.out, HB3.out⟩
                  case measure => simp [intOf]; omega
                · rw [decide_eq_false hf]
                  by_cases hE : sj.2 = .nil
                  · have HST := Lib.hid (show pNum z sj = (sj.1 ++ wordL 0, .flt 3 sj.1.length txtNumber) by rw [pNum, if_neg hf, hE]; rfl)
                    have hbd : badE sj.2 = -1 := by rw [hE]; rfl
                    clear hf hE
                    go_wp2_with fail
                    refine (RefWord_any 0 (by omega) wr).mono ?_
                    rintro e w2 ⟨A2, c2, rfl, hs2, hb2⟩
                    have HO2 := Lib.hid (own_below HO.out (fun g hg => (HO.out.lt g hg).2) hb2)
                    have HB2 := Lib.hid (HB.out.andThen hb2)
                    have HS2 := Lib.hid hs2
                    clear hs2 hb2
                    go_wp2_with (at_builtin; refine wpList_cat_at elemByte _ _ rfl rfl HO2.out HB2.out.size HS2.out rfl rfl (one_u8 _) (by unfold lim; omega) (by unfold lim; omega) ?_; intro v3 w3 hown3 hg3; have HO3 := Lib.hid hown3; have HB3 := Lib.hid (HB2.out.trans (hg3.belowOwn HB2.out.size HO2.out)); clear hown3 hg3)
                    go_roundw
                    case rel => exact ⟨j + 1, pNum z sj, by omega, by go_num, by show _ = _; rw [HTJ.out, pNums_snoc, HSJ.out], by rw [HST.out] <;> first | rfl | (rw [HBD.out]), by rw [HST.out, List.length_append, wordL_len, List.map_append]; exact HO3.out, HB3.out⟩
                    case measure => simp [intOf]; omega
                  · obtain ⟨a, ha, hE'⟩ := HWE.out.resolve_left hE
                    have HST := Lib.hid (show pNum z sj = (sj.1 ++ wordL 0, sj.2) by rw [pNum, if_neg hf, hE']; rfl)
                    have hbd : badE sj.2 = a := by rw [hE']; rfl
                    have HBD := Lib.hid hbd
                    clear hf hE hE'
                    go_wp2_with fail
                    refine (RefWord_any 0 (by omega) wr).mono ?_
                    rintro e w2 ⟨A2, c2, rfl, hs2, hb2⟩
                    have HO2 := Lib.hid (own_below HO.out (fun g hg => (HO.out.lt g hg).2) hb2)
                    have HB2 := Lib.hid (HB.out.andThen hb2)
                    have HS2 := Lib.hid hs2
                    clear hs2 hb2
                    go_wp2_with (at_builtin; refine wpList_cat_at elemByte _ _ rfl rfl HO2.out HB2.out.size HS2.out rfl rfl (one_u8 _) (by unfold lim; omega) (by unfold lim; omega) ?_; intro v3 w3 hown3 hg3; have HO3 := Lib.hid hown3; have HB3 := Lib.hid (HB2.out.trans (hg3.belowOwn HB2.out.size HO2.out)); clear hown3 hg3)
                    go_roundw
                    case rel => exact ⟨j + 1, pNum z sj, by omega, by go_num, by show _ = _; rw [HTJ.out, pNums_snoc, HSJ.out], by rw [HST.out] <;> first | rfl | (rw [HBD.out]), by rw [HST.out, List.length_append, wordL_len, List.map_append]; exact HO3.out, HB3.out⟩
                    case measure => simp [intOf]; omega
              · obtain rfl : j = x.l.length := by omega
                rw [List.take_of_length_le (Nat.le_refl _)] at HSJ
                clear hown
                go_wp2_with fail
                go_roundw
                case rel => exact ⟨i + 1, pItem x st, by omega, by go_num, by show _ = _; rw [HT.out, pItems_snoc, HST0.out], by rw [HE.out, HSJ.out], by rw [HE.out, ← HSJ.out]; exact HO.out, HB.out⟩
                case measure => simp [intOf]; omega
    · obtain rfl : i = n := by omega
      rw [List.take_of_length_le (by omega)] at HST0
      have HX := Lib.hid (Sl.of_own HO.out)
      clear hown
      go_wp2_with fail
      go_ret2
      exact ⟨A4, c4, by rw [← HST0.out]; rfl, by rw [← HST0.out]; exact HX.out, HB.out⟩
end Go.Proofs.YtddedghnnkcnhaaGreatDoor
/-
  Contracts of wire.Reader: NewReader, take, num, Num, Long, Left, End; what nobody answers.
-/
namespace Go.Proofs.YtddedghnnkcnhaaGreatDoor
open Go.RowKit
set_option maxRecDepth 100000
set_option linter.unusedVariables false

def txtBytes : ByteArray := ⟨#[98, 121, 116, 101, 115]⟩
def txtList : ByteArray := ⟨#[108, 105, 115, 116]⟩
/-- A reader at block g, of the bytes at A; how many are taken; its first error. -/
def Rd (w : World) (B g : Nat) (A : Option Addr) (n c a : Nat) (E : Err) : Prop :=
  B ≤ g ∧ E.flat ∧ a ≤ n ∧ ∃ ev, Blk w g 209 #[.slice A n c, .int .i64 a, ev] ∧ E.At w ev
theorem Rd.keep {w w' : World} {B g : Nat} {A : Option Addr} {n c a : Nat} {E : Err} (h : Rd w B g A n c a E) (hb : Below w.heap.size w w') : Rd w' B g A n c a E := by
  obtain ⟨h1, h2, h3, ev, h4, h5⟩ := h
  exact ⟨h1, h2, h3, ev, h4.keep hb, h5.keep hb⟩

/-- Of what was there nothing but block g has turned. -/
def Asd (g : Nat) (w w' : World) : Prop := w.heap.size ≤ w'.heap.size ∧ ∀ k, k ≠ g → k < w.heap.size → w'.heap[k]? = w.heap[k]?
theorem Asd.of {g : Nat} {w w' : World} (h : Below w.heap.size w w') : Asd g w w' := ⟨h.size, fun k _ hk => h.block k hk⟩
theorem Asd.trans {g : Nat} {a b c : World} (h : Asd g a b) (k : Asd g b c) : Asd g a c := ⟨Nat.le_trans h.1 k.1, fun i hi hl => (k.2 i hi (Nat.lt_of_lt_of_le hl h.1)).trans (h.2 i hi hl)⟩
theorem Asd.setCell {g : Nat} {a w : World} (h : Asd g a w) (i : Nat) (u : Value) : Asd g a (w.setCell ⟨g, i, none⟩ u) :=
  h.trans ⟨by simp [World.setCell], fun k hk _ => Below.heap_setCell _ _ _ _ hk⟩
theorem Asd.cell {g : Nat} {w w' : World} (h : Asd g w w') {p : Addr} {v : Value} (hp : w.cell? p = some v) (hg : p.block ≠ g) : w'.cell? p = some v :=
  (World.cell?_of_block (w := w) (h.2 p.block hg (World.block_lt_of_cell? w _ hp))).trans hp
theorem Asd.froz {g : Nat} {w w' : World} (h : Asd g w w') {p : Addr} {b : Bool} (hl : p.block < w.heap.size) (hp : w.frozen? p = b) (hg : p.block ≠ g) : w'.frozen? p = b :=
  (World.frozen?_of_block (w := w) (h.2 p.block hg hl)).trans hp
theorem NewReader_any (A : Option Addr) (n c : Nat) (w : World) :
    Calls Tryz.prog 94 #[.slice A n c] w fun e w' => ∃ g, e = .returned (.pointer (some ⟨g, 0, none⟩)) ∧ Rd w' w.heap.size g A n c 0 .nil ∧ Below w.heap.size w w' := by
  go_enter Tryz.func94, Tryz.ntmps94
  go_wp2_with fail
  go_ret
  exact ⟨w.heap.size, rfl, ⟨Nat.le_refl _, trivial, Nat.zero_le _, _, Blk.new _ _ _, rfl⟩, bel_al (Below.refl _ _) _⟩

set_option maxHeartbeats 2000000 in
theorem take_err (g B : Nat) (A : Option Addr) (n c a : Nat) (E : Err) (m from_ : Int) (w : World) (hR : Rd w B g A n c a E) (hE : E ≠ .nil) :
    Calls Tryz.prog 160 #[.pointer (some ⟨g, 0, none⟩), .int .i64 m, .int .i64 from_] w fun e w' => e = .returned (.slice none 0 0) ∧ w = w' := by
  obtain ⟨_, hf, _, ev, hb, he⟩ := hR
  obtain ⟨T, x, rfl⟩ := Err.At.iface_ he hE
  have hc2 := hb.cell 2
  simp at hc2
  clear hb he hE
  go_enter Tryz.func160, Tryz.ntmps160
  go_wp2_with fail
  go_ret
  exact ⟨rfl, rfl⟩

set_option maxHeartbeats 4000000 in
theorem take_short (g B : Nat) (A : Option Addr) (n c a m : Nat) (from_ : Nat) (w : World) (hR : Rd w B g A n c a .nil) (hm : n < a + m) (hn : n ≤ 1099511627776) (hm2 : m ≤ 1099511627776) (hfr : from_ ≤ n) :
    Calls Tryz.prog 160 #[.pointer (some ⟨g, 0, none⟩), .int .i64 m, .int .i64 from_] w fun e w' => e = .returned (.slice none 0 0) ∧ Rd w' B g A n c from_ (.flt 9 from_ txtBytes) ∧ Below B w w' := by
  obtain ⟨hBg, hf, han, ev, hb, he⟩ := hR
  obtain rfl : ev = .nilIface := he
  have hc0 := hb.cell 0
  have hc1 := hb.cell 1
  have hc2 := hb.cell 2
  simp at hc0 hc1 hc2
  have HBk := Lib.hid hb
  have hBw : B ≤ w.heap.size := Nat.le_trans hBg (Nat.le_of_lt hb.lt)
  clear hb
  have hd : decide ((n : Int) - (a : Int) < (m : Int)) = true := decide_eq_true (by omega)
  go_enter Tryz.func160, Tryz.ntmps160
  go_wp2_with fail
  go_quiet (fail)
  obtain ⟨w1, hw1⟩ : ∃ w1, w1 = w.drewN nq := ⟨_, rfl⟩
  rw [← hw1]
  have hbw := drew_bel ⟨nq, hw1⟩
  have HBk1 := Lib.hid (HBk.out.keep hbw)
  have HBw := Lib.hid hbw
  clear hw1 hbw hc0 hc1 hc2
  go_wp2_with fail
  refine (New_err 9 from_ txtBytes w1).mono ?_
  rintro e w2 ⟨v, rfl, ⟨gv, rfl, hv⟩, hb2⟩
  have hbk2 := HBk1.out.keep hb2
  have hd1 := hbk2.cell 1
  have hd2 := hbk2.cell 2
  have hf1 := hbk2.frozen 1
  have hf2 := hbk2.frozen 2
  simp at hd1 hd2
  have hgne : gv ≠ g := fun e => by
    subst e
    unfold Blk at hv hbk2
    rw [hv] at hbk2
    injection hbk2 with hbk2
    injection hbk2 with _ h3
    exact absurd h3 (by decide)
  have HT := Lib.hid (show Rd ((w2.setCell ⟨g, 1, none⟩ (.int .i64 from_)).setCell ⟨g, 2, none⟩ (.iface 145 (.pointer (some ⟨gv, 0, none⟩)))) B g A n c from_ (.flt 9 from_ txtBytes) by
    refine ⟨hBg, trivial, hfr, _, ?_, ⟨gv, rfl, ?_⟩⟩
    · have := (hbk2.set_ 1 (.int .i64 from_)).set_ 2 (.iface 145 (.pointer (some ⟨gv, 0, none⟩)))
      simpa using this
    · exact ((hv.far (p := ⟨g, 1, none⟩) hgne _).far (p := ⟨g, 2, none⟩) hgne _))
  have HB2 := Lib.hid (HBw.out.andThen hb2)
  clear hv hbk2 hgne hb2
  go_wp2_with fail
  go_ret
  exact ⟨rfl, HT.out, ((HB2.out.mono hBw).setCell (p := ⟨g, 1, none⟩) hBg _).setCell (p := ⟨g, 2, none⟩) hBg _⟩

set_option maxHeartbeats 4000000 in
theorem take_ok (g B : Nat) (A : Option Addr) (n c a m : Nat) (from_ : Int) (l : List Int) (w : World) (hR : Rd w B g A n c a .nil) (hm : a + m ≤ n) (h0 : 0 < m) (hn : n ≤ 1099511627776) (hnc : n ≤ c) (hc9 : c ≤ 9223372036854775807) (hs : Sl w 1 A n (l.map (Value.int .u8))) (hB : ∀ w', Below B w w' → Sl w' 1 A n (l.map (Value.int .u8))) :
    Calls Tryz.prog 160 #[.pointer (some ⟨g, 0, none⟩), .int .i64 m, .int .i64 from_] w fun e w' => ∃ C k, e = .returned (.slice (some C) m k) ∧ (m ≤ k ∧ k ≤ 9223372036854775807) ∧ (∀ w2, Below B w w2 → Sl w2 1 (some C) m (((l.drop a).take m).map (Value.int .u8))) ∧ Rd w' B g A n c (a + m) .nil ∧ Below B w w' ∧ Asd g w w' := by
  obtain ⟨hBg, hf, han, ev, hb, he⟩ := hR
  obtain rfl : ev = .nilIface := he
  obtain ⟨b, off, rfl, _⟩ := hs.2 (by omega)
  have hc0 := hb.cell 0
  have hc1 := hb.cell 1
  have hc2 := hb.cell 2
  simp at hc0 hc1 hc2
  have HBk := Lib.hid hb
  have hBw : B ≤ w.heap.size := Nat.le_trans hBg (Nat.le_of_lt hb.lt)
  have HX := Lib.hid (fun w2 (h : Below B w w2) => (by
    have h1 := ((hB w2 h).drop (k := a) han).take (k := m) (by omega)
    rwa [← List.map_drop, ← List.map_take] at h1 : Sl w2 1 (some ⟨b, off + a, none⟩) m (((l.drop a).take m).map (Value.int .u8))))
  clear hb hs hB
  have hfr1 := HBk.out.frozen 1
  have hd : decide ((n : Int) - (a : Int) < (m : Int)) = false := decide_eq_false (by omega)
  go_enter Tryz.func160, Tryz.ntmps160
  go_wp2_with fail
  go_quiet (fail)
  have e1 : (0 : Int) ≤ a := by omega
  have e2 : (a : Int) ≤ (a : Int) + (m : Int) := by omega
  have e3 : (a : Int) + (m : Int) ≤ (c : Int) := by omega
  have e4 : ((a : Int) + (m : Int)).toNat = a + m := by omega
  have e5 : ¬ c = a := by omega
  have e6 : a + m - a = m := by omega
  go_wp2_with fail
  go_quiet (fail)
  go_wp2_with fail
  go_ret
  have hcast : ((a + m : Nat) : Int) = (a : Int) + (m : Int) := by omega
  refine ⟨⟨b, off + a, none⟩, c - a, rfl, ⟨by omega, by omega⟩, HX.out, ⟨hBg, trivial, hm, .nilIface, ?_, rfl⟩, ?_, ?_⟩
  · rw [hcast]
    have := fun q => (HBk.out.drewN q).set_ 1 (.int .i64 ((a : Int) + (m : Int)))
    simpa using this _
  · exact ((bel_drewN (Below.refl _ _) _).mono hBw).setCell (p := ⟨g, 1, none⟩) hBg _
  · exact (Asd.of (bel_drewN (Below.refl _ _) _)).setCell _ _

theorem rd_cells {w : World} {B g : Nat} {A : Option Addr} {n c a : Nat} {E : Err} (h : Rd w B g A n c a E) : w.cell? ⟨g, 0, none⟩ = some (.slice A n c) ∧ w.cell? ⟨g, 1, none⟩ = some (.int .i64 a) := by
  obtain ⟨_, _, _, ev, hb, _⟩ := h
  have hc0 := hb.cell 0
  have hc1 := hb.cell 1
  simp at hc0 hc1
  exact ⟨hc0, hc1⟩
theorem nilEq (w : World) (A : Option Addr) (n c : Nat) : (binOp .eql 26 (.slice A n c) (.slice none 0 0)).run Tryz.prog w = .ok (.bool A.isNone) w := Lib.run_eql_slice_nil w _ _ A n c 0 0 Tryz.underlying26

set_option maxHeartbeats 2000000 in
theorem num_err (g B : Nat) (A : Option Addr) (n c a : Nat) (E : Err) (from_ : Int) (w : World) (hR : Rd w B g A n c a E) (hE : E ≠ .nil) :
    Calls Tryz.prog 159 #[.pointer (some ⟨g, 0, none⟩), .int .i64 from_] w fun e w' => e = .returned (.int .i64 0) ∧ w = w' := by
  have HT := Lib.hid (take_err g B A n c a E 4 from_ w hR hE)
  have nn := fun w => nilEq w none 0 0
  clear hR hE
  go_enter Tryz.func159, Tryz.ntmps159
  go_wp2_with fail
  refine HT.out.mono ?_
  rintro e w1 ⟨rfl, rfl⟩
  go_wp2_with fail
  go_ret
  exact ⟨rfl, rfl⟩
theorem List_err (g B : Nat) (A : Option Addr) (n c a : Nat) (E : Err) (most : Int) (w : World) (hR : Rd w B g A n c a E) (hE : E ≠ .nil) :
    Calls Tryz.prog 95 #[.pointer (some ⟨g, 0, none⟩), .int .i64 most] w fun e w' => e = .returned (.slice none 0 0) ∧ w = w' := by
  obtain ⟨hc0, hc1⟩ := rd_cells hR
  have HN := Lib.hid (num_err g B A n c a E a w hR hE)
  obtain ⟨_, hf, _, ev, hb, he⟩ := hR
  obtain ⟨T, x, rfl⟩ := Err.At.iface_ he hE
  have hc2 := hb.cell 2
  simp at hc2
  clear hb he hE
  go_enter Tryz.func95, Tryz.ntmps95
  go_wp2_with fail
  refine HN.out.mono ?_
  rintro e w1 ⟨rfl, rfl⟩
  go_wp2_with fail
  go_ret
  exact ⟨rfl, rfl⟩
theorem Left_any (g B : Nat) (A : Option Addr) (n c a : Nat) (E : Err) (w : World) (hR : Rd w B g A n c a E) (hn : n ≤ 1099511627776) :
    Calls Tryz.prog 162 #[.pointer (some ⟨g, 0, none⟩)] w fun e w' => e = .returned (.int .i64 ((n - a : Nat) : Int)) ∧ Below w.heap.size w w' := by
  obtain ⟨hc0, hc1⟩ := rd_cells hR
  have ha := hR.2.2.1
  have hd : (n : Int) - (a : Int) = ((n - a : Nat) : Int) := by omega
  clear hR
  go_enter Tryz.func162, Tryz.ntmps162
  go_wp2_with fail
  go_quiet (fail)
  go_wp2_with fail
  go_ret
  exact ⟨by first | rfl | (rw [hd]), bel_drewN (Below.refl _ _) _⟩
theorem End_err (g B : Nat) (A : Option Addr) (n c a : Nat) (E : Err) (w : World) (hR : Rd w B g A n c a E) (hE : E ≠ .nil) :
    Calls Tryz.prog 96 #[.pointer (some ⟨g, 0, none⟩)] w fun e w' => ∃ T x, e = .returned (.iface T x) ∧ E.At w (.iface T x) ∧ w = w' := by
  obtain ⟨_, hf, _, ev, hb, he⟩ := hR
  obtain ⟨T, x, rfl⟩ := Err.At.iface_ he hE
  have hc2 := hb.cell 2
  simp at hc2
  have HE := Lib.hid he
  clear hb he hE
  go_enter Tryz.func96, Tryz.ntmps96
  go_wp2_with fail
  go_ret
  exact ⟨T, x, rfl, HE.out, rfl⟩
theorem End_ok (g B : Nat) (A : Option Addr) (n c : Nat) (w : World) (hR : Rd w B g A n c n .nil) (hn : n ≤ 1099511627776) :
    Calls Tryz.prog 96 #[.pointer (some ⟨g, 0, none⟩)] w fun e w' => e = .returned .nilIface ∧ Below w.heap.size w w' := by
  have HL := Lib.hid (Left_any g B A n c n .nil w hR hn)
  obtain ⟨_, hf, _, ev, hb, he⟩ := hR
  obtain rfl : ev = .nilIface := he
  have hc2 := hb.cell 2
  simp at hc2
  clear hb
  go_enter Tryz.func96, Tryz.ntmps96
  go_wp2_with fail
  refine HL.out.mono ?_
  rintro e w1 ⟨rfl, hb⟩
  rw [Nat.sub_self]
  go_wp2_with fail
  go_ret
  exact ⟨rfl, hb⟩

set_option maxHeartbeats 2000000 in
theorem num_ok (g B : Nat) (A : Option Addr) (n c a : Nat) (from_ : Int) (l : List Int) (w : World) (hR : Rd w B g A n c a .nil) (hm : a + 4 ≤ n) (hn : n ≤ 1099511627776) (hnc : n ≤ c) (hc9 : c ≤ 9223372036854775807) (hl : l.length = n) (hb : Bys l) (hB : ∀ w', Below B w w' → Sl w' 1 A n (l.map (Value.int .u8))) :
    Calls Tryz.prog 159 #[.pointer (some ⟨g, 0, none⟩), .int .i64 from_] w fun e w' => e = .returned (.int .i64 (wordN (l.drop a) : Nat)) ∧ Rd w' B g A n c (a + 4) .nil ∧ Below B w w' ∧ Asd g w w' := by
  have HT := Lib.hid (take_ok g B A n c a 4 from_ l w hR hm (by omega) hn hnc hc9 (hB w (Below.refl _ _)) hB)
  have nn := fun w (C : Addr) k => nilEq w (some C) 4 k
  have hw : wordN ((l.drop a).take 4) = wordN (l.drop a) := wordN_take (by rw [List.length_drop]; omega)
  have hlt := wordN_lt (hb.drop a)
  have HWL := Lib.hid (fun W (C : Addr) k (h : Sl W 1 (some C) 4 (((l.drop a).take 4).map (Value.int .u8))) => wordAt_any ((l.drop a).take 4) (some C) 4 k W (by rw [List.length_take, List.length_drop]; omega) (by omega) ((hb.drop a).take 4) h)
  rw [hw] at HWL
  clear hR hB hb hw
  generalize wordN (l.drop a) = N at *
  go_enter Tryz.func159, Tryz.ntmps159
  go_wp2_with fail
  refine HT.out.mono ?_
  rintro e w1 ⟨C, k, rfl, hk, hs1, hR1, hb1, ha1⟩
  have HA := Lib.hid (HWL.out w1 C k (hs1 w1 hb1))
  have HR1 := Lib.hid hR1
  have HB1 := Lib.hid hb1
  have HA1 := Lib.hid ha1
  clear hs1 hR1 hb1 ha1 HT
  go_wp2_with fail
  refine HA.out.mono ?_
  rintro e w2 ⟨rfl, hq⟩
  have HQ := Lib.hid (drew_bel hq)
  clear hq
  go_wp2_with fail
  go_ret
  exact ⟨rfl, HR1.out.keep HQ.out, HB1.out.trans (HQ.out.mono (Nat.le_trans HR1.out.1 (Nat.le_of_lt (by obtain ⟨_, _, _, _, h, _⟩ := HR1.out; exact h.lt)))), HA1.out.trans (Asd.of HQ.out)⟩
end Go.Proofs.YtddedghnnkcnhaaGreatDoor
