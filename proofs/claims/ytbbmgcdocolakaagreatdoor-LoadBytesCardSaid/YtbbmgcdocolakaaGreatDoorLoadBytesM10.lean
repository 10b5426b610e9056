/-
  Part 10 of the proof of LoadBytes: WireI, PatQ, BitQ, ConC, PatU, PtD, SrtF, GrA.
-/
import Derived.Test.YtbbmgcdocolakaaGreatDoorLoadBytesM9
import Derived.BigQuiet
import Derived.Deep.RegionHeld3
import Derived.Test.YtbbmgcdocolakaaGreatDoorLoadBytesM8
import Derived.WalkKit
import Derived.Lib.Hide
import Derived.Deep.DeepCutAuto
import Derived.Shelf.SlSortCmp.NoneTotal
import Derived.Deep.RegionHeldLaw
set_option linter.unusedVariables false
/-
  Contract of the document's Put.
-/
namespace Go.Proofs.YtbbmgcdocolakaaGreatDoor
open Go.RowKit
set_option maxRecDepth 100000
set_option linter.unusedVariables false

/-- The place of the first number that can't be, or -1. -/
def badE : Err → Int
  | .flt _ a _ => a
  | _ => -1
/-- An error of a writer. -/
def WE (E : Err) : Prop := E = .nil ∨ ∃ a : Nat, a ≤ 1000000 ∧ E = .flt 3 a txtNumber
theorem WE.pNum {z : Int} {st : St} (h : WE st.2) (hl : st.1.length ≤ 1000000) : WE (pNum z st).2 := by
  unfold Go.Proofs.YtbbmgcdocolakaaGreatDoor.pNum
  split
  · exact h
  · rcases h with h | ⟨a, ha, h⟩
    · rw [h]; exact .inr ⟨_, hl, rfl⟩
    · rw [h]; exact .inr ⟨a, ha, rfl⟩
theorem WE.pNums : ∀ {l : List Int} {st : St}, WE st.2 → st.1.length + 4 * l.length ≤ 1000000 → WE (pNums l st).2
  | [], _, h, _ => h
  | z :: l, st, h, hl => by
    rw [List.length_cons] at hl
    rw [Go.Proofs.YtbbmgcdocolakaaGreatDoor.pNums]
    exact WE.pNums (h.pNum (by omega)) (by rw [pNum_len]; omega)
theorem WE.pItem {x : Item} {st : St} (h : WE st.2) (hn : near x) (hl : st.1.length ≤ 900000) : WE (pItem x st).2 := by
  obtain ⟨h1, h2, _⟩ := hn
  unfold Go.Proofs.YtbbmgcdocolakaaGreatDoor.pItem
  split
  · exact h.pNum (by omega)
  split
  · exact h
  split
  · exact h.pNum (by omega)
  · rw [pList]; exact (h.pNum (by omega)).pNums (by rw [pNum_len]; omega)
theorem WE.pItems : ∀ {l : List Item} {st : St}, WE st.2 → (∀ x ∈ l, near x) → st.1.length + 500 * l.length ≤ 900000 → WE (pItems l st).2
  | [], _, h, _, _ => h
  | x :: l, st, h, hn, hl => by
    rw [List.length_cons] at hl
    have h1 := pItem_len (hn x (List.mem_cons_self ..)) st
    rw [Go.Proofs.YtbbmgcdocolakaaGreatDoor.pItems]
    exact WE.pItems (h.pItem (hn x (List.mem_cons_self ..)) (by omega)) (fun y hy => hn y (List.mem_cons_of_mem _ hy)) (by omega)
theorem badE_nil {E : Err} (h : WE E) : badE E < 0 ↔ E = .nil := by
  rcases h with rfl | ⟨a, _, rfl⟩
  · simp [badE]
  · simp only [badE]
    constructor
    · intro h; omega
    · intro h; cases h

theorem Fits_any (z : Int) (hz : -9223372036854775808 ≤ z ∧ z ≤ 9223372036854775807) (w : World) :
    Calls Tryz.prog 51 #[.int .i64 z] w fun e w' => e = .returned (.bool (decide (fits z))) ∧ w = w' := by
  go_enter Tryz.func51, Tryz.ntmps51
  by_cases h0 : 0 ≤ z
  · by_cases h1 : z ≤ 4294967295
    · have HX := Lib.hid (show fits z from ⟨h0, h1⟩)
      go_wp2_with fail
      go_ret
      exact ⟨ret_bool (by rw [decide_eq_true HX.out]), rfl⟩
    · have HX := Lib.hid (show ¬ fits z from fun h => h1 h.2)
      go_wp2_with fail
      go_ret
      exact ⟨ret_bool (by rw [decide_eq_false HX.out]), rfl⟩
  · have HX := Lib.hid (show ¬ fits z from fun h => h0 h.1)
    go_wp2_with fail
    go_ret
    exact ⟨ret_bool (by rw [decide_eq_false HX.out]), rfl⟩
set_option maxHeartbeats 8000000 in
theorem Put_ref (xs : List Item) (A : Option Addr) (n c : Nat) (w : World) (hI : Its w A n xs) (hN : Near xs) :
    Calls Tryz.prog 21 #[.slice A n c] w fun e w' => ∃ C k, e = .returned (.tuple #[.slice C (pItems xs ([], .nil)).1.length k, .int .i64 (badE (pItems xs ([], .nil)).2)]) ∧ Sl w' 1 C (pItems xs ([], .nil)).1.length ((pItems xs ([], .nil)).1.map (Value.int .u8)) ∧ Below w.heap.size w w' := by
  have HI := Lib.hid hI
  have hlen := hI.1
  have hn40 : n ≤ 40 := by have := hN.1; omega
  have HN := Lib.hid hN
  clear hI hN
  go_enter Tryz.func21, Tryz.ntmps21
  go_wp2_with fail
  go_loopw [4, 5, 6] (fun bv dv iv wr => ∃ (i : Nat) (st : St), i ≤ n ∧ iv = .int .i64 i ∧ Hid (st = pItems (xs.take i) ([], .nil)) ∧ dv = .int .i64 (badE st.2) ∧ wr.ownsRow w.heap.size 5 1 bv st.1.length (st.1.map (Value.int .u8)) ∧ Below w.heap.size w wr) (fun _ _ iv _ => n - (intOf iv).toNat)
  case atStart => exact ⟨0, ([], .nil), Nat.zero_le _, rfl, rfl, rfl, World.ownsRow_nil _ _ _ _, Below.refl _ _⟩
  case round =>
    obtain ⟨i, st, hi, rfl, HST0, rfl, hown, hb⟩ := hrel
    obtain ⟨A4, c4, rfl, _⟩ := Sl.own hown
    have HO := Lib.hid hown
    have HB := Lib.hid hb
    by_cases hlt : i < n
    · have hj : i < xs.length := by omega
      obtain ⟨hok, b, off, LA, lc, rfl, d0, d1, d2, d3, hsl, _, _⟩ := HI.out.2 i xs[i] (List.getElem?_eq_getElem hj)
      have hck : ∀ {p : Addr} {v : Value}, w.cell? p = some v → wr.cell? p = some v := fun hp => (hb.cell (World.block_lt_of_cell? w _ hp)).trans hp
      have HCK := Lib.hid (fun W (hW : Below w.heap.size w W) => (show ∀ (p : Addr) (v : Value), w.cell? p = some v → W.cell? p = some v from fun _ _ hp => (hW.cell (World.block_lt_of_cell? w _ hp)).trans hp))
      have c0 := hck d0
      have c1 := hck d1
      have c2 := hck d2
      have c3 := hck d3
      have HD2 := Lib.hid d2
      have HD3 := Lib.hid d3
      clear hck d0 d1 d2 d3
      have HT := Lib.hid (List.take_succ_eq_append_getElem hj)
      have hnr := HN.out.2 _ (List.getElem_mem hj)
      have hbl := pItems_len (l := xs.take i) (fun x hx => HN.out.2 x (List.mem_of_mem_take hx)) ([], .nil)
      have hwe := WE.pItems (l := xs.take i) (st := ([], .nil)) (.inl rfl) (fun x hx => HN.out.2 x (List.mem_of_mem_take hx)) (by rw [List.length_take]; simp only [List.length_nil]; omega)
      rw [List.length_take] at hbl
      simp only [List.length_nil] at hbl
      rw [← HST0.out] at hbl hwe
      have HWE := Lib.hid hwe
      generalize xs[i] = x at *
      obtain ⟨k1, k2, k3, k4, k5⟩ := hok
      obtain ⟨n1, n2, n3, n4⟩ := hnr
      have HS := Lib.hid hsl
      have HK5 := Lib.hid k5
      have hbl2 : st.1.length ≤ 20000 := by omega
      clear hsl k5 hown hb hwe hbl
      by_cases e0 : x.kind = 0
      · have HE := Lib.hid (show pItem x st = pNum x.n st by rw [pItem, if_pos e0])
        have e0' : (x.kind == 0) = true := by simpa using e0
        clear e0
        go_wp2_with fail
        refine (Fits_any x.n k2 wr).mono ?_
        rintro e w0 ⟨rfl, rfl⟩
        by_cases hf : fits x.n
        · rw [decide_eq_true hf]
          obtain ⟨k, hk⟩ := Int.eq_ofNat_of_zero_le hf.1
          have hk2 : k < 4294967296 := by have := hf.2; omega
          have HST := Lib.hid (show pNum x.n st = (st.1 ++ wordL k, st.2) by rw [pNum, if_pos hf, hk]; rfl)
          clear hf
          go_wp2_with fail
          refine (RefWord_any k hk2 wr).mono ?_
          rintro e w2 ⟨A2, c2, rfl, hs2, hb2⟩
          have HO2 := Lib.hid (own_below HO.out (fun g hg => (HO.out.lt g hg).2) hb2)
          have HB2 := Lib.hid (HB.out.andThen hb2)
          have HS2 := Lib.hid hs2
          clear hs2 hb2
          go_wp2_with (at_builtin; refine wpList_cat_at elemByte _ _ rfl rfl HO2.out HB2.out.size HS2.out rfl rfl (one_u8 _) (by unfold lim; omega) (by unfold lim; omega) ?_; intro v3 w3 hown3 hg3; have HO3 := Lib.hid hown3; have HB3 := Lib.hid (HB2.out.trans (hg3.belowOwn HB2.out.size HO2.out)); clear hown3 hg3)
          go_roundw
          case rel => exact ⟨i + 1, pItem x st, by omega, by go_num, by show _ = _; rw [HT.out, pItems_snoc, HST0.out], by rw [HE.out, HST.out] <;> first | rfl | (rw [HBD.out]), by rw [HE.out, HST.out, List.length_append, wordL_len, List.map_append]; exact HO3.out, HB3.out⟩
          case measure => simp [intOf]; omega
        · rw [decide_eq_false hf]
          by_cases hE : st.2 = .nil
          · have HST := Lib.hid (show pNum x.n st = (st.1 ++ wordL 0, .flt 3 st.1.length txtNumber) by rw [pNum, if_neg hf, hE]; rfl)
            have hbd : badE st.2 = -1 := by rw [hE]; rfl
            clear hf hE
            go_wp2_with fail
            refine (RefWord_any 0 (by omega) wr).mono ?_
            rintro e w2 ⟨A2, c2, rfl, hs2, hb2⟩
            have HO2 := Lib.hid (own_below HO.out (fun g hg => (HO.out.lt g hg).2) hb2)
            have HB2 := Lib.hid (HB.out.andThen hb2)
            have HS2 := Lib.hid hs2
            clear hs2 hb2
            go_wp2_with (at_builtin; refine wpList_cat_at elemByte _ _ rfl rfl HO2.out HB2.out.size HS2.out rfl rfl (one_u8 _) (by unfold lim; omega) (by unfold lim; omega) ?_; intro v3 w3 hown3 hg3; have HO3 := Lib.hid hown3; have HB3 := Lib.hid (HB2.out.trans (hg3.belowOwn HB2.out.size HO2.out)); clear hown3 hg3)
            go_roundw
            case rel => exact ⟨i + 1, pItem x st, by omega, by go_num, by show _ = _; rw [HT.out, pItems_snoc, HST0.out], by rw [HE.out, HST.out] <;> first | rfl | (rw [HBD.out]), by rw [HE.out, HST.out, List.length_append, wordL_len, List.map_append]; exact HO3.out, HB3.out⟩
            case measure => simp [intOf]; omega
          · obtain ⟨a, ha, hE'⟩ := HWE.out.resolve_left hE
            have HST := Lib.hid (show pNum x.n st = (st.1 ++ wordL 0, st.2) by rw [pNum, if_neg hf, hE']; rfl)
            have hbd : badE st.2 = a := by rw [hE']; rfl
            have HBD := Lib.hid hbd
            clear hf hE hE'
            go_wp2_with fail
            refine (RefWord_any 0 (by omega) wr).mono ?_
            rintro e w2 ⟨A2, c2, rfl, hs2, hb2⟩
            have HO2 := Lib.hid (own_below HO.out (fun g hg => (HO.out.lt g hg).2) hb2)
            have HB2 := Lib.hid (HB.out.andThen hb2)
            have HS2 := Lib.hid hs2
            clear hs2 hb2
            go_wp2_with (at_builtin; refine wpList_cat_at elemByte _ _ rfl rfl HO2.out HB2.out.size HS2.out rfl rfl (one_u8 _) (by unfold lim; omega) (by unfold lim; omega) ?_; intro v3 w3 hown3 hg3; have HO3 := Lib.hid hown3; have HB3 := Lib.hid (HB2.out.trans (hg3.belowOwn HB2.out.size HO2.out)); clear hown3 hg3)
            go_roundw
            case rel => exact ⟨i + 1, pItem x st, by omega, by go_num, by show _ = _; rw [HT.out, pItems_snoc, HST0.out], by rw [HE.out, HST.out] <;> first | rfl | (rw [HBD.out]), by rw [HE.out, HST.out, List.length_append, wordL_len, List.map_append]; exact HO3.out, HB3.out⟩
            case measure => simp [intOf]; omega
      · have e0' : (x.kind == 0) = false := by simpa using e0
        by_cases e1 : x.kind = 1
        · have HE := Lib.hid (show pItem x st = pLong x.n st by rw [pItem, if_neg e0, if_pos e1])
          have e1' : (x.kind == 1) = true := by simpa using e1
          have hh : x.n % 18446744073709551616 / 4294967296 = (hiN x.n : Int) := by unfold hiN; omega
          have hu : IntKind.u64.wrap x.n = x.n % 18446744073709551616 := IntKind.wrap_u64 x.n
          have hlo : x.n % 18446744073709551616 % 4294967296 = (loN x.n : Int) := by unfold loN; omega
          have hl1 := hiN_lt x.n
          have hl2 := loN_lt x.n
          clear e0 e1
          go_wp2_with fail
          refine (RefWord_any (hiN x.n) hl1 wr).mono ?_
          rintro e w2 ⟨A2, c2, rfl, hs2, hb2⟩
          have HO2 := Lib.hid (own_below HO.out (fun g hg => (HO.out.lt g hg).2) hb2)
          have HB2 := Lib.hid (HB.out.andThen hb2)
          have HS2 := Lib.hid hs2
          clear hs2 hb2
          go_wp2_with (at_builtin; refine wpList_cat_at elemByte _ _ rfl rfl HO2.out HB2.out.size HS2.out rfl rfl (one_u8 _) (by unfold lim; omega) (by unfold lim; omega) ?_; intro v3 w3 hown3 hg3; have HO3 := Lib.hid hown3; have HB3 := Lib.hid (HB2.out.trans (hg3.belowOwn HB2.out.size HO2.out)); clear hown3 hg3)
          obtain ⟨A3, c3', rfl, _⟩ := Sl.own HO3.out
          refine (RefWord_any (loN x.n) hl2 w3).mono ?_
          rintro e w4 ⟨A4, c4, rfl, hs4, hb4⟩
          have HO4 := Lib.hid (own_below HO3.out (fun g hg => (HO3.out.lt g hg).2) hb4)
          have HB4 := Lib.hid (HB3.out.andThen hb4)
          have HS4 := Lib.hid hs4
          clear hs4 hb4
          go_wp2_with (at_builtin; refine wpList_cat_at elemByte _ _ rfl rfl HO4.out HB4.out.size HS4.out rfl rfl (one_u8 _) (by unfold lim; omega) (by unfold lim; omega) ?_; intro v5 w5 hown5 hg5; have HO5 := Lib.hid hown5; have HB5 := Lib.hid (HB4.out.trans (hg5.belowOwn HB4.out.size HO4.out)); clear hown5 hg5)
          go_roundw
          case rel => exact ⟨i + 1, pItem x st, by omega, by go_num, by show _ = _; rw [HT.out, pItems_snoc, HST0.out], by rw [HE.out]; rfl, by rw [HE.out, pLong, List.length_append, List.length_append, wordL_len, wordL_len, List.map_append, List.map_append]; exact HO5.out, HB5.out⟩
          case measure => simp [intOf]; omega
        · have e1' : (x.kind == 1) = false := by simpa using e1
          by_cases e2 : x.kind = 2
          · have HE := Lib.hid (show pItem x st = (st.1 ++ wordL x.s.size ++ sB x.s, st.2) by
              have hfit : fits (x.s.size : Int) := ⟨by omega, by omega⟩
              rw [pItem, if_neg e0, if_neg e1, if_pos e2, pText, pNum, if_pos hfit]; rfl)
            have e2' : (x.kind == 2) = true := by simpa using e2
            clear e0 e1 e2
            go_wp2_with fail
            refine (RefWord_any x.s.size (by omega) wr).mono ?_
            rintro e w2 ⟨A2, c2, rfl, hs2, hb2⟩
            have HO2 := Lib.hid (own_below HO.out (fun g hg => (HO.out.lt g hg).2) hb2)
            have HB2 := Lib.hid (HB.out.andThen hb2)
            have HS2 := Lib.hid hs2
            clear hs2 hb2
            have c2b := HCK.out w2 HB2.out _ _ HD2.out
            go_wp2_with (first
              | (at_builtin; refine wpList_cat_lies elemByte _ _ rfl rfl HO2.out HB2.out.size HS2.out (by omega) rfl rfl (one_u8 _) (by unfold lim; omega) (by unfold lim; omega) ?_; intro g3 q3 w3 hown3 hg3; have HO3 := Lib.hid hown3; have HB3 := Lib.hid (HB2.out.trans (hg3.belowOwn HB2.out.size HO2.out)); have c2d := HCK.out w3 HB3.out _ _ HD2.out; clear hown3 hg3 HO2 HB2)
              | (at_builtin; refine wpList_str_lies elemByte Tryz.underlying9 _ _ rfl rfl (l := st.1 ++ wordL x.s.size) (by rw [List.map_append]; exact HO3.out) HB3.out.size (s := x.s) (by omega) rfl rfl (by unfold lim; omega) ?_; intro g4 q4 w4 hown4 hg4; have HO4 := Lib.hid hown4; have HB4 := Lib.hid (HB3.out.grown hg4 HB3.out.size (fun k hk => (HO3.out.lt k hk).1)); clear hown4 hg4 HO3 HB3))
            go_roundw
            case rel => exact ⟨i + 1, pItem x st, by omega, by go_num, by show _ = _; rw [HT.out, pItems_snoc, HST0.out], by rw [HE.out], by rw [HE.out, List.length_append, List.length_append, wordL_len, sB_len]; exact HO4.out, HB4.out⟩
            case measure => simp [intOf]; omega
          · have e2' : (x.kind == 2) = false := by simpa using e2
            have e3' : (x.kind == 3) = true := by simp; omega
            have hfit : fits (x.l.length : Int) := ⟨by omega, by omega⟩
            have HE := Lib.hid (show pItem x st = pNums x.l (st.1 ++ wordL x.l.length, st.2) by
              rw [pItem, if_neg e0, if_neg e1, if_neg e2, pList, pNum, if_pos hfit]; rfl)
            clear e0 e1 e2 hfit
            go_wp2_with fail
            refine (RefWord_any x.l.length (by omega) wr).mono ?_
            rintro e w2 ⟨A2, c2, rfl, hs2, hb2⟩
            have HO2 := Lib.hid (own_below HO.out (fun g hg => (HO.out.lt g hg).2) hb2)
            have HB2 := Lib.hid (HB.out.andThen hb2)
            have HS2 := Lib.hid hs2
            clear hs2 hb2
            go_wp2_with (at_builtin; refine wpList_cat_at elemByte _ _ rfl rfl HO2.out HB2.out.size HS2.out rfl rfl (one_u8 _) (by unfold lim; omega) (by unfold lim; omega) ?_; intro v3 w3 hown3 hg3; have HO3 := Lib.hid hown3; have HB3 := Lib.hid (HB2.out.trans (hg3.belowOwn HB2.out.size HO2.out)); clear hown3 hg3)
            have hm2 : (st.1 ++ wordL x.l.length).length = st.1.length + 4 := by rw [List.length_append, wordL_len]
            have HM2 := Lib.hid hm2
            clear hm2
            go_loopw [4, 5, 9] (fun bv dv jv wq => ∃ (j : Nat) (sj : St), j ≤ x.l.length ∧ jv = .int .i64 j ∧ Hid (sj = pNums (x.l.take j) (st.1 ++ wordL x.l.length, st.2)) ∧ dv = .int .i64 (badE sj.2) ∧ wq.ownsRow w.heap.size 5 1 bv sj.1.length (sj.1.map (Value.int .u8)) ∧ Below w.heap.size w wq) (fun _ _ jv _ => x.l.length - (intOf jv).toNat)
            case atStart => exact ⟨0, (st.1 ++ wordL x.l.length, st.2), Nat.zero_le _, rfl, rfl, rfl, by rw [HM2.out, List.map_append]; exact HO3.out, HB3.out⟩
            case round =>
              obtain ⟨j, sj, hj2, rfl, HSJ, rfl, hown, hb⟩ := hrel
              obtain ⟨A5, c5, rfl, _⟩ := Sl.own hown
              have HO := Lib.hid hown
              have HB := Lib.hid hb
              have c3e := HCK.out wr hb _ _ HD3.out
              by_cases hlt2 : j < x.l.length
              · obtain ⟨b6, off6, u6', rfl, e6, c6⟩ := (HS.out.keep hb).one hlt2
                rw [List.getElem?_map, List.getElem?_eq_getElem hlt2] at e6
                obtain rfl := Option.some.inj e6
                have HTJ := Lib.hid (List.take_succ_eq_append_getElem hlt2)
                have hz := HK5.out _ (List.getElem_mem hlt2)
                have hlen2 := pNums_len (x.l.take j) (st.1 ++ wordL x.l.length, st.2)
                have hwe2 := WE.pNums (l := x.l.take j) (st := (st.1 ++ wordL x.l.length, st.2)) HWE.out (by rw [HM2.out, List.length_take]; omega)
                simp only [HM2.out] at hlen2
                rw [List.length_take] at hlen2
                rw [← HSJ.out] at hlen2 hwe2
                have HWE := Lib.hid hwe2
                generalize x.l[j] = z at *
                have hsl2 : sj.1.length ≤ 30000 := by omega
                clear e6 hown hb hlen2 hwe2
                go_wp2_with fail
                refine (Fits_any z hz wr).mono ?_
                rintro e w0 ⟨rfl, rfl⟩
                by_cases hf : fits z
                · rw [decide_eq_true hf]
                  obtain ⟨k, hk⟩ := Int.eq_ofNat_of_zero_le hf.1
                  have hk2 : k < 4294967296 := by have := hf.2; omega
                  have HST := Lib.hid (show pNum z sj = (sj.1 ++ wordL k, sj.2) by rw [pNum, if_pos hf, hk]; rfl)
                  clear hf
                  go_wp2_with fail
                  refine (RefWord_any k hk2 wr).mono ?_
                  rintro e w2 ⟨A2, c2, rfl, hs2, hb2⟩
                  have HO2 := Lib.hid (own_below HO.out (fun g hg => (HO.out.lt g hg).2) hb2)
                  have HB2 := Lib.hid (HB.out.andThen hb2)
                  have HS2 := Lib.hid hs2
                  clear hs2 hb2
                  go_wp2_with (at_builtin; refine wpList_cat_at elemByte _ _ rfl rfl HO2.out HB2.out.size HS2.out rfl rfl (one_u8 _) (by unfold lim; omega) (by unfold lim; omega) ?_; intro v3 w3 hown3 hg3; have HO3 := Lib.hid hown3; have HB3 := Lib.hid (HB2.out.trans (hg3.belowOwn HB2.out.size HO2.out)); clear hown3 hg3)
                  go_roundw
                  case rel => exact ⟨j + 1, pNum z sj, by omega, by go_num, by show _ = _; rw [HTJ.out, pNums_snoc, HSJ.out], by rw [HST.out] <;> first | rfl | (rw [HBD.out]), by rw [HST.out, List.length_append, wordL_len, List.map_append]; exact HO3.out, HB3.out⟩
                  case measure => simp [intOf]; omega
                · rw [decide_eq_false hf]
                  by_cases hE : sj.2 = .nil
                  · have HST := Lib.hid (show pNum z sj = (sj.1 ++ wordL 0, .flt 3 sj.1.length txtNumber) by rw [pNum, if_neg hf, hE]; rfl)
                    have hbd : badE sj.2 = -1 := by rw [hE]; rfl
                    clear hf hE
                    go_wp2_with fail
                    refine (RefWord_any 0 (by omega) wr).mono ?_
                    rintro e w2 ⟨A2, c2, rfl, hs2, hb2⟩
                    have HO2 := Lib.hid (own_below HO.out (fun g hg => (HO.out.lt g hg).2) hb2)
                    have HB2 := Lib.hid (HB.out.andThen hb2)
                    have HS2 := Lib.hid hs2
                    clear hs2 hb2
                    go_wp2_with (at_builtin; refine wpList_cat_at elemByte _ _ rfl rfl HO2.out HB2.out.size HS2.out rfl rfl (one_u8 _) (by unfold lim; omega) (by unfold lim; omega) ?_; intro v3 w3 hown3 hg3; have HO3 := Lib.hid hown3; have HB3 := Lib.hid (HB2.out.trans (hg3.belowOwn HB2.out.size HO2.out)); clear hown3 hg3)
                    go_roundw
                    case rel => exact ⟨j + 1, pNum z sj, by omega, by go_num, by show _ = _; rw [HTJ.out, pNums_snoc, HSJ.out], by rw [HST.out] <;> first | rfl | (rw [HBD.out]), by rw [HST.out, List.length_append, wordL_len, List.map_append]; exact HO3.out, HB3.out⟩
                    case measure => simp [intOf]; omega
                  · obtain ⟨a, ha, hE'⟩ := HWE.out.resolve_left hE
                    have HST := Lib.hid (show pNum z sj = (sj.1 ++ wordL 0, sj.2) by rw [pNum, if_neg hf, hE']; rfl)
                    have hbd : badE sj.2 = a := by rw [hE']; rfl
                    have HBD := Lib.hid hbd
                    clear hf hE hE'
                    go_wp2_with fail
                    refine (RefWord_any 0 (by omega) wr).mono ?_
                    rintro e w2 ⟨A2, c2, rfl, hs2, hb2⟩
                    have HO2 := Lib.hid (own_below HO.out (fun g hg => (HO.out.lt g hg).2) hb2)
                    have HB2 := Lib.hid (HB.out.andThen hb2)
                    have HS2 := Lib.hid hs2
                    clear hs2 hb2
                    go_wp2_with (at_builtin; refine wpList_cat_at elemByte _ _ rfl rfl HO2.out HB2.out.size HS2.out rfl rfl (one_u8 _) (by unfold lim; omega) (by unfold lim; omega) ?_; intro v3 w3 hown3 hg3; have HO3 := Lib.hid hown3; have HB3 := Lib.hid (HB2.out.trans (hg3.belowOwn HB2.out.size HO2.out)); clear hown3 hg3)
                    go_roundw
                    case rel => exact ⟨j + 1, pNum z sj, by omega, by go_num, by show _ = _; rw [HTJ.out, pNums_snoc, HSJ.out], by rw [HST.out] <;> first | rfl | (rw [HBD.out]), by rw [HST.out, List.length_append, wordL_len, List.map_append]; exact HO3.out, HB3.out⟩
                    case measure => simp [intOf]; omega
              · obtain rfl : j = x.l.length := by omega
                rw [List.take_of_length_le (Nat.le_refl _)] at HSJ
                clear hown
                go_wp2_with fail
                go_roundw
                case rel => exact ⟨i + 1, pItem x st, by omega, by go_num, by show _ = _; rw [HT.out, pItems_snoc, HST0.out], by rw [HE.out, HSJ.out], by rw [HE.out, ← HSJ.out]; exact HO.out, HB.out⟩
                case measure => simp [intOf]; omega
    · obtain rfl : i = n := by omega
      rw [List.take_of_length_le (by omega)] at HST0
      have HX := Lib.hid (Sl.of_own HO.out)
      clear hown
      go_wp2_with fail
      go_ret2
      exact ⟨A4, c4, by rw [← HST0.out]; rfl, by rw [← HST0.out]; exact HX.out, HB.out⟩
end Go.Proofs.YtbbmgcdocolakaaGreatDoor
/-
  The document's bytes of a pattern.
-/
namespace Go.Proofs.YtbbmgcdocolakaaGreatDoor
open Go.RowKit
set_option maxRecDepth 100000
set_option linter.unusedVariables false

theorem pNums_enc : ∀ (l : List Int) (st : St), (∀ x ∈ l, fits x) → pNums l st = (st.1 ++ l.flatMap fun x => wordL x.toNat, st.2)
  | [], st, _ => by rw [pNums]; simp
  | z :: l, st, h => by
    rw [pNums, pNums_enc l _ fun x hx => h x (List.mem_cons_of_mem _ hx)]
    unfold pNum
    rw [if_pos (h z (List.mem_cons_self ..)), List.flatMap_cons, List.append_assoc]
theorem pList_enc {l : List Int} (st : St) (h : ∀ x ∈ l, fits x) (hl : l.length ≤ 1000000) : pList l st = (st.1 ++ encW l, st.2) := by
  unfold pList
  rw [pNums_enc l _ h]
  unfold pNum encW
  rw [if_pos (show fits ((l.length : Nat) : Int) from ⟨by omega, by omega⟩), Int.toNat_natCast, List.append_assoc]
/-- Two lists, as the document puts them. -/
theorem put_two {L M : List Int} (hL : ∀ x ∈ L, fits x) (hM : ∀ x ∈ M, fits x) (h1 : L.length ≤ 60) (h2 : M.length ≤ 60) : (pItems [⟨3, 0, ⟨#[]⟩, L⟩, ⟨3, 0, ⟨#[]⟩, M⟩] ([], .nil)).1 = encW L ++ encW M := by
  rw [pItems, pItems, pItems]
  unfold pItem
  simp only
  rw [if_neg (by decide), if_neg (by decide), if_neg (by decide), if_neg (by decide), if_neg (by decide), if_neg (by decide), pList_enc _ hL (by omega), pList_enc _ hM (by omega), List.nil_append]
/-- All edges that eight vertices can have. -/
def allE : List (Int × Int) := (List.range 8).flatMap fun a : Nat => ((List.range 8).filter fun b : Nat => decide (a < b)).map fun b : Nat => ((a : Int), (b : Int))
theorem allE_len : allE.length = 28 := by decide
theorem allE_mem {e : Int × Int} (h0 : 0 ≤ e.1) (h1 : e.1 < e.2) (h2 : e.2 < 8) : e ∈ allE := by
  unfold allE
  refine List.mem_flatMap.2 ⟨e.1.toNat, List.mem_range.2 (by omega), List.mem_map.2 ⟨e.2.toNat, List.mem_filter.2 ⟨List.mem_range.2 (by omega), by simp; omega⟩, ?_⟩⟩
  exact Prod.ext (by simp only; omega) (by simp only; omega)
theorem lessP_trans {a b c d e f : Int} (h1 : lessP a b c d) (h2 : lessP c d e f) : lessP a b e f := by unfold lessP at *; omega
/-- A pattern that is right has at most 28 edges. -/
theorem right_few {L : List Int} {E : List (Int × Int)} (h : rightP L E) : E.length ≤ 28 := by
  have hlt : ∀ j i (hi : i < j) (hj : j < E.length), lessP (E[i]'(by omega)).1 (E[i]'(by omega)).2 E[j].1 E[j].2 := by
    intro j
    induction j with
    | zero => intro i hi; omega
    | succ j ih =>
      intro i hi hj
      have h1 := (h.2 (j + 1) E[j + 1] (List.getElem?_eq_getElem hj)).2 E[j] (Nat.succ_pos _) (by rw [show j + 1 - 1 = j from rfl]; exact List.getElem?_eq_getElem (by omega))
      have h2 := (ordE_less _ _ _ _).1 h1
      by_cases he : i = j
      · subst he; exact h2
      · exact lessP_trans (ih i (by omega) (by omega)) h2
  have hnd : E.Nodup := by
    refine List.pairwise_iff_getElem.2 fun i j hi hj hij e => ?_
    have := hlt j i hij hj
    rw [e] at this
    unfold lessP at this
    omega
  have h8 := h.1.1
  have := sub_lenP E allE hnd fun e he => by
    obtain ⟨i, hi, he2⟩ := List.mem_iff_getElem.1 he
    have h1 := (h.2 i e (by rw [List.getElem?_eq_getElem hi, he2])).1
    unfold Pt.EdgeOK at h1
    exact allE_mem h1.1 h1.2.1 (by omega)
  rwa [allE_len] at this
theorem right_fits {L : List Int} {E : List (Int × Int)} (h : rightP L E) : (∀ x ∈ L, fits x) ∧ (∀ e ∈ E, fits e.1 ∧ fits e.2) ∧ (∀ x ∈ endsL E, fits x) := by
  have h1 : ∀ x ∈ L, fits x := fun x hx => by have := h.1.2 x hx; unfold fits; omega
  have h2 : ∀ e ∈ E, fits e.1 ∧ fits e.2 := fun e he => by have := right_edges h e he; have := h.1.1; unfold fits; omega
  refine ⟨h1, h2, fun z hz => ?_⟩
  obtain ⟨e, he, h⟩ := List.mem_flatMap.1 hz
  rcases List.mem_cons.1 h with rfl | h
  · exact (h2 e he).1
  · rw [List.mem_singleton.1 h]
    exact (h2 e he).2

end Go.Proofs.YtbbmgcdocolakaaGreatDoor
/-
  Bits of an int, plainly: tested, set, by small numbers.
-/
namespace Go.Proofs.YtbbmgcdocolakaaGreatDoor
open Go.RowKit
set_option linter.unusedVariables false

theorem bq_and (a b : Nat) (ha : a < 2^63) (hb : b < 2^63) : bits .and .i64 a b = ((a &&& b : Nat) : Int) := by
  have h1 : (BitVec.ofInt 64 (a : Int) &&& BitVec.ofInt 64 (b : Int)).toNat = a &&& b := by
    rw [BitVec.toNat_and, BitVec.ofInt_natCast, BitVec.ofInt_natCast, BitVec.toNat_ofNat, BitVec.toNat_ofNat, Nat.mod_eq_of_lt (by omega), Nat.mod_eq_of_lt (by omega)]
  have h2 : a &&& b < 2^63 := Nat.lt_of_le_of_lt Nat.and_le_left ha
  show IntKind.i64.wrap (((BitVec.ofInt 64 (a : Int) &&& BitVec.ofInt 64 (b : Int)).toNat : Nat) : Int) = _
  rw [h1]
  exact IntWalk.i64_in _ (by omega)
theorem bq_or (a b : Nat) (ha : a < 2^63) (hb : b < 2^63) : bits .or .i64 a b = ((a ||| b : Nat) : Int) := by
  have h1 : (BitVec.ofInt 64 (a : Int) ||| BitVec.ofInt 64 (b : Int)).toNat = a ||| b := by
    rw [BitVec.toNat_or, BitVec.ofInt_natCast, BitVec.ofInt_natCast, BitVec.toNat_ofNat, BitVec.toNat_ofNat, Nat.mod_eq_of_lt (by omega), Nat.mod_eq_of_lt (by omega)]
  have h2 : a ||| b < 2^63 := Nat.or_lt_two_pow ha hb
  show IntKind.i64.wrap (((BitVec.ofInt 64 (a : Int) ||| BitVec.ofInt 64 (b : Int)).toNat : Nat) : Int) = _
  rw [h1]
  exact IntWalk.i64_in _ (by omega)
theorem bq_test (m y : Nat) (hm : m < 256) : (bits .and .i64 ((m : Int) / 2 ^ y) 1 == 1) = m.testBit y := by
  have h0 : ((m : Int) / 2 ^ y) = ((m >>> y : Nat) : Int) := by rw [Nat.shiftRight_eq_div_pow]; push_cast; rfl
  have h1 : m >>> y ≤ m := by rw [Nat.shiftRight_eq_div_pow]; exact Nat.div_le_self _ _
  rw [h0, show (1 : Int) = ((1 : Nat) : Int) from rfl, bq_and _ _ (by omega) (by omega), Nat.testBit, Nat.and_comm]
  generalize hq : (1 &&& m >>> y) = q
  have hq2 : q < 2 := by rw [← hq, Nat.one_and_eq_mod_two]; omega
  match q, hq2 with
  | 0, _ => rfl
  | 1, _ => rfl
theorem bq_pow {y : Nat} (hy : y ≤ 8) : 2 ^ y ≤ 256 := by
  have : 2 ^ y ≤ 2 ^ 8 := Nat.pow_le_pow_right (by omega) hy
  omega
theorem bq_shl {y : Nat} (hy : y ≤ 8) : wrap64 (2 ^ y) = ((2 ^ y : Nat) : Int) := by
  have hp := bq_pow hy
  have : ((2 : Int) ^ y) = ((2 ^ y : Nat) : Int) := by push_cast; rfl
  rw [this]
  generalize 2 ^ y = q at hp
  exact IntWalk.wrap64_in (q : Int) (by omega)
theorem bq_set2 {m a b : Nat} (hm : m < 256) (ha : a < 8) (hb : b < 8) : bits .or .i64 (m : Int) (bits .or .i64 (wrap64 (2 ^ a)) (wrap64 (2 ^ b))) = ((m ||| (1 <<< a ||| 1 <<< b) : Nat) : Int) := by
  have h1 : 2 ^ a < 2 ^ 8 := Nat.pow_lt_pow_right (by omega) ha
  have h2 : 2 ^ b < 2 ^ 8 := Nat.pow_lt_pow_right (by omega) hb
  have h3 : 2 ^ a ||| 2 ^ b < 2 ^ 8 := Nat.or_lt_two_pow h1 h2
  rw [bq_shl (by omega), bq_shl (by omega), bq_or _ _ (by omega) (by omega), bq_or _ _ (by omega) (by omega), Nat.one_shiftLeft, Nat.one_shiftLeft]
end Go.Proofs.YtbbmgcdocolakaaGreatDoor
/-
  pat.Connected: by bit masks.
-/
namespace Go.Proofs.YtbbmgcdocolakaaGreatDoor
open Go.RowKit
set_option maxRecDepth 100000
set_option linter.unusedVariables false

theorem passM_take {E : List (Int × Int)} {j s : Nat} {e : Int × Int} (h : E[j]? = some e) : passM (E.take (j + 1)) s = stepM (passM (E.take j) s) e := by
  obtain ⟨h1, h2⟩ := List.getElem?_eq_some_iff.1 h
  unfold passM
  rw [List.take_succ_eq_append_getElem h1, h2, List.foldl_append]
  rfl
theorem right_nil {L : List Int} {E : List (Int × Int)} {P : Program} {f : FuncId} {args : Array Value} {w : World} (h : rightP L E) (hc : Calls P f args w (RightRes L E w)) : Calls P f args w fun e w' => e = .returned .nilIface ∧ Below w.heap.size w w' :=
  hc.mono fun e w' hr => by
    rcases hr with ⟨_, h1, h2⟩ | ⟨hn, _⟩
    · exact ⟨h1, h2⟩
    · exact absurd h hn
theorem right_bad {L : List Int} {E : List (Int × Int)} {P : Program} {f : FuncId} {args : Array Value} {w : World} (h : ¬ rightP L E) (hc : Calls P f args w (RightRes L E w)) : Calls P f args w fun e w' => ∃ (g : Nat) (c a : Int) (s : ByteArray), e = .returned (.iface 78 (.pointer (some ⟨g, 0, none⟩))) ∧ (Err.flt c a s).At w' (.iface 78 (.pointer (some ⟨g, 0, none⟩))) ∧ Below w.heap.size w w' ∧ 0 < c :=
  hc.mono fun e w' hr => by
    rcases hr with ⟨hn, _⟩ | ⟨_, c, a, s, v, rfl, ⟨g, rfl, hk⟩, hb, hc, _⟩
    · exact absurd hn h
    · exact ⟨g, c, a, s, rfl, ⟨g, rfl, hk⟩, hb, hc⟩

end Go.Proofs.YtbbmgcdocolakaaGreatDoor
/-
  pat.Of: of any bytes.
-/
namespace Go.Proofs.YtbbmgcdocolakaaGreatDoor
open Go.RowKit
set_option maxRecDepth 100000
set_option linter.unusedVariables false

section
variable {w w' : World} {R : Nat} {cs : Array Value}
end
/-- What Of answers. -/
def OfRes (l : List Int) (w : World) (e : Ending) (w' : World) : Prop :=
  Below w.heap.size w w' ∧ ((∃ (A : Option Addr) (n c : Nat) (B : Option Addr) (m d : Nat) (L : List Int) (E : List (Int × Int)), e = .returned (.tuple #[pv A n c B m d, .nilIface]) ∧ rightP L E ∧ L.length = n ∧ Sl w' 1 A n (L.map (Value.int .i64)) ∧ Sl w' 2 B m (Rk.cells E) ∧ bytesP L E = l ∧ n ≤ c ∧ c ≤ 9223372036854775807) ∨
    (∃ (Er : Err) (T : TypeId) (x : Value), e = .returned (.tuple #[pv none 0 0 none 0 0, .iface T x]) ∧ Er.At w' (.iface T x) ∧ 0 < Er.code ∧ ∀ L E, rightP L E → bytesP L E ≠ l))

end Go.Proofs.YtbbmgcdocolakaaGreatDoor
/-
  pat.Turn: a right pattern, turned by an order.
-/
namespace Go.Proofs.YtbbmgcdocolakaaGreatDoor
open Go.RowKit Go.Lib Go.Proofs
open Go.Sort hiding Below
attribute [local go_sem ↓] Go.wp_at_zero Go.wp_at_succ
set_option maxRecDepth 100000
set_option linter.unusedVariables false

/-- Two rows of which one is the other in some order. -/
theorem perm_of_permIn {n : Nat} {E : List (Int × Int)} {d : Array (Int × Int)} (hn : E.length = n) (h : PermIn 0 n E.toArray d) : d.toList.Perm E := by
  obtain ⟨hsz, _, hp⟩ := h
  have hs : d.size = n := by rw [hsz]; simpa using hn
  rw [show d.extract 0 n = d from by rw [← hs]; exact Array.extract_size, show E.toArray.extract 0 n = E.toArray from by rw [← hn, ← List.size_toArray]; exact Array.extract_size] at hp
  exact hp
theorem rise_of_sorted {n : Nat} {d : Array (Int × Int)} (hn : d.size = n) (hd : d.toList.Nodup) (h : SortedIn (ltOf Pt.ordE) 0 n d) : Pt.Rise d.toList := by
  rw [Pt.Rise, List.pairwise_iff_getElem]
  intro i j hi hj hij
  have hi' : i < d.size := by simpa using hi
  have hj' : j < d.size := by simpa using hj
  have h1 := h i j (Nat.zero_le _) hij (by omega)
  have ea : d[i]! = d.toList[i] := by rw [getElem!_pos d i hi']; simp
  have eb : d[j]! = d.toList[j] := by rw [getElem!_pos d j hj']; simp
  rw [ea, eb] at h1
  unfold ltOf at h1
  simp only [decide_eq_false_iff_not] at h1
  have h2 := Pt.cp_edge.anti d.toList[i] d.toList[j]
  have h3 : Pt.ordE d.toList[i] d.toList[j] ≠ 0 := fun e => by
    have e2 := Pt.ordE_zero e
    exact List.pairwise_iff_getElem.1 hd i j hi hj hij e2
  omega
theorem map_take_succE {α β : Type} (f : α → β) (l : List α) (k : Nat) (x : α) (h : l[k]? = some x) : (l.take (k + 1)).map f = (l.take k).map f ++ [f x] := by
  obtain ⟨h1, h2⟩ := List.getElem?_eq_some_iff.1 h
  rw [List.take_succ_eq_append_getElem h1, List.map_append, h2]
  rfl
theorem nodup_map {u : List Int} {E : List (Int × Int)} (hu : Ord u) (hE : ∀ e ∈ E, Pt.EdgeOK u.length e) (hd : E.Nodup) : (E.map (Pt.mapE u)).Nodup := by
  rw [List.Nodup, List.pairwise_map]
  exact List.Pairwise.imp_of_mem (fun ha hb hne h => hne (Pt.mapE_inj hu (hE _ ha) (hE _ hb) h)) hd
theorem rise_nodup {E : List (Int × Int)} (h : Pt.Rise E) : E.Nodup :=
  List.Pairwise.imp (fun {a b} hab e => by subst e; have := Pt.cp_edge.self a; omega) h

end Go.Proofs.YtbbmgcdocolakaaGreatDoor
/-
  slices.SortFunc of edges: what it leaves as it is.
-/
namespace Go.Proofs.YtbbmgcdocolakaaGreatDoor
open Go.RowKit Go.Lib Go.Proofs
open Go.Sort hiding Below
set_option maxRecDepth 100000
set_option linter.unusedVariables false

end Go.Proofs.YtbbmgcdocolakaaGreatDoor
/-
  Graphs: turned, order, and slices.SortFunc of edges by it.
-/
namespace Go.Proofs.YtbbmgcdocolakaaGreatDoor
open Go.RowKit Go.Lib Go.Proofs
open Go.Sort hiding Below
attribute [local go_sem ↓] Go.wp_at_zero Go.wp_at_succ
set_option maxRecDepth 100000
set_option linter.unusedVariables false

theorem gturned_any (a b : Int) (w : World) : Calls Tryz.prog 59 #[.agg #[.int .i64 a, .int .i64 b]] w fun e w' => e = .returned (ev (turnE (a, b))) ∧ Below w.heap.size w w' := by
  rcases Int.lt_trichotomy a b with h | h | h
  · have h1 : ¬ b < a := by omega
    have h2 : ¬ b ≤ a := by omega
    have h3 : a ≤ b := by omega
    have hmn : min a b = a := by omega
    have hmx : max a b = b := by omega
    have HT := Lib.hid (show turnE (a, b) = (a, b) by unfold turnE; rw [if_pos (by simp only; omega)])
    have HB := Lib.hid (bel_al (bel_al (Below.refl w.heap.size w) (.cells #[.int .i64 a, .int .i64 b] 76)) (.cells #[.int .i64 a, .int .i64 b] 76))
    go_enter Tryz.func59, Tryz.ntmps59
    go_wp2_with fail
    refine bodyPost_ret (v := .agg #[.int .i64 a, .int .i64 b]) (by simp [results, Tryz.results59, go_sem]) rfl ?_
    exact ⟨by rw [HT.out]; rfl, HB.out⟩
  · subst h
    have h1 : ¬ a < a := by omega
    have h2 : a ≤ a := by omega
    have HT := Lib.hid (show turnE (a, a) = (a, a) by unfold turnE; rw [if_pos (by simp only; omega)])
    have HB := Lib.hid (bel_al (bel_al (Below.refl w.heap.size w) (.cells #[.int .i64 a, .int .i64 a] 76)) (.cells #[.int .i64 a, .int .i64 a] 76))
    go_enter Tryz.func59, Tryz.ntmps59
    go_wp2_with fail
    refine bodyPost_ret (v := .agg #[.int .i64 a, .int .i64 a]) (by simp [results, Tryz.results59, go_sem]) rfl ?_
    exact ⟨by rw [HT.out]; rfl, HB.out⟩
  · have h1 : ¬ a < b := by omega
    have h2 : ¬ a ≤ b := by omega
    have h3 : b ≤ a := by omega
    have hmn : min a b = b := by omega
    have hmx : max a b = a := by omega
    have HT := Lib.hid (show turnE (a, b) = (b, a) by unfold turnE; rw [if_neg (by simp only; omega)])
    have HB := Lib.hid (bel_al (bel_al (Below.refl w.heap.size w) (.cells #[.int .i64 a, .int .i64 b] 76)) (.cells #[.int .i64 b, .int .i64 a] 76))
    go_enter Tryz.func59, Tryz.ntmps59
    go_wp2_with fail
    refine bodyPost_ret (v := .agg #[.int .i64 b, .int .i64 a]) (by simp [results, Tryz.results59, go_sem]) rfl ?_
    exact ⟨by rw [HT.out]; rfl, HB.out⟩

set_option maxHeartbeats 4000000 in
theorem gorder_exact (a b : Int × Int) (w : World) : Calls Tryz.prog 61 #[ev a, ev b] w fun e w' => e = .returned (.int .i64 (Pt.ordE a b)) ∧ ∃ q os', w' = grow (w.drewN q) os' := by
  obtain ⟨a1, a2⟩ := a
  obtain ⟨b1, b2⟩ := b
  have HO := Lib.hid (ordE_or (a1, a2) (b1, b2))
  simp only at HO
  unfold ev
  simp only
  go_enter Tryz.func61, Tryz.ntmps61
  go_wp2_with fail
  go_region_held3 (fun w' => w'.cell? ⟨w.heap.size, 0, none⟩ = some (.int .i64 a1) ∧ w'.cell? ⟨w.heap.size, 1, none⟩ = some (.int .i64 a2) ∧ w'.cell? ⟨w.heap.size + 1, 0, none⟩ = some (.int .i64 b1) ∧ w'.cell? ⟨w.heap.size + 1, 1, none⟩ = some (.int .i64 b2)) (go_keep)
    (first
      | (go_at_call 85; refine (CmpI_any _ _ _).mono ?_; rintro e w' ⟨rfl, rfl⟩)
      | (go_at_call 84; refine (Or_two (cmpI a1 b1) (cmpI a2 b2) (w.heap.size + 1 + 1) 2 _ (by rw [cell_drew, cell_new _ _ _ _ _ (by simp)]; rfl) (by rw [cell_drew, cell_new _ _ _ _ _ (by simp)]; rfl)).mono ?_; rintro e w' ⟨rfl, rfl⟩))
  all_goals go_wp2_with fail
  all_goals go_ret
  all_goals exact ⟨ret_int HO.out, 1, _, by rw [alloc_eq_grow, alloc_eq_grow, alloc_eq_grow, grow_grow, grow_grow]; rfl⟩
theorem gorder_lays (blk off size : Nat) (w : World) : CmpLays Tryz.prog 61 #[] encE 2 Pt.ordE blk off size w := fun _ _ _ _ x y => gorder_exact x y _
theorem SortG_gr (E : List (Int × Int)) (v : Value) (n Bs : Nat) (w : World) (hn : n ≤ 1000000) (hl : E.length = n) (hd : E.Nodup) (hrow : w.ownsRow Bs 76 2 v n (Rk.cells E)) (hB : Bs ≤ w.heap.size) :
    Calls Tryz.prog 60 #[v, .func (.func 61) #[] #[]] w fun e w' => e = .returned (.tuple #[]) ∧ ∃ E', E'.Perm E ∧ Pt.Rise E' ∧ w'.ownsRow Bs 76 2 v n (Rk.cells E') ∧ w.grownBy w' v.ownBlock := by
  obtain ⟨A, c, rfl, _⟩ := Sl.own hrow
  by_cases h0 : n = 0
  · subst h0
    obtain rfl : E = [] := List.length_eq_zero_iff.1 hl
    refine (AnyF.slices_SortFunc_none sortE_lays A c _ w).mono ?_
    rintro e w' ⟨rfl, rfl⟩
    exact ⟨rfl, [], .refl _, List.Pairwise.nil, hrow, gb_refl _ _⟩
  · rcases hrow.2 with ⟨h1, _⟩ | ⟨g, cap', cur, hv, hbase, hgb, r1, r2, r3, r4⟩
    · injection h1 with _ h2
      exact absurd h2 h0
    cases hv
    have hz : E.toArray.size = n := by simpa using hl
    have hH : HoldsK encE 2 w g 0 E.toArray := by
      unfold HoldsK
      rw [flat_cells]
      exact holds_of_blockK hgb (by rw [cells_size, hl]; exact r4)
    have hglt : g < w.heap.size := (Array.getElem?_eq_some_iff.1 hgb).1
    have hs := AnyQ.slices_SortFunc sortE_lays 2 Tryz.isAgg76 Tryz.sizeOf76 encE (fun _ => rfl) (fun x v hv => by simp [encE] at hv; rcases hv with rfl | rfl <;> rfl) Pt.ordE ltE_swo 61 #[] g 0 c E.toArray w (enters_of Tryz.func61 (by kernel_rfl) rfl) (gorder_lays g 0 E.toArray.size w) hH hglt (by rw [hz]; omega)
    rw [hz] at hs
    refine hs.mono ?_
    rintro e w' ⟨rfl, d', q, os, hp, hso, rfl⟩
    have hd0 : d'.size = n := by rw [← hz]; exact hp.1
    have hd2 : d'.toList.length = n := by simpa using hd0
    have hf : flatK encE 2 d' = (Rk.cells d'.toList).toArray := by
      have := flat_cells d'.toList
      simpa using this
    have hcz := cells_size d'.toList
    rw [hd2] at hcz
    have hpm := perm_of_permIn hl hp
    unfold sortWorldK putRowK
    rw [hf]
    refine ⟨rfl, d'.toList, hpm, rise_of_sorted hd0 (hpm.nodup_iff.2 hd) hso, ⟨hcz, .inr ⟨g, c, _, rfl, hbase, heap_sortedK _ hgb, r1, r2, by simp [putCells, r3], ?_⟩⟩, grownBy_sortedK _⟩
    have := take_putCellsK cur (Rk.cells d'.toList) (by rw [hcz, r3]; exact Nat.mul_le_mul_right _ r1)
    rw [hcz] at this
    exact this
end Go.Proofs.YtbbmgcdocolakaaGreatDoor
