/-
  Part 13 of the proof of ConfLines: WireH, WireI, PermA.
-/
import Derived.Test.YtddedghnnkcnhaaGreatDoorConfLinesM12
import Derived.Test.YtddedghnnkcnhaaGreatDoorConfLinesM1
/-
  Items; contracts of the statements' far and put, and of the document's Put.
-/
namespace Go.Proofs.YtddedghnnkcnhaaGreatDoor
open Go.RowKit
set_option maxRecDepth 100000
set_option linter.unusedVariables false

structure Item where
  kind : Int
  n : Int
  s : ByteArray
  l : List Int
def Item.ok (x : Item) : Prop := (-9223372036854775808 ≤ x.kind ∧ x.kind ≤ 9223372036854775807) ∧ (-9223372036854775808 ≤ x.n ∧ x.n ≤ 9223372036854775807) ∧ x.s.size ≤ 9223372036854775807 ∧ x.l.length ≤ 9223372036854775807 ∧ ∀ z ∈ x.l, -9223372036854775808 ≤ z ∧ z ≤ 9223372036854775807
/-- Items in memory. -/
def Its (w : World) (A : Option Addr) (n : Nat) (xs : List Item) : Prop :=
  xs.length = n ∧ ∀ (i : Nat) (x : Item), xs[i]? = some x → x.ok ∧ ∃ b off LA lc, A = some ⟨b, off, none⟩ ∧ w.cell? ⟨b, off + i * 4, none⟩ = some (.int .i64 x.kind) ∧ w.cell? ⟨b, off + i * 4 + 1, none⟩ = some (.int .i64 x.n) ∧
    w.cell? ⟨b, off + i * 4 + 2, none⟩ = some (.string x.s) ∧ w.cell? ⟨b, off + i * 4 + 3, none⟩ = some (.slice LA x.l.length lc) ∧ Sl w 1 LA x.l.length (x.l.map (Value.int .i64)) ∧ x.l.length ≤ lc ∧ lc ≤ 9223372036854775807
theorem Its.keep {w w' : World} {A : Option Addr} {n : Nat} {xs : List Item} (h : Its w A n xs) (hb : Below w.heap.size w w') : Its w' A n xs := by
  refine ⟨h.1, fun i x hx => ?_⟩
  obtain ⟨h0, b, off, LA, lc, hA, h1, h2, h3, h4, h5, h6⟩ := h.2 i x hx
  have hk : ∀ {p : Addr} {v : Value}, w.cell? p = some v → w'.cell? p = some v := fun hp => (hb.cell (World.block_lt_of_cell? w _ hp)).trans hp
  exact ⟨h0, b, off, LA, lc, hA, hk h1, hk h2, hk h3, hk h4, h5.keep hb, h6⟩
def near (x : Item) : Prop := x.s.size ≤ 200 ∧ x.l.length ≤ 60 ∧ 0 ≤ x.kind ∧ x.kind ≤ 3
def Near (xs : List Item) : Prop := xs.length ≤ 40 ∧ ∀ x ∈ xs, near x
instance (x : Item) : Decidable (near x) := by unfold near; exact inferInstance
instance (xs : List Item) : Decidable (Near xs) := by unfold Near; exact inferInstance

def pItem (x : Item) (st : St) : St := if x.kind = 0 then pNum x.n st else if x.kind = 1 then pLong x.n st else if x.kind = 2 then pText x.s st else pList x.l st
def pItems : List Item → St → St
  | [], st => st
  | x :: l, st => pItems l (pItem x st)
theorem pItems_snoc : ∀ (l : List Item) (x : Item) (st : St), pItems (l ++ [x]) st = pItem x (pItems l st)
  | [], _, _ => rfl
  | y :: l, x, st => by rw [List.cons_append, pItems, pItems_snoc l, pItems]
theorem pItem_len {x : Item} (h : near x) (st : St) : (pItem x st).1.length ≤ st.1.length + 500 := by
  obtain ⟨h1, h2, _⟩ := h
  unfold pItem
  split
  · rw [pNum_len]; omega
  split
  · simp only [pLong, List.length_append, wordL_len]; omega
  split
  · simp only [pText, List.length_append, pNum_len, sB_len]; omega
  · rw [pList, pNums_len, pNum_len]; omega
theorem pItems_len : ∀ {l : List Item} (h : ∀ x ∈ l, near x) (st : St), (pItems l st).1.length ≤ st.1.length + 500 * l.length
  | [], _, st => by simp [pItems]
  | x :: l, h, st => by
    have h1 := pItem_len (h x (List.mem_cons_self ..)) st
    have h2 := pItems_len (fun y hy => h y (List.mem_cons_of_mem _ hy)) (pItem x st)
    rw [pItems, List.length_cons]
    omega

end Go.Proofs.YtddedghnnkcnhaaGreatDoor
/-
  Contract of the document's Put.
-/
namespace Go.Proofs.YtddedghnnkcnhaaGreatDoor
open Go.RowKit
set_option maxRecDepth 100000
set_option linter.unusedVariables false

/-- The place of the first number that can't be, or -1. -/
def badE : Err → Int
  | .flt _ a _ => a
  | _ => -1
/-- An error of a writer. -/
def WE (E : Err) : Prop := E = .nil ∨ ∃ a : Nat, a ≤ 1000000 ∧ E = .flt 3 a txtNumber
theorem WE.pNum {z : Int} {st : St} (h : WE st.2) (hl : st.1.length ≤ 1000000) : WE (pNum z st).2 := by
  unfold Go.Proofs.YtddedghnnkcnhaaGreatDoor.pNum
  split
  · exact h
  · rcases h with h | ⟨a, ha, h⟩
    · rw [h]; exact .inr ⟨_, hl, rfl⟩
    · rw [h]; exact .inr ⟨a, ha, rfl⟩
theorem WE.pNums : ∀ {l : List Int} {st : St}, WE st.2 → st.1.length + 4 * l.length ≤ 1000000 → WE (pNums l st).2
  | [], _, h, _ => h
  | z :: l, st, h, hl => by
    rw [List.length_cons] at hl
    rw [Go.Proofs.YtddedghnnkcnhaaGreatDoor.pNums]
    exact WE.pNums (h.pNum (by omega)) (by rw [pNum_len]; omega)
theorem WE.pItem {x : Item} {st : St} (h : WE st.2) (hn : near x) (hl : st.1.length ≤ 900000) : WE (pItem x st).2 := by
  obtain ⟨h1, h2, _⟩ := hn
  unfold Go.Proofs.YtddedghnnkcnhaaGreatDoor.pItem
  split
  · exact h.pNum (by omega)
  split
  · exact h
  split
  · exact h.pNum (by omega)
  · rw [pList]; exact (h.pNum (by omega)).pNums (by rw [pNum_len]; omega)
theorem WE.pItems : ∀ {l : List Item} {st : St}, WE st.2 → (∀ x ∈ l, near x) → st.1.length + 500 * l.length ≤ 900000 → WE (pItems l st).2
  | [], _, h, _, _ => h
  | x :: l, st, h, hn, hl => by
    rw [List.length_cons] at hl
    have h1 := pItem_len (hn x (List.mem_cons_self ..)) st
    rw [Go.Proofs.YtddedghnnkcnhaaGreatDoor.pItems]
    exact WE.pItems (h.pItem (hn x (List.mem_cons_self ..)) (by omega)) (fun y hy => hn y (List.mem_cons_of_mem _ hy)) (by omega)
theorem badE_nil {E : Err} (h : WE E) : badE E < 0 ↔ E = .nil := by
  rcases h with rfl | ⟨a, _, rfl⟩
  · simp [badE]
  · simp only [badE]
    constructor
    · intro h; omega
    · intro h; cases h

theorem Fits_any (z : Int) (hz : -9223372036854775808 ≤ z ∧ z ≤ 9223372036854775807) (w : World) :
    Calls Tryz.prog 138 #[.int .i64 z] w fun e w' => e = .returned (.bool (decide (fits z))) ∧ w = w' := by
  go_enter Tryz.func138, Tryz.ntmps138
  by_cases h0 : 0 ≤ z
  · by_cases h1 : z ≤ 4294967295
    · have HX := Lib.hid (show fits z from ⟨h0, h1⟩)
      go_wp2_with fail
      go_ret
      exact ⟨ret_bool (by rw [decide_eq_true HX.out]), rfl⟩
    · have HX := Lib.hid (show ¬ fits z from fun h => h1 h.2)
      go_wp2_with fail
      go_ret
      exact ⟨ret_bool (by rw [decide_eq_false HX.out]), rfl⟩
  · have HX := Lib.hid (show ¬ fits z from fun h => h0 h.1)
    go_wp2_with fail
    go_ret
    exact ⟨ret_bool (by rw [decide_eq_false HX.out]), rfl⟩
set_option maxHeartbeats 8000000 in
theorem Put_ref (xs : List Item) (A : Option Addr) (n c : Nat) (w : World) (hI : Its w A n xs) (hN : Near xs) :
    Calls Tryz.prog 62 #[.slice A n c] w fun e w' => ∃ C k, e = .returned (.tuple #[.slice C (pItems xs ([], .nil)).1.length k, .int .i64 (badE (pItems xs ([], .nil)).2)]) ∧ Sl w' 1 C (pItems xs ([], .nil)).1.length ((pItems xs ([], .nil)).1.map (Value.int .u8)) ∧ Below w.heap.size w w' := by
  have HI := Lib.hid hI
  have hlen := hI.1
  have hn40 : n ≤ 40 := by have := hN.1; omega
  have HN := Lib.hid hN
  clear hI hN
  go_enter Tryz.func62, Tryz.ntmps62
  go_wp2_with fail
  go_loopw [4, 5, 6] (fun bv dv iv wr => ∃ (i : Nat) (st : St), i ≤ n ∧ iv = .int .i64 i ∧ Hid (st = pItems (xs.take i) ([], .nil)) ∧ dv = .int .i64 (badE st.2) ∧ wr.ownsRow w.heap.size 5 1 bv st.1.length (st.1.map (Value.int .u8)) ∧ Below w.heap.size w wr) (fun _ _ iv _ => n - (intOf iv).toNat)
  case atStart => exact ⟨0, ([], .nil), Nat.zero_le _, rfl, rfl, rfl, World.ownsRow_nil _ _ _ _, Below.refl _ _⟩
  case round =>
    obtain ⟨i, st, hi, rfl, HST0, rfl, hown, hb⟩ := hrel
    obtain ⟨A4, c4, rfl, _⟩ := Sl.own hown
    have HO := Lib.hid hown
    have HB := Lib.hid hb
    by_cases hlt : i < n
    · have hj : i < xs.length := by omega
      obtain ⟨hok, b, off, LA, lc, rfl, d0, d1, d2, d3, hsl, _, _⟩ := HI.out.2 i xs[i] (List.getElem?_eq_getElem hj)
      have hck : ∀ {p : Addr} {v : Value}, w.cell? p = some v → wr.cell? p = some v := fun hp => (hb.cell (World.block_lt_of_cell? w _ hp)).trans hp
      have HCK := Lib.hid (fun W (hW : Below w.heap.size w W) => (show ∀ (p : Addr) (v : Value), w.cell? p = some v → W.cell? p = some v from fun _ _ hp => (hW.cell (World.block_lt_of_cell? w _ hp)).trans hp))
      have c0 := hck d0
      have c1 := hck d1
      have c2 := hck d2
      have c3 := hck d3
      have HD2 := Lib.hid d2
      have HD3 := Lib.hid d3
      clear hck d0 d1 d2 d3
      have HT := Lib.hid (List.take_succ_eq_append_getElem hj)
      have hnr := HN.out.2 _ (List.getElem_mem hj)
      have hbl := pItems_len (l := xs.take i) (fun x hx => HN.out.2 x (List.mem_of_mem_take hx)) ([], .nil)
      have hwe := WE.pItems (l := xs.take i) (st := ([], .nil)) (.inl rfl) (fun x hx => HN.out.2 x (List.mem_of_mem_take hx)) (by rw [List.length_take]; simp only [List.length_nil]; omega)
      rw [List.length_take] at hbl
      simp only [List.length_nil] at hbl
      rw [← HST0.out] at hbl hwe
      have HWE := Lib.hid hwe
      generalize xs[i] = x at *
      obtain ⟨k1, k2, k3, k4, k5⟩ := hok
      obtain ⟨n1, n2, n3, n4⟩ := hnr
      have HS := Lib.hid hsl
      have HK5 := Lib.hid k5
      have hbl2 : st.1.length ≤ 20000 := by omega
      clear hsl k5 hown hb hwe hbl
      by_cases e0 : x.kind = 0
      · have HE := Lib.hid (show pItem x st = pNum x.n st by rw [pItem, if_pos e0])
        have e0' : (x.kind == 0) = true := by simpa using e0
        clear e0
        go_wp2_with fail
        refine (Fits_any x.n k2 wr).mono ?_
        rintro e w0 ⟨rfl, rfl⟩
        by_cases hf : fits x.n
        · rw [decide_eq_true hf]
          obtain ⟨k, hk⟩ := Int.eq_ofNat_of_zero_le hf.1
          have hk2 : k < 4294967296 := by have := hf.2; omega
          have HST := Lib.hid (show pNum x.n st = (st.1 ++ wordL k, st.2) by rw [pNum, if_pos hf, hk]; rfl)
          clear hf
          go_wp2_with fail
          refine (RefWord_any k hk2 wr).mono ?_
          rintro e w2 ⟨A2, c2, rfl, hs2, hb2⟩
          have HO2 := Lib.hid (own_below HO.out (fun g hg => (HO.out.lt g hg).2) hb2)
          have HB2 := Lib.hid (HB.out.andThen hb2)
          have HS2 := Lib.hid hs2
          clear hs2 hb2
          go_wp2_with (at_builtin; refine wpList_cat_at elemByte _ _ rfl rfl HO2.out HB2.out.size HS2.out rfl rfl (one_u8 _) (by unfold lim; omega) (by unfold lim; omega) ?_; intro v3 w3 hown3 hg3; have HO3 := Lib.hid hown3; have HB3 := Lib.hid (HB2.out.trans (hg3.belowOwn HB2.out.size HO2.out)); clear hown3 hg3)
          go_roundw
          case rel => exact ⟨i + 1, pItem x st, by omega, by go_num, by show _ = _; rw [HT.out, pItems_snoc, HST0.out], by rw [HE.out, HST.out] <;> first | rfl | (rw [HBD.out]), by rw [HE.out, HST.out, List.length_append, wordL_len, List.map_append]; exact HO3.out, HB3.out⟩
          case measure => simp [intOf]; omega
        · rw [decide_eq_false hf]
          by_cases hE : st.2 = .nil
          · have HST := Lib.hid (show pNum x.n st = (st.1 ++ wordL 0, .flt 3 st.1.length txtNumber) by rw [pNum, if_neg hf, hE]; rfl)
            have hbd : badE st.2 = -1 := by rw [hE]; rfl
            clear hf hE
            go_wp2_with fail
            refine (RefWord_any 0 (by omega) wr).mono ?_
            rintro e w2 ⟨A2, c2, rfl, hs2, hb2⟩
            have HO2 := Lib.hid (own_below HO.out (fun g hg => (HO.out.lt g hg).2) hb2)
            have HB2 := Lib.hid (HB.out.andThen hb2)
            have HS2 := Lib.hid hs2
            clear hs2 hb2
            go_wp2_with (at_builtin; refine wpList_cat_at elemByte _ _ rfl rfl HO2.out HB2.out.size HS2.out rfl rfl (one_u8 _) (by unfold lim; omega) (by unfold lim; omega) ?_; intro v3 w3 hown3 hg3; have HO3 := Lib.hid hown3; have HB3 := Lib.hid (HB2.out.trans (hg3.belowOwn HB2.out.size HO2.out)); clear hown3 hg3)
            go_roundw
            case rel => exact ⟨i + 1, pItem x st, by omega, by go_num, by show _ = _; rw [HT.out, pItems_snoc, HST0.out], by rw [HE.out, HST.out] <;> first | rfl | (rw [HBD.out]), by rw [HE.out, HST.out, List.length_append, wordL_len, List.map_append]; exact HO3.out, HB3.out⟩
            case measure => simp [intOf]; omega
          · obtain ⟨a, ha, hE'⟩ := HWE.out.resolve_left hE
            have HST := Lib.hid (show pNum x.n st = (st.1 ++ wordL 0, st.2) by rw [pNum, if_neg hf, hE']; rfl)
            have hbd : badE st.2 = a := by rw [hE']; rfl
            have HBD := Lib.hid hbd
            clear hf hE hE'
            go_wp2_with fail
            refine (RefWord_any 0 (by omega) wr).mono ?_
            rintro e w2 ⟨A2, c2, rfl, hs2, hb2⟩
            have HO2 := Lib.hid (own_below HO.out (fun g hg => (HO.out.lt g hg).2) hb2)
            have HB2 := Lib.hid (HB.out.andThen hb2)
            have HS2 := Lib.hid hs2
            clear hs2 hb2
            go_wp2_with (at_builtin; refine wpList_cat_at elemByte _ _ rfl rfl HO2.out HB2.out.size HS2.out rfl rfl (one_u8 _) (by unfold lim; omega) (by unfold lim; omega) ?_; intro v3 w3 hown3 hg3; have HO3 := Lib.hid hown3; have HB3 := Lib.hid (HB2.out.trans (hg3.belowOwn HB2.out.size HO2.out)); clear hown3 hg3)
            go_roundw
            case rel => exact ⟨i + 1, pItem x st, by omega, by go_num, by show _ = _; rw [HT.out, pItems_snoc, HST0.out], by rw [HE.out, HST.out] <;> first | rfl | (rw [HBD.out]), by rw [HE.out, HST.out, List.length_append, wordL_len, List.map_append]; exact HO3.out, HB3.out⟩
            case measure => simp [intOf]; omega
      · have e0' : (x.kind == 0) = false := by simpa using e0
        by_cases e1 : x.kind = 1
        · have HE := Lib.hid (show pItem x st = pLong x.n st by rw [pItem, if_neg e0, if_pos e1])
          have e1' : (x.kind == 1) = true := by simpa using e1
          have hh : x.n % 18446744073709551616 / 4294967296 = (hiN x.n : Int) := by unfold hiN; omega
          have hu : IntKind.u64.wrap x.n = x.n % 18446744073709551616 := IntKind.wrap_u64 x.n
          have hlo : x.n % 18446744073709551616 % 4294967296 = (loN x.n : Int) := by unfold loN; omega
          have hl1 := hiN_lt x.n
          have hl2 := loN_lt x.n
          clear e0 e1
          go_wp2_with fail
          refine (RefWord_any (hiN x.n) hl1 wr).mono ?_
          rintro e w2 ⟨A2, c2, rfl, hs2, hb2⟩
          have HO2 := Lib.hid (own_below HO.out (fun g hg => (HO.out.lt g hg).2) hb2)
          have HB2 := Lib.hid (HB.out.andThen hb2)
          have HS2 := Lib.hid hs2
          clear hs2 hb2
          go_wp2_with (at_builtin; refine wpList_cat_at elemByte _ _ rfl rfl HO2.out HB2.out.size HS2.out rfl rfl (one_u8 _) (by unfold lim; omega) (by unfold lim; omega) ?_; intro v3 w3 hown3 hg3; have HO3 := Lib.hid hown3; have HB3 := Lib.hid (HB2.out.trans (hg3.belowOwn HB2.out.size HO2.out)); clear hown3 hg3)
          obtain ⟨A3, c3', rfl, _⟩ := Sl.own HO3.out
          refine (RefWord_any (loN x.n) hl2 w3).mono ?_
          rintro e w4 ⟨A4, c4, rfl, hs4, hb4⟩
          have HO4 := Lib.hid (own_below HO3.out (fun g hg => (HO3.out.lt g hg).2) hb4)
          have HB4 := Lib.hid (HB3.out.andThen hb4)
          have HS4 := Lib.hid hs4
          clear hs4 hb4
          go_wp2_with (at_builtin; refine wpList_cat_at elemByte _ _ rfl rfl HO4.out HB4.out.size HS4.out rfl rfl (one_u8 _) (by unfold lim; omega) (by unfold lim; omega) ?_; intro v5 w5 hown5 hg5; have HO5 := Lib.hid hown5; have HB5 := Lib.hid (HB4.out.trans (hg5.belowOwn HB4.out.size HO4.out)); clear hown5 hg5)
          go_roundw
          case rel => exact ⟨i + 1, pItem x st, by omega, by go_num, by show _ = _; rw [HT.out, pItems_snoc, HST0.out], by rw [HE.out]; rfl, by rw [HE.out, pLong, List.length_append, List.length_append, wordL_len, wordL_len, List.map_append, List.map_append]; exact HO5.out, HB5.out⟩
          case measure => simp [intOf]; omega
        · have e1' : (x.kind == 1) = false := by simpa using e1
          by_cases e2 : x.kind = 2
          · have HE := Lib.hid (show pItem x st = (st.1 ++ wordL x.s.size ++ sB x.s, st.2) by
              have hfit : fits (x.s.size : Int) := ⟨by omega, by omega⟩
              rw [pItem, if_neg e0, if_neg e1, if_pos e2, pText, pNum, if_pos hfit]; rfl)
            have e2' : (x.kind == 2) = true := by simpa using e2
            clear e0 e1 e2
            go_wp2_with fail
            refine (RefWord_any x.s.size (by omega) wr).mono ?_
            rintro e w2 ⟨A2, c2, rfl, hs2, hb2⟩
            have HO2 := Lib.hid (own_below HO.out (fun g hg => (HO.out.lt g hg).2) hb2)
            have HB2 := Lib.hid (HB.out.andThen hb2)
            have HS2 := Lib.hid hs2
            clear hs2 hb2
            have c2b := HCK.out w2 HB2.out _ _ HD2.out
            go_wp2_with (first
              | (at_builtin; refine wpList_cat_lies elemByte _ _ rfl rfl HO2.out HB2.out.size HS2.out (by omega) rfl rfl (one_u8 _) (by unfold lim; omega) (by unfold lim; omega) ?_; intro g3 q3 w3 hown3 hg3; have HO3 := Lib.hid hown3; have HB3 := Lib.hid (HB2.out.trans (hg3.belowOwn HB2.out.size HO2.out)); have c2d := HCK.out w3 HB3.out _ _ HD2.out; clear hown3 hg3 HO2 HB2)
              | (at_builtin; refine wpList_str_lies elemByte Tryz.underlying9 _ _ rfl rfl (l := st.1 ++ wordL x.s.size) (by rw [List.map_append]; exact HO3.out) HB3.out.size (s := x.s) (by omega) rfl rfl (by unfold lim; omega) ?_; intro g4 q4 w4 hown4 hg4; have HO4 := Lib.hid hown4; have HB4 := Lib.hid (HB3.out.grown hg4 HB3.out.size (fun k hk => (HO3.out.lt k hk).1)); clear hown4 hg4 HO3 HB3))
            go_roundw
            case rel => exact ⟨i + 1, pItem x st, by omega, by go_num, by show _ = _; rw [HT.out, pItems_snoc, HST0.out], by rw [HE.out], by rw [HE.out, List.length_append, List.length_append, wordL_len, sB_len]; exact HO4.out, HB4.out⟩
            case measure => simp [intOf]; omega
          · have e2' : (x.kind == 2) = false := by simpa using e2
            have e3' : (x.kind == 3) = true := by simp; omega
            have hfit : fits (x.l.length : Int) := ⟨by omega, by omega⟩
            have HE := Lib.hid (show pItem x st = pNums x.l (st.1 ++ wordL x.l.length, st.2) by
              rw [pItem, if_neg e0, if_neg e1, if_neg e2, pList, pNum, if_pos hfit]; rfl)
            clear e0 e1 e2 hfit
            go_wp2_with fail
            refine (RefWord_any x.l.length (by omega) wr).mono ?_
            rintro e w2 ⟨A2, c2, rfl, hs2, hb2⟩
            have HO2 := Lib.hid (own_below HO.out (fun g hg => (HO.out.lt g hg).2) hb2)
            have HB2 := Lib.hid (HB.out.andThen hb2)
            have HS2 := Lib.hid hs2
            clear hs2 hb2
            go_wp2_with (at_builtin; refine wpList_cat_at elemByte _ _ rfl rfl HO2.out HB2.out.size HS2.out rfl rfl (one_u8 _) (by unfold lim; omega) (by unfold lim; omega) ?_; intro v3 w3 hown3 hg3; have HO3 := Lib.hid hown3; have HB3 := Lib.hid (HB2.out.trans (hg3.belowOwn HB2.out.size HO2.out)); clear hown3 hg3)
            have hm2 : (st.1 ++ wordL x.l.length).length = st.1.length + 4 := by rw [List.length_append, wordL_len]
            have HM2 := Lib.hid hm2
            clear hm2
            go_loopw [4, 5, 9] (fun bv dv jv wq => ∃ (j : Nat) (sj : St), j ≤ x.l.length ∧ jv = .int .i64 j ∧ Hid (sj = pNums (x.l.take j) (st.1 ++ wordL x.l.length, st.2)) ∧ dv = .int .i64 (badE sj.2) ∧ wq.ownsRow w.heap.size 5 1 bv sj.1.length (sj.1.map (Value.int .u8)) ∧ Below w.heap.size w wq) (fun _ _ jv _ => x.l.length - (intOf jv).toNat)
            case atStart => exact ⟨0, (st.1 ++ wordL x.l.length, st.2), Nat.zero_le _, rfl, rfl, rfl, by rw [HM2.out, List.map_append]; exact HO3.out, HB3.out⟩
            case round =>
              obtain ⟨j, sj, hj2, rfl, HSJ, rfl, hown, hb⟩ := hrel
              obtain ⟨A5, c5, rfl, _⟩ := Sl.own hown
              have HO := Lib.hid hown
              have HB := Lib.hid hb
              have c3e := HCK.out wr hb _ _ HD3.out
              by_cases hlt2 : j < x.l.length
              · obtain ⟨b6, off6, u6', rfl, e6, c6⟩ := (HS.out.keep hb).one hlt2
                rw [List.getElem?_map, List.getElem?_eq_getElem hlt2] at e6
                obtain rfl := Option.some.inj e6
                have HTJ := Lib.hid (List.take_succ_eq_append_getElem hlt2)
                have hz := HK5.out _ (List.getElem_mem hlt2)
                have hlen2 := pNums_len (x.l.take j) (st.1 ++ wordL x.l.length, st.2)
                have hwe2 := WE.pNums (l := x.l.take j) (st := (st.1 ++ wordL x.l.length, st.2)) HWE.out (by rw [HM2.out, List.length_take]; omega)
                simp only [HM2.out] at hlen2
                rw [List.length_take] at hlen2
                rw [← HSJ.out] at hlen2 hwe2
                have HWE := Lib.hid hwe2
                generalize x.l[j] = z at *
                have hsl2 : sj.1.length ≤ 30000 := by omega
                clear e6 hown hb hlen2 hwe2
                go_wp2_with fail
                refine (Fits_any z hz wr).mono ?_
                rintro e w0 ⟨rfl, rfl⟩
                by_cases hf : fits z
                · rw [decide_eq_true hf]
                  obtain ⟨k, hk⟩ := Int.eq_ofNat_of_zero_le hf.1
                  have hk2 : k < 4294967296 := by have := hf.2; omega
                  have HST := Lib.hid (show pNum z sj = (sj.1 ++ wordL k, sj.2) by rw [pNum, if_pos hf, hk]; rfl)
                  clear hf
                  go_wp2_with fail
                  refine (RefWord_any k hk2 wr).mono ?_
                  rintro e w2 ⟨A2, c2, rfl, hs2, hb2⟩
                  have HO2 := Lib.hid (own_below HO.out (fun g hg => (HO.out.lt g hg).2) hb2)
                  have HB2 := Lib.hid (HB.out.andThen hb2)
                  have HS2 := Lib.hid hs2
                  clear hs2 hb2
                  go_wp2_with (at_builtin; refine wpList_cat_at elemByte _ _ rfl rfl HO2.out HB2.out.size HS2.out rfl rfl (one_u8 _) (by unfold lim; omega) (by unfold lim; omega) ?_; intro v3 w3 hown3 hg3; have HO3 := Lib.hid hown3; have HB3 := Lib.hid (HB2.out.trans (hg3.belowOwn HB2.out.size HO2.out)); clear hown3 hg3)
                  go_roundw
                  case rel => exact ⟨j + 1, pNum z sj, by omega, by go_num, by show _ = _; rw [HTJ.out, pNums_snoc, HSJ.out], by rw [HST.out] <;> first | rfl | (rw [HBD.out]), by rw [HST.out, List.length_append, wordL_len, List.map_append]; exact HO3.out, HB3.out⟩
                  case measure => simp [intOf]; omega
                · rw [decide_eq_false hf]
                  by_cases hE : sj.2 = .nil
                  · have HST := Lib.hid (show pNum z sj = (sj.1 ++ wordL 0, .flt 3 sj.1.length txtNumber) by rw [pNum, if_neg hf, hE]; rfl)
                    have hbd : badE sj.2 = -1 := by rw [hE]; rfl
                    clear hf hE
                    go_wp2_with fail
                    refine (RefWord_any 0 (by omega) wr).mono ?_
                    rintro e w2 ⟨A2, c2, rfl, hs2, hb2⟩
                    have HO2 := Lib.hid (own_below HO.out (fun g hg => (HO.out.lt g hg).2) hb2)
                    have HB2 := Lib.hid (HB.out.andThen hb2)
                    have HS2 := Lib.hid hs2
                    clear hs2 hb2
                    go_wp2_with (at_builtin; refine wpList_cat_at elemByte _ _ rfl rfl HO2.out HB2.out.size HS2.out rfl rfl (one_u8 _) (by unfold lim; omega) (by unfold lim; omega) ?_; intro v3 w3 hown3 hg3; have HO3 := Lib.hid hown3; have HB3 := Lib.hid (HB2.out.trans (hg3.belowOwn HB2.out.size HO2.out)); clear hown3 hg3)
                    go_roundw
                    case rel => exact ⟨j + 1, pNum z sj, by omega, by go_num, by show _ = _; rw [HTJ.out, pNums_snoc, HSJ.out], by rw [HST.out] <;> first | rfl | (rw [HBD.out]), by rw [HST.out, List.length_append, wordL_len, List.map_append]; exact HO3.out, HB3.out⟩
                    case measure => simp [intOf]; omega
                  · obtain ⟨a, ha, hE'⟩ := HWE.out.resolve_left hE
                    have HST := Lib.hid (show pNum z sj = (sj.1 ++ wordL 0, sj.2) by rw [pNum, if_neg hf, hE']; rfl)
                    have hbd : badE sj.2 = a := by rw [hE']; rfl
                    have HBD := Lib.hid hbd
                    clear hf hE hE'
                    go_wp2_with fail
                    refine (RefWord_any 0 (by omega) wr).mono ?_
                    rintro e w2 ⟨A2, c2, rfl, hs2, hb2⟩
                    have HO2 := Lib.hid (own_below HO.out (fun g hg => (HO.out.lt g hg).2) hb2)
                    have HB2 := Lib.hid (HB.out.andThen hb2)
                    have HS2 := Lib.hid hs2
                    clear hs2 hb2
                    go_wp2_with (at_builtin; refine wpList_cat_at elemByte _ _ rfl rfl HO2.out HB2.out.size HS2.out rfl rfl (one_u8 _) (by unfold lim; omega) (by unfold lim; omega) ?_; intro v3 w3 hown3 hg3; have HO3 := Lib.hid hown3; have HB3 := Lib.hid (HB2.out.trans (hg3.belowOwn HB2.out.size HO2.out)); clear hown3 hg3)
                    go_roundw
                    case rel => exact ⟨j + 1, pNum z sj, by omega, by go_num, by show _ = _; rw [HTJ.out, pNums_snoc, HSJ.out], by rw [HST.out] <;> first | rfl | (rw [HBD.out]), by rw [HST.out, List.length_append, wordL_len, List.map_append]; exact HO3.out, HB3.out⟩
                    case measure => simp [intOf]; omega
              · obtain rfl : j = x.l.length := by omega
                rw [List.take_of_length_le (Nat.le_refl _)] at HSJ
                clear hown
                go_wp2_with fail
                go_roundw
                case rel => exact ⟨i + 1, pItem x st, by omega, by go_num, by show _ = _; rw [HT.out, pItems_snoc, HST0.out], by rw [HE.out, HSJ.out], by rw [HE.out, ← HSJ.out]; exact HO.out, HB.out⟩
                case measure => simp [intOf]; omega
    · obtain rfl : i = n := by omega
      rw [List.take_of_length_le (by omega)] at HST0
      have HX := Lib.hid (Sl.of_own HO.out)
      clear hown
      go_wp2_with fail
      go_ret2
      exact ⟨A4, c4, by rw [← HST0.out]; rfl, by rw [← HST0.out]; exact HX.out, HB.out⟩
end Go.Proofs.YtddedghnnkcnhaaGreatDoor
/-
  Orders, plainly: no program in sight.
-/
namespace Go.Proofs.YtddedghnnkcnhaaGreatDoor

/-- A list that is an order. -/
def Ord (p : List Int) : Prop := p.length ≤ 8 ∧ (∀ x ∈ p, 0 ≤ x ∧ x < p.length) ∧ p.Nodup
instance (p : List Int) : Decidable (Ord p) := by unfold Ord; exact inferInstance
/-- 0, 1, .. -/
def ids (n : Nat) : List Int := (List.range n).map fun i : Nat => (i : Int)
theorem ids_len (n : Nat) : (ids n).length = n := by simp [ids]
theorem ids_succ (n : Nat) : ids (n + 1) = ids n ++ [(n : Int)] := by simp [ids, List.range_succ]
theorem ids_mem {n : Nat} {x : Int} : x ∈ ids n ↔ 0 ≤ x ∧ x < n := by
  simp only [ids, List.mem_map, List.mem_range]
  constructor
  · rintro ⟨i, hi, rfl⟩; omega
  · rintro ⟨h1, h2⟩; exact ⟨x.toNat, by omega, by omega⟩
theorem ids_nodup (n : Nat) : (ids n).Nodup := by
  unfold ids
  rw [List.nodup_iff_pairwise_ne, List.pairwise_map]
  exact List.Pairwise.imp (fun h => by omega) (List.pairwise_lt_range)
theorem ids_get (n i : Nat) (h : i < n) : (ids n)[i]? = some (i : Int) := by simp [ids, h]
theorem ids_ord {n : Nat} (h : n ≤ 8) : Ord (ids n) := ⟨by rw [ids_len]; exact h, fun x hx => by rw [ids_len]; exact ids_mem.1 hx, ids_nodup n⟩

/-- l's things at p's places, one by one. -/
def scat : List Int → List Int → List Int → List Int
  | x :: p, y :: l, out => scat p l (out.set x.toNat y)
  | _, _, out => out
theorem scat_len : ∀ p l out, (scat p l out).length = out.length
  | x :: p, y :: l, out => by rw [scat, scat_len p l]; simp
  | [], _, _ => rfl
  | _ :: _, [], _ => rfl
theorem scat_snoc (x y : Int) : ∀ (p l out : List Int), p.length = l.length → scat (p ++ [x]) (l ++ [y]) out = (scat p l out).set x.toNat y
  | [], [], _, _ => rfl
  | a :: p, b :: l, out, h => by
    rw [List.cons_append, List.cons_append, scat, scat_snoc x y p l _ (by simpa using h), scat]
theorem scat_other : ∀ (p l out : List Int) (j : Nat), (∀ x ∈ p, x.toNat ≠ j) → (scat p l out)[j]? = out[j]?
  | x :: p, y :: l, out, j, h => by
    rw [scat, scat_other p l _ j (fun z hz => h z (List.mem_cons_of_mem _ hz)), List.getElem?_set_ne (h x (List.mem_cons_self ..))]
  | [], _, _, _, _ => by simp [scat]
  | _ :: _, [], _, _, _ => by simp [scat]
theorem scat_at : ∀ (p l out : List Int) (i : Nat) (x y : Int), p.Nodup → (∀ z ∈ p, 0 ≤ z ∧ z < out.length) → p[i]? = some x → l[i]? = some y → (scat p l out)[x.toNat]? = some y
  | a :: p, b :: l, out, 0, x, y, hn, hr, hx, hy => by
    simp only [List.getElem?_cons_zero, Option.some.injEq] at hx hy
    subst hx hy
    have hna := (List.nodup_cons.1 hn).1
    have hra := hr a (List.mem_cons_self ..)
    rw [scat, scat_other]
    · rw [List.getElem?_set_self (by omega)]
    · intro z hz e
      have := hr z (List.mem_cons_of_mem _ hz)
      exact hna (by rwa [show a = z by omega])
  | a :: p, b :: l, out, i + 1, x, y, hn, hr, hx, hy => by
    rw [scat]
    exact scat_at p l _ i x y (List.nodup_cons.1 hn).2 (fun z hz => by rw [List.length_set]; exact hr z (List.mem_cons_of_mem _ hz)) (by simpa using hx) (by simpa using hy)
  | [], _, _, _, _, _, _, _, hx, _ => by simp at hx
  | _ :: _, [], _, _, _, _, _, _, _, hy => by simp at hy

/-- No more things than places. -/
theorem pig : ∀ (n : Nat) (l : List Int), l.Nodup → (∀ x ∈ l, 0 ≤ x ∧ x < n) → l.length ≤ n
  | 0, [], _, _ => Nat.le_refl _
  | 0, x :: _, _, h => by have := h x (List.mem_cons_self ..); omega
  | n + 1, l, hn, h => by
    have h1 := pig n (l.erase (n : Int)) (hn.erase _) (fun x hx => by
      have hm := List.mem_of_mem_erase hx
      have := h x hm
      have hne : x ≠ (n : Int) := fun e => (hn.not_mem_erase (a := (n : Int))) (e ▸ hx)
      omega)
    rw [List.length_erase] at h1
    split at h1 <;> omega
theorem Ord.mem {p : List Int} (h : Ord p) {j : Int} (h0 : 0 ≤ j) (h1 : j < p.length) : j ∈ p := by
  refine Decidable.byContradiction fun hn => ?_
  have := pig p.length (j :: p) (List.nodup_cons.2 ⟨hn, h.2.2⟩) (fun x hx => by
    rcases List.mem_cons.1 hx with rfl | hx
    · exact ⟨h0, h1⟩
    · exact h.2.1 x hx)
  rw [List.length_cons] at this
  omega
theorem Ord.at_ {p : List Int} (h : Ord p) {j : Nat} (h1 : j < p.length) : ∃ i, i < p.length ∧ p[i]? = some (j : Int) := by
  obtain ⟨i, hi, e⟩ := List.getElem_of_mem (h.mem (j := j) (by omega) (by omega))
  exact ⟨i, hi, by rw [List.getElem?_eq_getElem hi, e]⟩
theorem Ord.get {p : List Int} (h : Ord p) {i : Nat} (hi : i < p.length) : ∃ j : Nat, j < p.length ∧ p[i]? = some (j : Int) := by
  have hm := h.2.1 _ (List.getElem_mem hi)
  exact ⟨p[i].toNat, by omega, by rw [List.getElem?_eq_getElem hi]; congr 1; omega⟩
theorem Ord.inj {p : List Int} (h : Ord p) {i j : Nat} {x : Int} (hi : p[i]? = some x) (hj : p[j]? = some x) : i = j := by
  have h1 : i < p.length := (List.getElem?_eq_some_iff.1 hi).1
  exact (List.getElem?_inj h1 h.2.2).1 (hi.trans hj.symm)

/-- The list put. -/
def putL (p l : List Int) : List Int := if Ord p ∧ p.length = l.length then scat p l (List.replicate p.length 0) else []
/-- The order that leads back. -/
def backL (p : List Int) : List Int := if Ord p then scat p (ids p.length) (List.replicate p.length 0) else []
/-- One, then the other. -/
def thenL (p q : List Int) : List Int := if Ord p ∧ Ord q ∧ p.length = q.length then p.map fun x => q.getD x.toNat 0 else []
theorem putL_len {p l : List Int} (h : Ord p) (hl : p.length = l.length) : (putL p l).length = p.length := by rw [putL, if_pos ⟨h, hl⟩, scat_len]; simp
theorem putL_at {p l : List Int} (h : Ord p) (hl : p.length = l.length) {i : Nat} {x y : Int} (hx : p[i]? = some x) (hy : l[i]? = some y) : (putL p l)[x.toNat]? = some y := by
  rw [putL, if_pos ⟨h, hl⟩]
  exact scat_at _ _ _ i x y h.2.2 (by simpa using h.2.1) hx hy
theorem backL_eq {p : List Int} (h : Ord p) : backL p = putL p (ids p.length) := by rw [backL, putL, if_pos h, if_pos ⟨h, by rw [ids_len]⟩]
theorem backL_len {p : List Int} (h : Ord p) : (backL p).length = p.length := by rw [backL_eq h, putL_len h (by rw [ids_len])]
theorem backL_at {p : List Int} (h : Ord p) {i : Nat} {x : Int} (hx : p[i]? = some x) : (backL p)[x.toNat]? = some (i : Int) := by
  rw [backL_eq h]
  exact putL_at h (by rw [ids_len]) hx (ids_get _ _ (List.getElem?_eq_some_iff.1 hx).1)
/-- Back the other way. -/
theorem backL_of {p : List Int} (h : Ord p) {j : Nat} {y : Int} (hy : (backL p)[j]? = some y) : ∃ i : Nat, y = i ∧ p[i]? = some (j : Int) := by
  have hj : j < p.length := by rw [← backL_len h]; exact (List.getElem?_eq_some_iff.1 hy).1
  obtain ⟨i, _, hi⟩ := h.at_ hj
  have := backL_at h hi
  rw [Int.toNat_natCast, hy] at this
  exact ⟨i, by simpa using this, hi⟩
theorem backL_ord {p : List Int} (h : Ord p) : Ord (backL p) := by
  refine ⟨by rw [backL_len h]; exact h.1, fun x hx => ?_, ?_⟩
  · obtain ⟨j, hj, e⟩ := List.getElem_of_mem hx
    obtain ⟨i, rfl, hi⟩ := backL_of h (by rw [List.getElem?_eq_getElem hj, e])
    rw [backL_len h]
    have := (List.getElem?_eq_some_iff.1 hi).1
    omega
  · rw [List.nodup_iff_pairwise_ne, List.pairwise_iff_getElem]
    intro i j hi hj hlt e
    obtain ⟨a, ha, pa⟩ := backL_of h (List.getElem?_eq_getElem hi)
    obtain ⟨b, hb, pb⟩ := backL_of h (List.getElem?_eq_getElem hj)
    have hab : a = b := by have : (a : Int) = b := by rw [← ha, ← hb, e]
                           omega
    rw [hab, pb] at pa
    have : (j : Int) = i := by simpa using pa
    omega

/-- Put and put back. -/
theorem put_back {p l : List Int} (h : Ord p) (hl : p.length = l.length) : putL (backL p) (putL p l) = l := by
  have hb := backL_ord h
  have e1 := putL_len h hl
  have e2 := backL_len h
  have e3 := putL_len hb (e2.trans e1.symm)
  apply List.ext_getElem?
  intro i
  by_cases hi : i < p.length
  · obtain ⟨j, hj, hx⟩ := h.get hi
    have hi' : i < l.length := by omega
    have h1 := putL_at h hl hx (List.getElem?_eq_getElem hi')
    have h2 := backL_at h hx
    have h3 := putL_at hb (e2.trans e1.symm) h2 h1
    rw [Int.toNat_natCast] at h3
    rw [h3, List.getElem?_eq_getElem hi']
  · rw [List.getElem?_eq_none (by omega), List.getElem?_eq_none (by omega)]

/-- n times all below. -/
def fac : Nat → Nat
  | 0 => 1
  | n + 1 => (n + 1) * fac n
theorem fac_pos : ∀ n, 0 < fac n
  | 0 => by decide
  | n + 1 => Nat.mul_pos (by omega) (fac_pos n)
theorem fac_le {n : Nat} (h : n ≤ 8) : fac n ≤ 40320 := by
  have : ∀ n : Fin 9, fac n ≤ 40320 := by decide
  exact this ⟨n, by omega⟩
/-- What is picked of what is left, by a rank. -/
def ofR : Nat → Nat → List Int → List Int
  | 0, _, _ => []
  | k + 1, r, left => left.getD (r / fac k) 0 :: ofR k (r % fac k) (left.eraseIdx (r / fac k))
theorem ofR_perm : ∀ (k r : Nat) (left : List Int), left.length = k → r < fac k → List.Perm (ofR k r left) left
  | 0, _, left, h, _ => by rw [List.eq_nil_of_length_eq_zero h]; exact List.Perm.refl _
  | k + 1, r, left, h, hr => by
    have hp := fac_pos k
    have hlt : r / fac k < left.length := by rw [h]; exact Nat.div_lt_of_lt_mul (by rw [Nat.mul_comm]; exact hr)
    have h1 := ofR_perm k (r % fac k) (left.eraseIdx (r / fac k)) (by rw [List.length_eraseIdx, if_pos hlt, h]; rfl) (Nat.mod_lt _ hp)
    rw [ofR, List.getD_eq_getElem?_getD, List.getElem?_eq_getElem hlt]
    refine (h1.cons _).trans ?_
    rw [List.eraseIdx_eq_take_drop_succ]
    refine List.perm_middle.symm.trans ?_
    show List.Perm (left.take (r / fac k) ++ left[r / fac k] :: left.drop (r / fac k + 1)) left
    rw [← List.drop_eq_getElem_cons hlt, List.take_append_drop]
theorem ord_of_perm {n : Nat} {p : List Int} (hn : n ≤ 8) (h : List.Perm p (ids n)) : Ord p := by
  have hl : p.length = n := by rw [h.length_eq, ids_len]
  refine ⟨by omega, fun x hx => ?_, h.nodup_iff.2 (ids_nodup n)⟩
  rw [hl]
  exact ids_mem.1 (h.mem_iff.1 hx)
theorem ofR_ord {n r : Nat} (hn : n ≤ 8) (hr : r < fac n) : Ord (ofR n r (ids n)) := ord_of_perm hn (ofR_perm n r _ (ids_len n) hr)
theorem ofR_len {n r : Nat} (hr : r < fac n) : (ofR n r (ids n)).length = n := by rw [(ofR_perm n r _ (ids_len n) hr).length_eq, ids_len]
end Go.Proofs.YtddedghnnkcnhaaGreatDoor
