/-
  Items; contracts of the statements' far and put, and of the document's Put.
-/
import Derived.Test.YtclbbchljiagpaaDoorWireG
namespace Go.Proofs.YtclbbchljiagpaaDoor
open Go.RowKit
set_option maxRecDepth 100000
set_option linter.unusedVariables false

structure Item where
  kind : Int
  n : Int
  s : ByteArray
  l : List Int
def Item.ok (x : Item) : Prop := (-9223372036854775808 ≤ x.kind ∧ x.kind ≤ 9223372036854775807) ∧ (-9223372036854775808 ≤ x.n ∧ x.n ≤ 9223372036854775807) ∧ x.s.size ≤ 9223372036854775807 ∧ x.l.length ≤ 9223372036854775807 ∧ ∀ z ∈ x.l, -9223372036854775808 ≤ z ∧ z ≤ 9223372036854775807
/-- Items in memory. -/
def Its (w : World) (A : Option Addr) (n : Nat) (xs : List Item) : Prop :=
  xs.length = n ∧ ∀ (i : Nat) (x : Item), xs[i]? = some x → x.ok ∧ ∃ b off LA lc, A = some ⟨b, off, none⟩ ∧ w.cell? ⟨b, off + i * 4, none⟩ = some (.int .i64 x.kind) ∧ w.cell? ⟨b, off + i * 4 + 1, none⟩ = some (.int .i64 x.n) ∧
    w.cell? ⟨b, off + i * 4 + 2, none⟩ = some (.string x.s) ∧ w.cell? ⟨b, off + i * 4 + 3, none⟩ = some (.slice LA x.l.length lc) ∧ Sl w 1 LA x.l.length (x.l.map (Value.int .i64)) ∧ x.l.length ≤ lc ∧ lc ≤ 9223372036854775807
theorem Its.keep {w w' : World} {A : Option Addr} {n : Nat} {xs : List Item} (h : Its w A n xs) (hb : Below w.heap.size w w') : Its w' A n xs := by
  refine ⟨h.1, fun i x hx => ?_⟩
  obtain ⟨h0, b, off, LA, lc, hA, h1, h2, h3, h4, h5, h6⟩ := h.2 i x hx
  have hk : ∀ {p : Addr} {v : Value}, w.cell? p = some v → w'.cell? p = some v := fun hp => (hb.cell (World.block_lt_of_cell? w _ hp)).trans hp
  exact ⟨h0, b, off, LA, lc, hA, hk h1, hk h2, hk h3, hk h4, h5.keep hb, h6⟩
def near (x : Item) : Prop := x.s.size ≤ 200 ∧ x.l.length ≤ 60 ∧ 0 ≤ x.kind ∧ x.kind ≤ 3
def Near (xs : List Item) : Prop := xs.length ≤ 40 ∧ ∀ x ∈ xs, near x
instance (x : Item) : Decidable (near x) := by unfold near; exact inferInstance
instance (xs : List Item) : Decidable (Near xs) := by unfold Near; exact inferInstance

set_option maxHeartbeats 4000000 in
theorem far_any (xs : List Item) (A : Option Addr) (n c : Nat) (w : World) (hn : n ≤ 9223372036854775807) (hI : Its w A n xs) :
    Calls Tryd.prog 23 #[.slice A n c] w fun e w' => e = .returned (.bool (!decide (Near xs))) ∧ w = w' := by
  have HI := Lib.hid hI
  have hlen := hI.1
  clear hI
  go_enter Tryd.func23, Tryd.ntmps23
  by_cases h40 : n ≤ 40
  · go_wp2_with fail
    go_loop [3] (fun iv => ∃ i : Nat, i ≤ n ∧ iv = .int .i64 i ∧ Hid (∀ x ∈ xs.take i, near x)) (fun iv => n - (intOf iv).toNat)
    case atStart => exact ⟨0, Nat.zero_le _, rfl, fun x hx => by simp at hx⟩
    case round =>
      obtain ⟨i, hi, rfl, HN⟩ := hrel
      by_cases hlt : i < n
      · have hj : i < xs.length := by omega
        obtain ⟨hok, b, off, LA, lc, rfl, c0, c1, c2, c3, _, _, _⟩ := HI.out.2 i xs[i] (List.getElem?_eq_getElem hj)
        have HT := Lib.hid (List.take_succ_eq_append_getElem hj)
        have HM := Lib.hid (List.getElem_mem hj)
        have HB := Lib.hid (show ¬ near xs[i] → (!decide (Near xs)) = true from fun h => by rw [decide_eq_false (fun h' : Near xs => h (h'.2 _ (List.getElem_mem hj)))]; rfl)
        generalize xs[i] = x at *
        obtain ⟨k1, k2, k3, k4, _⟩ := hok
        have h2d : decide ((3 : Int) < x.kind) = decide (3 < x.kind) := rfl
        by_cases d1 : (200 : Int) < (x.s.size : Int)
        · go_wp2_with fail
          go_ret
          exact ⟨ret_bool (HB.out fun h => by have := h.1; omega).symm, rfl⟩
        · by_cases d2 : (60 : Int) < (x.l.length : Int)
          · go_wp2_with fail
            go_ret
            exact ⟨ret_bool (HB.out fun h => by have := h.2.1; omega).symm, rfl⟩
          · by_cases d3 : x.kind < 0
            · go_wp2_with fail
              go_ret
              exact ⟨ret_bool (HB.out fun h => by have := h.2.2.1; omega).symm, rfl⟩
            · by_cases d4 : 3 < x.kind
              · go_wp2_with fail
                go_ret
                exact ⟨ret_bool (HB.out fun h => by have := h.2.2.2; omega).symm, rfl⟩
              · have HNR := Lib.hid (show near x from ⟨by omega, by omega, by omega, by omega⟩)
                go_wp2_with fail
                go_round
                case rel =>
                  refine ⟨i + 1, by omega, by go_num, fun y hy => ?_⟩
                  rw [HT.out] at hy
                  rcases List.mem_append.1 hy with hy | hy
                  · exact HN.out y hy
                  · rw [List.mem_singleton.1 hy]; exact HNR.out
                case measure => simp [intOf]; omega
      · obtain rfl : i = n := by omega
        have HX := Lib.hid (show Near xs from ⟨by omega, fun x hx => HN.out x (by rw [List.take_of_length_le (by omega)]; exact hx)⟩)
        go_wp2_with fail
        go_ret
        exact ⟨ret_bool (by rw [decide_eq_true HX.out]; rfl), rfl⟩
  · go_wp2_with fail
    go_ret
    exact ⟨ret_bool (by rw [decide_eq_false (fun h : Near xs => h40 (by have := h.1; omega))]; rfl), rfl⟩

def pItem (x : Item) (st : St) : St := if x.kind = 0 then pNum x.n st else if x.kind = 1 then pLong x.n st else if x.kind = 2 then pText x.s st else pList x.l st
def pItems : List Item → St → St
  | [], st => st
  | x :: l, st => pItems l (pItem x st)
theorem pItems_snoc : ∀ (l : List Item) (x : Item) (st : St), pItems (l ++ [x]) st = pItem x (pItems l st)
  | [], _, _ => rfl
  | y :: l, x, st => by rw [List.cons_append, pItems, pItems_snoc l, pItems]
theorem pItem_len {x : Item} (h : near x) (st : St) : (pItem x st).1.length ≤ st.1.length + 500 := by
  obtain ⟨h1, h2, _⟩ := h
  unfold pItem
  split
  · rw [pNum_len]; omega
  split
  · simp only [pLong, List.length_append, wordL_len]; omega
  split
  · simp only [pText, List.length_append, pNum_len, sB_len]; omega
  · rw [pList, pNums_len, pNum_len]; omega
theorem pItems_len : ∀ {l : List Item} (h : ∀ x ∈ l, near x) (st : St), (pItems l st).1.length ≤ st.1.length + 500 * l.length
  | [], _, st => by simp [pItems]
  | x :: l, h, st => by
    have h1 := pItem_len (h x (List.mem_cons_self ..)) st
    have h2 := pItems_len (fun y hy => h y (List.mem_cons_of_mem _ hy)) (pItem x st)
    rw [pItems, List.length_cons]
    omega

set_option maxHeartbeats 4000000 in
theorem put_any (xs : List Item) (A : Option Addr) (n c : Nat) (w : World) (hI : Its w A n xs) (hN : Near xs) :
    Calls Tryd.prog 24 #[.slice A n c] w fun e w' => ∃ g, e = .returned (.pointer (some ⟨g, 0, none⟩)) ∧ Wr w' w.heap.size g (pItems xs ([], .nil)).1 (pItems xs ([], .nil)).2 ∧ Below w.heap.size w w' := by
  have HI := Lib.hid hI
  have hlen := hI.1
  have hn40 : n ≤ 40 := by have := hN.1; omega
  have HN := Lib.hid hN
  clear hI hN
  have hW0 : Wr (w.alloc (.cells #[.slice none 0 0, .nilIface] 54)) w.heap.size w.heap.size [] .nil :=
    ⟨Nat.le_refl _, trivial, _, _, Blk.new _ _ _, World.ownsRow_nil _ _ _ _, rfl⟩
  have HW0 := Lib.hid hW0
  clear hW0
  go_enter Tryd.func24, Tryd.ntmps24
  go_wp2_with fail
  go_loopw [4] (fun iv wr => ∃ i : Nat, i ≤ n ∧ iv = .int .i64 i ∧ Wr wr w.heap.size w.heap.size (pItems (xs.take i) ([], .nil)).1 (pItems (xs.take i) ([], .nil)).2 ∧ Below w.heap.size w wr) (fun iv _ => n - (intOf iv).toNat)
  case atStart => exact ⟨0, Nat.zero_le _, rfl, HW0.out, bel_al (Below.refl _ _) _⟩
  case round =>
    obtain ⟨i, hi, rfl, hWr, hb⟩ := hrel
    by_cases hlt : i < n
    · have hj : i < xs.length := by omega
      obtain ⟨hok, b, off, LA, lc, rfl, d0, d1, d2, d3, hsl, _, _⟩ := HI.out.2 i xs[i] (List.getElem?_eq_getElem hj)
      have hck : ∀ {p : Addr} {v : Value}, w.cell? p = some v → wr.cell? p = some v := fun hp => (hb.cell (World.block_lt_of_cell? w _ hp)).trans hp
      have c0 := hck d0
      have c1 := hck d1
      have c2 := hck d2
      have c3 := hck d3
      clear hck d0 d1 d2 d3
      have HT := Lib.hid (List.take_succ_eq_append_getElem hj)
      have hnr := HN.out.2 _ (List.getElem_mem hj)
      have hbl := pItems_len (l := xs.take i) (fun x hx => HN.out.2 x (List.mem_of_mem_take hx)) ([], .nil)
      rw [List.length_take] at hbl
      simp only [List.length_nil] at hbl
      generalize xs[i] = x at *
      obtain ⟨k1, k2, k3, k4, k5⟩ := hok
      obtain ⟨n1, n2, n3, n4⟩ := hnr
      have HP := Lib.hid (show pItems (xs.take (i + 1)) ([], .nil) = pItem x (pItems (xs.take i) ([], .nil)) by rw [HT.out, pItems_snoc])
      have HW := Lib.hid hWr
      have HB := Lib.hid hb
      have HS := Lib.hid hsl
      have HK5 := Lib.hid k5
      generalize pItems (xs.take i) ([], .nil) = st at HP HW hbl
      clear hWr hb hsl HT k5
      by_cases e0 : x.kind = 0
      · have HQ := Lib.hid (Num_any x.n k2 _ _ st wr HW.out (by omega))
        have HE := Lib.hid (show pItem x st = pNum x.n st by rw [pItem, if_pos e0])
        have e0' : (x.kind == 0) = true := by simpa using e0
        clear e0
        go_wp2_with fail
        refine HQ.out.mono ?_
        rintro e w2 ⟨rfl, hW2, hb2⟩
        have HW2 := Lib.hid hW2
        have HB2 := Lib.hid (HB.out.trans hb2)
        clear hW2 hb2 HQ
        go_wp2_with fail
        go_roundw
        case rel => exact ⟨i + 1, by omega, by go_num, by rw [HP.out, HE.out]; exact HW2.out, HB2.out⟩
        case measure => simp [intOf]; omega
      · have e0' : (x.kind == 0) = false := by simpa using e0
        by_cases e1 : x.kind = 1
        · have HQ := Lib.hid (Long_any x.n k2 _ _ st wr HW.out (by omega))
          have HE := Lib.hid (show pItem x st = pLong x.n st by rw [pItem, if_neg e0, if_pos e1])
          have e1' : (x.kind == 1) = true := by simpa using e1
          clear e0 e1
          go_wp2_with fail
          refine HQ.out.mono ?_
          rintro e w2 ⟨rfl, hW2, hb2⟩
          have HW2 := Lib.hid hW2
          have HB2 := Lib.hid (HB.out.trans hb2)
          clear hW2 hb2 HQ
          go_wp2_with fail
          go_roundw
          case rel => exact ⟨i + 1, by omega, by go_num, by rw [HP.out, HE.out]; exact HW2.out, HB2.out⟩
          case measure => simp [intOf]; omega
        · have e1' : (x.kind == 1) = false := by simpa using e1
          by_cases e2 : x.kind = 2
          · have HQ := Lib.hid (Text_any x.s (by omega) _ _ st wr HW.out (by omega))
            have HE := Lib.hid (show pItem x st = pText x.s st by rw [pItem, if_neg e0, if_neg e1, if_pos e2])
            have e2' : (x.kind == 2) = true := by simpa using e2
            clear e0 e1 e2
            go_wp2_with fail
            refine HQ.out.mono ?_
            rintro e w2 ⟨rfl, hW2, hb2⟩
            have HW2 := Lib.hid hW2
            have HB2 := Lib.hid (HB.out.trans hb2)
            clear hW2 hb2 HQ
            go_wp2_with fail
            go_roundw
            case rel => exact ⟨i + 1, by omega, by go_num, by rw [HP.out, HE.out]; exact HW2.out, HB2.out⟩
            case measure => simp [intOf]; omega
          · have e2' : (x.kind == 2) = false := by simpa using e2
            have e3' : (x.kind == 3) = true := by simp; omega
            have HQ := Lib.hid (List_any x.l HK5.out LA x.l.length lc (by omega) rfl _ _ st wr (fun W hW => HS.out.keep (HB.out.trans hW)) HW.out (by omega))
            have HE := Lib.hid (show pItem x st = pList x.l st by rw [pItem, if_neg e0, if_neg e1, if_neg e2])
            clear e0 e1 e2
            go_wp2_with fail
            refine HQ.out.mono ?_
            rintro e w2 ⟨rfl, hW2, hb2⟩
            have HW2 := Lib.hid hW2
            have HB2 := Lib.hid (HB.out.trans hb2)
            clear hW2 hb2 HQ
            go_wp2_with fail
            go_roundw
            case rel => exact ⟨i + 1, by omega, by go_num, by rw [HP.out, HE.out]; exact HW2.out, HB2.out⟩
            case measure => simp [intOf]; omega
    · obtain rfl : i = n := by omega
      rw [List.take_of_length_le (by omega)] at hWr
      have HWr := Lib.hid hWr
      clear hWr
      go_wp2_with fail
      go_ret
      exact ⟨_, rfl, HWr.out, hb⟩
end Go.Proofs.YtclbbchljiagpaaDoor
