/-
  Part 9 of the proof of LwProgNumbers: PgE, PgF, PgG.
-/
import Derived.Test.YtddedghnnkcnhaaGreatDoorLwProgNumbersM8
import Derived.Test.YtddedghnnkcnhaaGreatDoorLwProgNumbersM4
/-
  The document's text of a program of tests.
-/
namespace Go.Proofs.YtddedghnnkcnhaaGreatDoor
open Go.RowKit Go.Proofs.YtddedghnnkcnhaaGreatDoor.Pg
attribute [local go_sem ↓] Go.wp_at_zero Go.wp_at_succ
set_option maxRecDepth 100000
set_option linter.unusedVariables false

theorem join_snoc (c : List UInt8) : ∀ (r : List (List UInt8)) (x : List UInt8), Lib.join (r ++ [x]) c = Lib.join r c ++ (if r = [] then [] else c) ++ x
  | [], x => by
    rw [List.nil_append, Lib.join_cons]
    show x ++ Lib.joinTail c [] = _
    unfold Lib.joinTail
    simp [Lib.join]
  | y :: r, x => by
    rw [List.cons_append, Lib.join_cons, Lib.join_cons, if_neg (by simp)]
    unfold Lib.joinTail
    simp
theorem textG_snoc (q : List (Int × Int)) (o : Int × Int) : textG (q ++ [o]) = textG q ++ (if q = [] then [] else [59]) ++ opL o := by
  unfold textG
  rw [List.map_append]
  show Lib.join (q.map opL ++ [opL o]) [59] = _
  rw [join_snoc]
  cases q <;> simp
theorem textG_len (q : List (Int × Int)) (h : ∀ o ∈ q, opOK o) : (textG q).length ≤ q.length * 31 := by
  unfold textG
  have := joinC_len 59 (q.map opL) 30 (fun b hb => by
    obtain ⟨o, ho, rfl⟩ := List.mem_map.1 hb
    exact opL_len (h o ho).1 ⟨by have := (h o ho).2.1; omega, by have := (h o ho).2.1; omega⟩)
  rwa [List.length_map] at this
def names9 : List ByteArray := ⟨#[]⟩ :: namesB
theorem names9_at : ∀ {k : Int}, 1 ≤ k → k ≤ 8 → names9[k.toNat]? = some (bz (nameL k)) :=
  fun {k} h1 h8 => nat8 (P := fun k => names9[k.toNat]? = some (bz (nameL k))) ⟨rfl, rfl, rfl, rfl, rfl, rfl, rfl, rfl⟩ h1 h8
set_option maxHeartbeats 8000000 in
theorem RefText17_any (p : List (Int × Int)) (A : Option Addr) (n c : Nat) (w : World) (hn : n ≤ 1000) (hs : Sl w 2 A n (Rk.cells p)) (hp : ∀ o ∈ p, opOK o) :
    Calls Tryz.prog 70 #[.slice A n c] w fun e w' => e = .returned (.string (bz (textG p))) ∧ Below w.heap.size w w' := by
  have HS := Lib.hid hs
  have HM := Lib.hid hs.len2
  have HP := Lib.hid hp
  clear hs hp
  go_enter Tryz.func70, Tryz.ntmps70
  go_upto_region 2 with (fail)
  obtain ⟨w0, hw0⟩ : ∃ w0, w0 = w.alloc (.cells (names9.map Value.string).toArray 9) := ⟨_, rfl⟩
  have HB0 := Lib.hid (show Below w.heap.size w w0 from by rw [hw0]; exact bel_al (Below.refl _ _) _)
  have HK0 := Lib.hid (show Blk w0 w.heap.size 9 (names9.map Value.string).toArray from by rw [hw0]; exact Blk.new _ _ _)
  rw [show w.alloc (.cells #[.string ⟨#[]⟩, .string ⟨#[99, 108, 105, 113, 117, 101]⟩, .string ⟨#[108, 97, 98, 101, 108, 115]⟩, .string ⟨#[100, 101, 103, 114, 101, 101]⟩, .string ⟨#[115, 105, 122, 101]⟩, .string ⟨#[101, 100, 103, 101, 115]⟩, .string ⟨#[117, 110, 108, 105, 107, 101]⟩, .string ⟨#[111, 110, 108, 121]⟩, .string ⟨#[102, 114, 101, 101]⟩] 9) = w0 from hw0.symm]
  have HSz := Lib.hid (show w0.heap.size = w.heap.size + 1 from by rw [hw0]; simp)
  clear hw0
  go_wp2_with fail
  go_loopw [4, 5] (fun sv iv wr => ∃ k : Nat, k ≤ n ∧ iv = .int .i64 (k : Int) ∧ sv = .string (bz (textG (p.take k))) ∧ Hid (Below w0.heap.size w0 wr)) (fun _ iv _ => n - (intOf iv).toNat)
  case atStart => exact ⟨0, Nat.zero_le _, rfl, rfl, Lib.hid (Below.refl _ _)⟩
  case round =>
    obtain ⟨k, hk, rfl, rfl, HB⟩ := hrel
    by_cases hlt : k < n
    · have hlt' : (k : Int) < (n : Int) := by omega
      have hk0 : (0 : Int) ≤ (k : Int) := by omega
      obtain ⟨⟨x, y⟩, he⟩ : ∃ e, p[k]? = some e := ⟨_, List.getElem?_eq_getElem (by rw [HM.out]; exact hlt)⟩
      obtain ⟨b1, off1, rfl, c0, c1⟩ := (HS.out.keep (HB0.out.andThen HB.out)).edge hlt he
      simp only at c0 c1
      have hok := HP.out _ (List.mem_of_getElem? he)
      have hx1 := hok.1.1
      have hx8 := hok.1.2
      have hy0 := hok.2.1.1
      have hy9 := hok.2.1.2
      simp only at hx1 hx8 hy0 hy9
      obtain ⟨u, rfl⟩ : ∃ u : Nat, y = (u : Int) := ⟨y.toNat, by omega⟩
      obtain ⟨i, rfl⟩ : ∃ i : Nat, x = (i : Int) := ⟨x.toNat, by omega⟩
      have HSl := Lib.hid (HS.out.keep (HB0.out.andThen HB.out))
      have cN := (HK0.out.below HB.out (by rw [HSz.out]; omega)).cell i
      rw [List.getElem?_toArray, List.getElem?_map, show names9[i]? = some (bz (nameL (i : Int))) from by have := names9_at hx1 hx8; rwa [Int.toNat_natCast] at this] at cN
      have hi9 : (i : Int) < 9 := by omega
      have hi0 : (0 : Int) ≤ (i : Int) := by omega
      have HE := Lib.hid (show textG (p.take (k + 1)) = textG (p.take k) ++ (if p.take k = [] then [] else [59]) ++ opL ((i : Int), (u : Int)) from by
        obtain ⟨h1, h2⟩ := List.getElem?_eq_some_iff.1 he
        rw [List.take_succ_eq_append_getElem h1, h2, textG_snoc])
      have HOp := Lib.hid (show opL ((i : Int), (u : Int)) = nameL (i : Int) ++ if takesZ (i : Int) = true then 32 :: Lib.itoa (u : Int) else [] from rfl)
      have hln := textG_len (p.take k) (fun o ho => HP.out o (List.mem_of_mem_take ho))
      have hz1 := (name_ne hx1 hx8).2.2.2.2
      have hz3 : (textG (p.take k)).length ≤ 31000 := by
        have := List.length_take_le k p
        have : (p.take k).length * 31 ≤ 1000 * 31 := Nat.mul_le_mul_right _ (by omega)
        omega
      have HEm := Lib.hid (show k = 0 ↔ p.take k = [] from ⟨fun h => by subst h; rfl, fun h => by
        have h2 := congrArg List.length h
        rw [List.length_take, HM.out, List.length_nil] at h2
        omega⟩)
      have HNm := Lib.hid (fun W => RefNum_any u W (by omega))
      have HTk := Lib.hid (fun W => RefTakes_any (i : Int) W)
      have hu9 := decB_size (u := u) (by omega)
      have HDc := Lib.hid (show decB u = bz (Lib.itoa (u : Int)) from (decB_itoa u).symm)
      obtain ⟨T, hT⟩ : ∃ T, T = bz (textG (p.take k)) := ⟨_, rfl⟩
      obtain ⟨M, hM⟩ : ∃ M, M = bz (nameL (i : Int)) := ⟨_, rfl⟩
      obtain ⟨D, hD⟩ : ∃ D, D = decB u := ⟨_, rfl⟩
      have hT9 : T.size ≤ 31000 := by rw [hT, bz_size]; exact hz3
      have hM9 : M.size ≤ 6 := by rw [hM, bz_size]; exact hz1
      have HTd := Lib.hid hT
      have HMd := Lib.hid hM
      rw [← hD] at HNm hu9 HDc
      rw [← hM] at cN
      simp only [Option.map_some] at cN
      rw [← hT]
      clear hT hM hD he hok hln hz1 hz3 hx1 hx8 hy0 hy9
      have h59 : (⟨#[59]⟩ : ByteArray).size = 1 := rfl
      have h32 : (⟨#[32]⟩ : ByteArray).size = 1 := rfl
      by_cases hk1 : 0 < k
      · have hk1' : (0 : Int) < (k : Int) := by omega
        have a1 : ∀ W, (Op.stringOp .add T ⟨#[59]⟩).run Tryz.prog W = .ok (.string (T ++ ⟨#[59]⟩)) W := fun W => run_string_add_sum W _ _ (by omega)
        have a2 : ∀ W, (Op.stringOp .add (T ++ ⟨#[59]⟩) M).run Tryz.prog W = .ok (.string (T ++ ⟨#[59]⟩ ++ M)) W := fun W => run_string_add_sum W _ _ (by rw [ByteArray.size_append]; omega)
        have a3 : ∀ W, (Op.stringOp .add (T ++ ⟨#[59]⟩ ++ M) ⟨#[32]⟩).run Tryz.prog W = .ok (.string (T ++ ⟨#[59]⟩ ++ M ++ ⟨#[32]⟩)) W := fun W => run_string_add_sum W _ _ (by simp only [ByteArray.size_append]; omega)
        have a4 : ∀ W, (Op.stringOp .add (T ++ ⟨#[59]⟩ ++ M ++ ⟨#[32]⟩) D).run Tryz.prog W = .ok (.string (T ++ ⟨#[59]⟩ ++ M ++ ⟨#[32]⟩ ++ D)) W := fun W => run_string_add_sum W _ _ (by simp only [ByteArray.size_append]; omega)
        cases ht : takesZ (i : Int) with
        | true =>
          rw [ht] at HTk
          have HFin := Lib.hid (show T ++ ⟨#[59]⟩ ++ M ++ ⟨#[32]⟩ ++ D = bz (textG (p.take (k + 1))) from by
            rw [HE.out, HOp.out, if_pos ht, if_neg (fun h => by have := HEm.out.2 h; omega), HTd.out, HMd.out, HDc.out, show (⟨#[59]⟩ : ByteArray) = bz [59] from rfl, show (⟨#[32]⟩ : ByteArray) = bz [32] from rfl, bz_app, bz_app, bz_app, bz_app]
            simp)
          clear ht h59 h32 hT9 hM9
          go_wp2_with (first
            | (go_at_call 144; refine (HTk.out _).mono ?_; rintro e w3 ⟨rfl, rfl⟩)
            | (go_at_call 40; refine (HNm.out _).mono ?_; rintro e w4 ⟨rfl, hb4⟩; have HB4 := Lib.hid (HB.out.andThen hb4); clear hb4))
          go_roundw
          case rel => exact ⟨k + 1, by omega, by go_num, congrArg Value.string HFin.out, HB4⟩
          case measure => simp [intOf]; omega
        | false =>
          rw [ht] at HTk
          have HFin := Lib.hid (show T ++ ⟨#[59]⟩ ++ M = bz (textG (p.take (k + 1))) from by
            rw [HE.out, HOp.out, if_neg (show ¬ takesZ (i : Int) = true from by rw [ht]; decide), if_neg (fun h => by have := HEm.out.2 h; omega), HTd.out, HMd.out, show (⟨#[59]⟩ : ByteArray) = bz [59] from rfl, bz_app, bz_app]
            simp)
          clear ht h59 h32 hT9 hM9 a3 a4
          go_wp2_with (go_at_call 144; refine (HTk.out _).mono ?_; rintro e w3 ⟨rfl, rfl⟩)
          go_roundw
          case rel => exact ⟨k + 1, by omega, by go_num, congrArg Value.string HFin.out, HB⟩
          case measure => simp [intOf]; omega
      · have hk1' : ¬ (0 : Int) < (k : Int) := by omega
        have hke := HEm.out.1 (by omega)
        have a2 : ∀ W, (Op.stringOp .add T M).run Tryz.prog W = .ok (.string (T ++ M)) W := fun W => run_string_add_sum W _ _ (by omega)
        have a3 : ∀ W, (Op.stringOp .add (T ++ M) ⟨#[32]⟩).run Tryz.prog W = .ok (.string (T ++ M ++ ⟨#[32]⟩)) W := fun W => run_string_add_sum W _ _ (by simp only [ByteArray.size_append]; omega)
        have a4 : ∀ W, (Op.stringOp .add (T ++ M ++ ⟨#[32]⟩) D).run Tryz.prog W = .ok (.string (T ++ M ++ ⟨#[32]⟩ ++ D)) W := fun W => run_string_add_sum W _ _ (by simp only [ByteArray.size_append]; omega)
        cases ht : takesZ (i : Int) with
        | true =>
          rw [ht] at HTk
          have HFin := Lib.hid (show T ++ M ++ ⟨#[32]⟩ ++ D = bz (textG (p.take (k + 1))) from by
            rw [HE.out, HOp.out, if_pos ht, if_pos hke, HTd.out, HMd.out, HDc.out, show (⟨#[32]⟩ : ByteArray) = bz [32] from rfl, bz_app, bz_app, bz_app]
            simp)
          clear ht hke h59 h32 hT9 hM9
          go_wp2_with (first
            | (go_at_call 144; refine (HTk.out _).mono ?_; rintro e w3 ⟨rfl, rfl⟩)
            | (go_at_call 40; refine (HNm.out _).mono ?_; rintro e w4 ⟨rfl, hb4⟩; have HB4 := Lib.hid (HB.out.andThen hb4); clear hb4))
          go_roundw
          case rel => exact ⟨k + 1, by omega, by go_num, congrArg Value.string HFin.out, HB4⟩
          case measure => simp [intOf]; omega
        | false =>
          rw [ht] at HTk
          have HFin := Lib.hid (show T ++ M = bz (textG (p.take (k + 1))) from by
            rw [HE.out, HOp.out, if_neg (show ¬ takesZ (i : Int) = true from by rw [ht]; decide), if_pos hke, HTd.out, HMd.out, bz_app]
            simp)
          clear ht hke h59 h32 hT9 hM9 a3 a4
          go_wp2_with (go_at_call 144; refine (HTk.out _).mono ?_; rintro e w3 ⟨rfl, rfl⟩)
          go_roundw
          case rel => exact ⟨k + 1, by omega, by go_num, congrArg Value.string HFin.out, HB⟩
          case measure => simp [intOf]; omega
    · obtain rfl : k = n := by omega
      have hlt' : ¬ (k : Int) < (k : Int) := by omega
      have HF := Lib.hid (show p.take k = p from List.take_of_length_le (by rw [HM.out]; exact Nat.le_refl _))
      rw [HF.out]
      go_wp2_with fail
      go_ret
      exact ⟨rfl, HB0.out.andThen HB.out⟩
end Go.Proofs.YtddedghnnkcnhaaGreatDoor
/-
  The walk of the example of chapter 17: a program that keeps a pattern of one vertex.
-/
namespace Go.Proofs.YtddedghnnkcnhaaGreatDoor
open Go.RowKit Go.Proofs.YtddedghnnkcnhaaGreatDoor.Pg
attribute [local go_sem ↓] Go.wp_at_zero Go.wp_at_succ
set_option maxRecDepth 100000
set_option linter.unusedVariables false

theorem one_sl {b : Nat} {w : World} (h : w.cell? ⟨b, 0, none⟩ = some (.int .i64 3)) : Sl w 1 (some ⟨b, 0, none⟩) 1 (([3] : List Int).map (Value.int .i64)) :=
  ⟨rfl, fun _ => ⟨_, _, rfl, fun j u hu => by
    rcases j with _ | j
    · rw [show some u = some (Value.int .i64 3) from hu.symm]; exact h
    · simp at hu⟩⟩
theorem Over_17 (g : Nat) (w : World) (hK : Blk w g 94 #[.int .i64 2, .int .i64 3]) : Calls Tryz.prog 193 #[.int .i64 3, .pointer (some ⟨g, 0, none⟩)] w fun e w' => e = .returned (.bool false) ∧ w = w' := by
  have c0 := hK.cell 0
  have c1 := hK.cell 1
  simp at c0 c1
  clear hK
  go_enter Tryz.func193, Tryz.ntmps193
  go_wp2_with fail
  go_ret
  exact ⟨rfl, rfl⟩
theorem Index_17 (b g : Nat) (w : World) (hc : w.cell? ⟨b, 0, none⟩ = some (.int .i64 3)) (hK : Blk w g 94 #[.int .i64 2, .int .i64 3]) :
    Calls Tryz.prog 227 #[.slice (some ⟨b, 0, none⟩) 1 1, .func (.func 193) #[] #[.pointer (some ⟨g, 0, none⟩)]] w fun e w' => e = .returned (.int .i64 (-1)) ∧ w = w' := by
  have HC := Lib.hid (Over_17 g w hK)
  clear hK
  go_enter Tryz.func227, Tryz.ntmps227
  go_wp2_with fail
  go_loop [8] (fun i => ∃ k : Nat, k ≤ 1 ∧ i = .int .i64 k) (fun i => 1 - (intOf i).toNat)
  case atStart => exact ⟨0, Nat.zero_le _, rfl⟩
  case round =>
    obtain ⟨k, hk, rfl⟩ := hrel
    by_cases hlt : k < 1
    · obtain rfl : k = 0 := by omega
      go_wp2_with (go_at_call 193; refine HC.out.mono ?_; rintro e w' ⟨rfl, rfl⟩)
      go_round
      case rel => exact ⟨1, by omega, by go_num⟩
      case measure => simp [intOf]
    · obtain rfl : k = 1 := by omega
      go_wp2_with fail
      go_ret
      exact ⟨rfl, rfl⟩
theorem Contains_17 (b g : Nat) (w : World) (hc : w.cell? ⟨b, 0, none⟩ = some (.int .i64 3)) (hK : Blk w g 94 #[.int .i64 2, .int .i64 3]) :
    Calls Tryz.prog 192 #[.slice (some ⟨b, 0, none⟩) 1 1, .func (.func 193) #[] #[.pointer (some ⟨g, 0, none⟩)]] w fun e w' => e = .returned (.bool false) ∧ w = w' := by
  have HC := Lib.hid (Index_17 b g w hc hK)
  clear hc hK
  go_enter Tryz.func192, Tryz.ntmps192
  go_wp2_with (go_at_call 227; refine HC.out.mono ?_; rintro e w' ⟨rfl, rfl⟩)
  go_ret
  exact ⟨rfl, rfl⟩
/-- The program's two tests. -/
def two17 (o : Int × Int) : Prop := o = (1, 0) ∨ o = (2, 3)
set_option maxHeartbeats 4000000 in
theorem Holds_17 (o : Int × Int) (ho : two17 o) (b : Nat) (w : World) (hc : w.cell? ⟨b, 0, none⟩ = some (.int .i64 3)) :
    Calls Tryz.prog 148 #[.agg #[.int .i64 o.1, .int .i64 o.2], pv (some ⟨b, 0, none⟩) 1 1 none 0 0] w fun e w' => e = .returned (.bool true) ∧ Below w.heap.size w w' := by
  obtain ⟨W, hW⟩ : ∃ W, W = (w.alloc (.cells #[.int .i64 o.1, .int .i64 o.2] 94)).alloc (.cells #[.slice (some ⟨b, 0, none⟩) 1 1, .slice none 0 0] 31) := ⟨_, rfl⟩
  have HB := Lib.hid (show Below w.heap.size w W from by rw [hW]; exact bel_al (bel_al (Below.refl _ _) _) _)
  have hcW := (HB.out.cell (World.block_lt_of_cell? w _ hc)).trans hc
  rcases ho with rfl | rfl
  · clear hc
    go_enter Tryz.func148, Tryz.ntmps148
    go_wp2_with fail
    go_ret
    exact ⟨rfl, by rw [← hW]; exact HB.out⟩
  · have HC := Lib.hid (Contains_17 b w.heap.size W hcW (by rw [hW]; exact (Blk.new w _ _).alloc _))
    clear hcW
    go_enter Tryz.func148, Tryz.ntmps148
    rw [hW] at HC HB
    go_wp2_with (go_at_call 192; refine HC.out.mono ?_; rintro e w' ⟨rfl, rfl⟩)
    go_ret
    exact ⟨rfl, HB.out⟩
theorem two17_ok {o : Int × Int} (h : two17 o) : opOK o := by
  rcases h with rfl | rfl
  · exact ⟨⟨by decide, by decide⟩, ⟨by decide, by decide⟩, fun _ => rfl⟩
  · exact ⟨⟨by decide, by decide⟩, ⟨by decide, by decide⟩, fun h => absurd h (by decide)⟩
theorem right17p : rightP [3] [] := ⟨⟨by decide, by decide⟩, fun i e h => by simp at h⟩
theorem PatRight_17 (b : Nat) (w : World) (hc : w.cell? ⟨b, 0, none⟩ = some (.int .i64 3)) : Calls Tryz.prog 30 #[pv (some ⟨b, 0, none⟩) 1 1 none 0 0] w fun e w' => e = .returned .nilIface ∧ Below w.heap.size w w' :=
  (PatRight_any [3] [] _ none 1 1 0 0 _ rfl (by omega) (by omega) (one_sl hc) (Sl.nil _ _ _)).mono fun e w' h => by
    rcases h with ⟨_, h1, h2⟩ | ⟨h, _⟩
    · exact ⟨h1, h2⟩
    · exact absurd right17p h
theorem right_17 (o : Int × Int) (ho : two17 o) (w : World) : Calls Tryz.prog 147 #[.agg #[.int .i64 o.1, .int .i64 o.2], .int .i64 0] w fun e w' => e = .returned .nilIface ∧ Below w.heap.size w w' :=
  (right_any o.1 o.2 0 w).mono fun e w' h => by
    rcases h with ⟨_, h1, h2⟩ | ⟨h, _⟩
    · exact ⟨h1, h2⟩
    · exact absurd (two17_ok ho) h
set_option maxHeartbeats 4000000 in
theorem Test_17 (o : Int × Int) (ho : two17 o) (b : Nat) (w : World) (hc : w.cell? ⟨b, 0, none⟩ = some (.int .i64 3)) :
    Calls Tryz.prog 74 #[.agg #[.int .i64 o.1, .int .i64 o.2], pv (some ⟨b, 0, none⟩) 1 1 none 0 0] w fun e w' => e = .returned (.bool true) ∧ Below w.heap.size w w' := by
  have HB := Lib.hid (show Below w.heap.size w ((w.alloc (.cells #[.int .i64 o.1, .int .i64 o.2] 94)).alloc (.cells #[.slice (some ⟨b, 0, none⟩) 1 1, .slice none 0 0] 31)) from bel_al (bel_al (Below.refl _ _) _) _)
  have HC := Lib.hid hc
  have HO := Lib.hid ho
  have HR := Lib.hid (fun W => right_17 o ho W)
  have HK1 := Lib.hid ((Blk.new w 94 #[.int .i64 o.1, .int .i64 o.2]).alloc (.cells #[.slice (some ⟨b, 0, none⟩) 1 1, .slice none 0 0] 31))
  have HK2 := Lib.hid (Blk.new (w.alloc (.cells #[.int .i64 o.1, .int .i64 o.2] 94)) 31 #[.slice (some ⟨b, 0, none⟩) 1 1, .slice none 0 0])
  obtain ⟨x, y⟩ := o
  simp only at HB HR HK1 HK2 ⊢
  clear hc ho
  go_enter Tryz.func74, Tryz.ntmps74
  go_wp2_with (first
    | (go_at_call 147; refine (HR.out _).mono ?_; clear HR; rintro e w2 ⟨rfl, hb2⟩; have HB2 := Lib.hid (HB.out.andThen hb2); have k0 := (HK1.out.keep hb2).cell 0; have k1 := (HK1.out.keep hb2).cell 1; have k2 := (HK2.out.keep hb2).cell 0; have k3 := (HK2.out.keep hb2).cell 1; simp at k0 k1 k2 k3; have HKa := Lib.hid (HK1.out.keep hb2); have HKb := Lib.hid (HK2.out.keep hb2); have HP := Lib.hid (PatRight_17 b w2 ((HB2.out.cell (World.block_lt_of_cell? w _ HC.out)).trans HC.out)); clear hb2)
    | (go_at_call 30; refine HP.out.mono ?_; clear HP; rintro e w3 ⟨rfl, hb3⟩; have HB3 := Lib.hid (HB2.out.andThen hb3); clear k0 k1 k2 k3; have k0 := (HKa.out.keep hb3).cell 0; have k1 := (HKa.out.keep hb3).cell 1; have k2 := (HKb.out.keep hb3).cell 0; have k3 := (HKb.out.keep hb3).cell 1; simp at k0 k1 k2 k3; have HH := Lib.hid (Holds_17 (x, y) HO.out b w3 ((HB3.out.cell (World.block_lt_of_cell? w _ HC.out)).trans HC.out)); clear hb3)
    | (go_at_call 148; refine HH.out.mono ?_; clear HH; rintro e w4 ⟨rfl, hb4⟩; have HB4 := Lib.hid (HB3.out.andThen hb4); clear hb4))
  go_ret
  exact ⟨rfl, HB4.out⟩
theorem First1_17 (o : Int × Int) (ho : two17 o) (b g : Nat) (w : World) (hc : w.cell? ⟨b, 0, none⟩ = some (.int .i64 3)) (hK : Blk w g 31 #[.slice (some ⟨b, 0, none⟩) 1 1, .slice none 0 0]) :
    Calls Tryz.prog 150 #[.agg #[.int .i64 o.1, .int .i64 o.2], .pointer (some ⟨g, 0, none⟩)] w fun e w' => e = .returned (.bool false) ∧ Below w.heap.size w w' := by
  have HB := Lib.hid (bel_al (Below.refl w.heap.size w) (.cells #[.int .i64 o.1, .int .i64 o.2] 94))
  have HT := Lib.hid (Test_17 o ho b (w.alloc (.cells #[.int .i64 o.1, .int .i64 o.2] 94)) ((HB.out.cell (World.block_lt_of_cell? w _ hc)).trans hc))
  have hk0 := (hK.alloc (.cells #[.int .i64 o.1, .int .i64 o.2] 94)).cell 0
  have hk1 := (hK.alloc (.cells #[.int .i64 o.1, .int .i64 o.2] 94)).cell 1
  have hkl := hK.lt
  simp at hk0 hk1
  clear hc ho hK
  go_enter Tryz.func150, Tryz.ntmps150
  go_wp2_with (go_at_call 74; refine HT.out.mono ?_; clear HT; rintro e w4 ⟨rfl, hb4⟩; have HB4 := Lib.hid (HB.out.andThen hb4); clear hb4)
  go_ret
  exact ⟨rfl, HB4.out⟩
theorem IndexP_17 (A : Option Addr) (c b g : Nat) (w : World) (hs : Sl w 2 A 2 (Rk.cells [(1, 0), (2, 3)])) (hc : w.cell? ⟨b, 0, none⟩ = some (.int .i64 3)) (hK : Blk w g 31 #[.slice (some ⟨b, 0, none⟩) 1 1, .slice none 0 0]) :
    Calls Tryz.prog 149 #[.slice A 2 c, .func (.func 150) #[] #[.pointer (some ⟨g, 0, none⟩)]] w fun e w' => e = .returned (.int .i64 (-1)) ∧ Below w.heap.size w w' := by
  have HS := Lib.hid hs
  have HC := Lib.hid hc
  have HK := Lib.hid hK
  clear hs hc hK
  go_enter Tryz.func149, Tryz.ntmps149
  go_wp2_with fail
  go_loopw [8] (fun i wr => ∃ k : Nat, k ≤ 2 ∧ i = .int .i64 k ∧ Hid (Below w.heap.size w wr)) (fun i _ => 2 - (intOf i).toNat)
  case atStart => exact ⟨0, Nat.zero_le _, rfl, Lib.hid (Below.refl _ _)⟩
  case round =>
    obtain ⟨k, hk, rfl, HB⟩ := hrel
    by_cases hlt : k < 2
    · have hlt' : (k : Int) < 2 := by omega
      have hk0 : (0 : Int) ≤ (k : Int) := by omega
      obtain ⟨⟨x, y⟩, he⟩ : ∃ e, [((1 : Int), (0 : Int)), (2, 3)][k]? = some e := ⟨_, List.getElem?_eq_getElem hlt⟩
      have ho : two17 (x, y) := by
        have := List.mem_of_getElem? he
        simp only [List.mem_cons, List.not_mem_nil, or_false] at this
        exact this
      obtain ⟨b1, off1, rfl, c0, c1⟩ := (HS.out.keep HB.out).edge hlt he
      simp only at c0 c1
      have HF := Lib.hid (First1_17 (x, y) ho b g wr ((HB.out.cell (World.block_lt_of_cell? w _ HC.out)).trans HC.out) (HK.out.keep HB.out))
      simp only at HF
      clear he ho
      go_wp2_with (go_at_call 150; refine HF.out.mono ?_; rintro e w' ⟨rfl, hb2⟩; have HB2 := Lib.hid (HB.out.andThen hb2); clear hb2)
      go_roundw
      case rel => exact ⟨k + 1, by omega, by go_num, HB2⟩
      case measure => simp [intOf]; omega
    · obtain rfl : k = 2 := by omega
      go_wp2_with fail
      go_ret
      exact ⟨rfl, HB.out⟩
theorem First_17 (A : Option Addr) (c b : Nat) (w : World) (hs : Sl w 2 A 2 (Rk.cells [(1, 0), (2, 3)])) (hc : w.cell? ⟨b, 0, none⟩ = some (.int .i64 3)) :
    Calls Tryz.prog 76 #[.slice A 2 c, pv (some ⟨b, 0, none⟩) 1 1 none 0 0] w fun e w' => e = .returned (.int .i64 (-1)) ∧ Below w.heap.size w w' := by
  have HB := Lib.hid (bel_al (Below.refl w.heap.size w) (.cells #[.slice (some ⟨b, 0, none⟩) 1 1, .slice none 0 0] 31))
  have HI := Lib.hid (IndexP_17 A c b w.heap.size _ (hs.keep HB.out) ((HB.out.cell (World.block_lt_of_cell? w _ hc)).trans hc) (Blk.new w 31 #[.slice (some ⟨b, 0, none⟩) 1 1, .slice none 0 0]))
  clear hs hc
  go_enter Tryz.func76, Tryz.ntmps76
  go_wp2_with (go_at_call 149; refine HI.out.mono ?_; clear HI; rintro e w4 ⟨rfl, hb4⟩; have HB4 := Lib.hid (HB.out.andThen hb4); clear hb4)
  go_ret
  exact ⟨rfl, HB4.out⟩
theorem ProgRight_17 (A : Option Addr) (c : Nat) (w : World) (hs : Sl w 2 A 2 (Rk.cells [(1, 0), (2, 3)])) : Calls Tryz.prog 73 #[.slice A 2 c] w fun e w' => e = .returned .nilIface ∧ Below w.heap.size w w' :=
  (ProgRight_any [(1, 0), (2, 3)] A 2 c w (by omega) hs).mono fun e w' h => by
    rcases h with ⟨_, h1, h2⟩ | ⟨h, _⟩
    · exact ⟨h1, h2⟩
    · exact absurd ⟨by decide, fun o ho => two17_ok (by simp only [List.mem_cons, List.not_mem_nil, or_false] at ho; exact ho)⟩ h
set_option maxHeartbeats 4000000 in
theorem Keeps_17 (A : Option Addr) (c b : Nat) (w : World) (hs : Sl w 2 A 2 (Rk.cells [(1, 0), (2, 3)])) (hc : w.cell? ⟨b, 0, none⟩ = some (.int .i64 3)) :
    Calls Tryz.prog 75 #[.slice A 2 c, pv (some ⟨b, 0, none⟩) 1 1 none 0 0] w fun e w' => e = .returned (.bool true) ∧ Below w.heap.size w w' := by
  have HB := Lib.hid (bel_al (Below.refl w.heap.size w) (.cells #[.slice (some ⟨b, 0, none⟩) 1 1, .slice none 0 0] 31))
  have HK2 := Lib.hid (Blk.new w 31 #[.slice (some ⟨b, 0, none⟩) 1 1, .slice none 0 0])
  have HR := Lib.hid (ProgRight_17 A c _ (hs.keep HB.out))
  have HS := Lib.hid hs
  have HC := Lib.hid hc
  clear hs hc
  go_enter Tryz.func75, Tryz.ntmps75
  go_wp2_with (first
    | (go_at_call 73; refine HR.out.mono ?_; clear HR; rintro e w2 ⟨rfl, hb2⟩; have HB2 := Lib.hid (HB.out.andThen hb2); have k2 := (HK2.out.keep hb2).cell 0; have k3 := (HK2.out.keep hb2).cell 1; simp at k2 k3; have HKb := Lib.hid (HK2.out.keep hb2); have HP := Lib.hid (PatRight_17 b w2 ((HB2.out.cell (World.block_lt_of_cell? w _ HC.out)).trans HC.out)); clear hb2)
    | (go_at_call 30; refine HP.out.mono ?_; clear HP; rintro e w3 ⟨rfl, hb3⟩; have HB3 := Lib.hid (HB2.out.andThen hb3); clear k2 k3; have k2 := (HKb.out.keep hb3).cell 0; have k3 := (HKb.out.keep hb3).cell 1; simp at k2 k3; have HF := Lib.hid (First_17 A c b w3 (HS.out.keep HB3.out) ((HB3.out.cell (World.block_lt_of_cell? w _ HC.out)).trans HC.out)); clear hb3)
    | (go_at_call 76; refine HF.out.mono ?_; clear HF; rintro e w4 ⟨rfl, hb4⟩; have HB4 := Lib.hid (HB3.out.andThen hb4); clear hb4))
  go_ret
  exact ⟨rfl, HB4.out⟩
end Go.Proofs.YtddedghnnkcnhaaGreatDoor
/-
  Chapter 17's statements: alive.
-/
namespace Go.Proofs.YtddedghnnkcnhaaGreatDoor
open Go.RowKit Go.Proofs.YtddedghnnkcnhaaGreatDoor.Pg
attribute [local go_sem ↓] Go.wp_at_zero Go.wp_at_succ
set_option maxRecDepth 100000
set_option linter.unusedVariables false

def t17 : List UInt8 := [99, 108, 105, 113, 117, 101, 59, 108, 97, 98, 101, 108, 115, 32, 51]
def b17 : List UInt8 := [99, 108, 105, 113, 117, 101, 32, 49]
theorem right17 : rightG [(1, 0), (2, 3)] := ⟨by decide, fun o ho => two17_ok (by simp only [List.mem_cons, List.not_mem_nil, or_false] at ho; exact ho)⟩
theorem itoa3 : Lib.itoa 3 = [51] := by
  rw [show (3 : Int) = ((3 : Nat) : Int) from rfl]
  unfold Lib.itoa
  rw [if_neg (by omega), Int.toNat_natCast, Lib.decDigits, dif_pos (by omega)]
  rfl
theorem text17 : textG [(1, 0), (2, 3)] = t17 := by
  unfold textG
  simp only [List.map_cons, List.map_nil, opL, itoa3]
  rfl
theorem parse17 : parseG t17 = some [(1, 0), (2, 3)] := by rw [← text17]; exact parse_text right17
theorem tests17 : testsP (Tx.split1 59 b17) = none := by rfl
theorem bad17 : parseG b17 = none := by unfold parseG; rw [tests17]; rfl
theorem Parse_t17 (w : World) (hT : TabW w) (hL : LibW w) : Calls Tryz.prog 69 #[.string ⟨#[99, 108, 105, 113, 117, 101, 59, 108, 97, 98, 101, 108, 115, 32, 51]⟩] w fun e w' => ∃ D dc, e = .returned (.tuple #[.slice D 2 dc, .nilIface]) ∧ w'.ownsRow w.heap.size 94 2 (.slice D 2 dc) 2 (Rk.cells [(1, 0), (2, 3)]) ∧ Below w.heap.size w w' :=
  (PgParse_any t17 w (by decide) hL hT).mono fun e w' h => by
    rcases h with ⟨hb1, ⟨p, D, dc, hp, h1, hown⟩ | ⟨hp, _⟩⟩
    · rw [parse17] at hp
      injection hp with hp
      subst hp
      exact ⟨D, dc, h1, hown, hb1⟩
    · rw [parse17] at hp
      cases hp
theorem Parse_b17 (w : World) (hT : TabW w) (hL : LibW w) : Calls Tryz.prog 69 #[.string ⟨#[99, 108, 105, 113, 117, 101, 32, 49]⟩] w fun e w' => ∃ a s g, e = .returned (.tuple #[.slice none 0 0, .iface 145 (.pointer (some ⟨g, 0, none⟩))]) ∧ Blk w' g 148 #[.int .i64 2, .int .i64 a, .string s] ∧ Below w.heap.size w w' :=
  (PgParse_any b17 w (by decide) hL hT).mono fun e w' h => by
    rcases h with ⟨hb1, ⟨p, D, dc, hp, h1, hown⟩ | ⟨hp, c, a, s, g, he, ⟨g', hg', hv⟩, _, hc⟩⟩
    · rw [bad17] at hp
      cases hp
    · cases hg'
      have hc2 := hc tests17
      subst hc2
      exact ⟨a, s, g, he, hv, hb1⟩
theorem Text_t17 (D : Option Addr) (dc : Nat) (w : World) (hT : TabW w) (hs : Sl w 2 D 2 (Rk.cells [(1, 0), (2, 3)])) : Calls Tryz.prog 57 #[.slice D 2 dc] w fun e w' => e = .returned (.string ⟨#[99, 108, 105, 113, 117, 101, 59, 108, 97, 98, 101, 108, 115, 32, 51]⟩) ∧ Below w.heap.size w w' :=
  (PgText_any [(1, 0), (2, 3)] D 2 dc w (by omega) hs (fun o ho => ⟨(right17.2 o ho).1, by have := (right17.2 o ho).2.1; omega, by have := (right17.2 o ho).2.1; omega⟩) hT).mono fun e w' h => ⟨by rw [h.1, text17]; rfl, h.2⟩
set_option maxHeartbeats 1000000 in
theorem alive17 (w : World) (hg : ErrT w) (hT : TabW w) (hL : LibW w) : Calls Tryz.prog 66 #[] w fun e w' => e = .returned (.bool true) ∧ Below w.heap.size w w' := by
  have HP1 := Lib.hid (Parse_t17 w hT hL)
  have HP2 := Lib.hid (fun W (hW : Below w.heap.size w W) => Parse_b17 W (hT.keep hW) (hL.keep hW))
  have HG := Lib.hid hg
  have HT := Lib.hid hT
  clear hg hT hL
  go_enter Tryz.func66, Tryz.ntmps66
  go_upto_region 2 with (go_at_call 69; refine HP1.out.mono ?_; clear HP1; rintro e w1 ⟨D, dc, rfl, hown, hb1⟩; have HB1 := Lib.hid hb1; have HO1 := Lib.hid hown; clear hb1 hown)
  go_upto_region 3 with (go_at_call 69; refine (HP2.out w1 HB1.out).mono ?_; clear HP2; rintro e w2 ⟨a, s, g, rfl, hv, hb2⟩; have HB2 := Lib.hid (HB1.out.andThen hb2); have HV2 := Lib.hid hv; have HO2 := Lib.hid (own_block HO1.out fun g hg => hb2.block g (HO1.out.lt g hg).2); clear hb2 hv)
  have HS2 := Lib.hid (show Sl w2 2 D 2 (Rk.cells [(1, 0), (2, 3)]) from by obtain ⟨D1, dc1, h1, h2⟩ := Sl.own HO2.out; cases h1; exact h2)
  have HTx := Lib.hid (Text_t17 D dc w2 (HT.out.keep HB2.out) HS2.out)
  clear HO1 HO2
  go_wp2_with (first
    | (go_at_call 57; refine HTx.out.mono ?_; clear HTx; rintro e w3 ⟨rfl, hb3⟩; have HB3 := Lib.hid (HB2.out.andThen hb3); have HS3 := Lib.hid (HS2.out.keep hb3); have HC := Lib.hid (Code_flt g 2 a s w3 (HG.out.keep HB3.out) (HV2.out.keep hb3)); clear hb3)
    | (go_at_call 29; refine HC.out.mono ?_; clear HC; rintro e w4 ⟨rfl, hb4⟩; have HB4 := Lib.hid (bel_al (HB3.out.andThen hb4) (.cells #[.int .i64 3] 3)); have HK := Lib.hid (Keeps_17 D dc w4.heap.size (w4.alloc (.cells #[.int .i64 3] 3)) ((HS3.out.keep hb4).alloc _) (by rw [World.cell?_alloc_new]; rfl)); clear hb4)
    | (go_at_call 75; refine HK.out.mono ?_; clear HK; rintro e w5 ⟨rfl, hb5⟩; have HB5 := Lib.hid (HB4.out.andThen hb5); clear hb5))
  go_ret
  exact ⟨rfl, HB5.out⟩
end Go.Proofs.YtddedghnnkcnhaaGreatDoor
