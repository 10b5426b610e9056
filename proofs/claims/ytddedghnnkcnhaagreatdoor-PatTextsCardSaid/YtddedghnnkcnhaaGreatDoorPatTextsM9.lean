/-
  Part 9 of the proof of PatTexts: PatR, WireF, WireG, WireH.
-/
import Derived.BigQuiet
import Derived.Deep.RegionHeld3
import Derived.Test.YtddedghnnkcnhaaGreatDoorPatTextsM8
import Derived.Test.YtddedghnnkcnhaaGreatDoorPatTextsM7
import Derived.WalkSpells
/-
  The document's text of a pattern.
-/
namespace Go.Proofs.YtddedghnnkcnhaaGreatDoor
open Go.RowKit
set_option maxRecDepth 100000
set_option linter.unusedVariables false

theorem joinTail_snoc (s : List UInt8) (r : List (List UInt8)) (b : List UInt8) : Lib.joinTail s (r ++ [b]) = Lib.joinTail s r ++ (s ++ b) := by
  unfold Lib.joinTail
  simp
theorem joinB_snoc (S : List ByteArray) (b : ByteArray) (h : S ≠ []) : joinB S ++ ⟨#[44]⟩ ++ b = joinB (S ++ [b]) := by
  cases S with
  | nil => exact absurd rfl h
  | cons x S =>
    unfold joinB
    apply ByteArray.ext
    rw [List.map_append, List.map_cons, List.cons_append, Lib.join_cons, Lib.join_cons, List.map_cons, List.map_nil, joinTail_snoc]
    simp
theorem joinB_one (b : ByteArray) : ⟨#[]⟩ ++ b = joinB [b] := by
  unfold joinB
  apply ByteArray.ext
  rw [List.map_cons, List.map_nil, Lib.join_one]
  simp
theorem joinB_nil : joinB [] = ⟨#[]⟩ := rfl

set_option maxHeartbeats 8000000 in
theorem RefText_any (L : List Int) (E : List (Int × Int)) (A B : Option Addr) (n c m d : Nat) (w : World) (hl : L.length = n) (hn : n ≤ 1048576) (hm : m ≤ 1048576) (hs : Sl w 1 A n (L.map (Value.int .i64))) (ht : Sl w 2 B m (Rk.cells E))
    (hL : ∀ x ∈ L, i64P x) (hE : ∀ e ∈ E, i64P e.1 ∧ i64P e.2) :
    Calls Tryz.prog 21 #[pv A n c B m d] w fun e w' => e = .returned (.string (textB L E)) ∧ Below w.heap.size w w' := by
  have hb0 := bel_al (Below.refl w.heap.size w) (.cells #[.slice A n c, .slice B m d] 25)
  have HB0 := Lib.hid hb0
  have HK := Lib.hid (Blk.new w 25 #[.slice A n c, .slice B m d])
  have HS := Lib.hid (hs.keep hb0)
  have HTt := Lib.hid (ht.keep hb0)
  have HM := Lib.hid ht.len2
  have HL := Lib.hid hl
  have HiL := Lib.hid hL
  have HiE := Lib.hid hE
  clear hb0 hs ht hl hL hE
  go_enter Tryz.func21, Tryz.ntmps21
  go_wp2_with fail
  obtain ⟨w0, hw0⟩ : ∃ w0, w0 = w.alloc (.cells #[.slice A n c, .slice B m d] 25) := ⟨_, rfl⟩
  rw [← hw0] at HB0 HK HS HTt ⊢
  clear hw0
  have HCe := Lib.hid (show ∀ V, Below w0.heap.size w0 V → V.cell? ⟨w.heap.size, 0, none⟩ = some (.slice A n c) ∧ V.cell? ⟨w.heap.size, 1, none⟩ = some (.slice B m d) from fun V hV => by
    have k0 := (HK.out.keep hV).cell 0
    have k1 := (HK.out.keep hV).cell 1
    simp at k0 k1
    exact ⟨k0, k1⟩)
  go_loopw [3, 4] (fun sv iv wr => ∃ (k : Nat) (s : ByteArray), k ≤ n ∧ iv = .int .i64 (k : Int) ∧ sv = .string s ∧ Hid (s = joinB ((L.take k).map itoaB)) ∧ Hid (Below w0.heap.size w0 wr)) (fun _ iv _ => n - (intOf iv).toNat)
  case atStart => exact ⟨0, _, Nat.zero_le _, rfl, rfl, Lib.hid rfl, Lib.hid (Below.refl _ _)⟩
  case round =>
    obtain ⟨k, s, hk, rfl, rfl, HSs, HB⟩ := hrel
    obtain ⟨k0, k1⟩ := HCe.out wr HB.out
    by_cases hlt : k < n
    · have hlt' : (k : Int) < (n : Int) := by omega
      have hk0 : (0 : Int) ≤ (k : Int) := by omega
      obtain ⟨x, hx⟩ : ∃ x, L[k]? = some x := ⟨_, List.getElem?_eq_getElem (by rw [HL.out]; exact hlt)⟩
      have HSk := HS.out.keep HB.out
      obtain ⟨b1, off1, rfl, _⟩ := HSk.at_ (show 0 < n by omega)
      have c1 := HSk.again hlt (show (L.map (Value.int .i64))[k]? = some (.int .i64 x) by rw [List.getElem?_map, hx]; rfl)
      have hxi := HiL.out x (List.mem_of_getElem? hx)
      have HI := Lib.hid (RefNumZ_any x wr hxi)
      have hsz : s.size ≤ n * 101 := by
        rw [HSs.out]
        refine Nat.le_trans (joinB_size _ fun b hb => ?_) ?_
        · obtain ⟨y, hy, rfl⟩ := List.mem_map.1 hb
          have := itoaB_size y (HiL.out y (List.mem_of_mem_take hy))
          omega
        · rw [List.length_map, List.length_take]
          exact Nat.mul_le_mul_right _ (by omega)
      have hxz := itoaB_size x hxi
      have hc1 : (⟨#[44]⟩ : ByteArray).size = 1 := rfl
      have hE : (L.take (k + 1)).map itoaB = (L.take k).map itoaB ++ [itoaB x] := by
        obtain ⟨h1, h2⟩ := List.getElem?_eq_some_iff.1 hx
        rw [List.take_succ_eq_append_getElem h1, h2, List.map_append]
        rfl
      rcases Nat.eq_zero_or_pos k with hz | hz
      · have hz' : ¬ (0 : Int) < (k : Int) := by omega
        have hadd : ∀ W, (Op.stringOp .add s (itoaB x)).run Tryz.prog W = .ok (.string (s ++ itoaB x)) W := fun W => run_string_add_sum W _ _ (by omega)
        have HN := Lib.hid (show s ++ itoaB x = joinB ((L.take (k + 1)).map itoaB) from by
          rw [hE, HSs.out, hz, List.take_zero]
          exact joinB_one _)
        clear hx hxi hsz hxz hc1 hE HSk hz
        go_wp2_with (go_at_call 85; refine HI.out.mono ?_; clear HI; rintro e w2 ⟨rfl, hb2⟩; have HB2 := Lib.hid (HB.out.andThen hb2); clear hb2)
        go_roundw
        case rel => exact ⟨k + 1, _, by omega, by go_num, rfl, HN, HB2⟩
        case measure => simp [intOf]; omega
      · have hz' : (0 : Int) < (k : Int) := by omega
        have hadd1 : ∀ W, (Op.stringOp .add s ⟨#[44]⟩).run Tryz.prog W = .ok (.string (s ++ ⟨#[44]⟩)) W := fun W => run_string_add_sum W _ _ (by omega)
        have hadd2 : ∀ W, (Op.stringOp .add (s ++ ⟨#[44]⟩) (itoaB x)).run Tryz.prog W = .ok (.string (s ++ ⟨#[44]⟩ ++ itoaB x)) W := fun W => run_string_add_sum W _ _ (by rw [ByteArray.size_append]; omega)
        have HN := Lib.hid (show s ++ ⟨#[44]⟩ ++ itoaB x = joinB ((L.take (k + 1)).map itoaB) from by
          rw [hE, HSs.out]
          refine joinB_snoc _ _ fun e => ?_
          have := congrArg List.length e
          rw [List.length_map, List.length_take, HL.out] at this
          simp at this
          omega)
        clear hx hxi hsz hxz hc1 hE HSk
        go_wp2_with (go_at_call 85; refine HI.out.mono ?_; clear HI; rintro e w2 ⟨rfl, hb2⟩; have HB2 := Lib.hid (HB.out.andThen hb2); clear hb2)
        go_roundw
        case rel => exact ⟨k + 1, _, by omega, by go_num, rfl, HN, HB2⟩
        case measure => simp [intOf]; omega
    · obtain rfl : k = n := by omega
      have hlt' : ¬ (k : Int) < (k : Int) := by omega
      rw [List.take_of_length_le (by rw [HL.out]; exact Nat.le_refl _)] at HSs
      have hsz : s.size ≤ k * 101 := by
        rw [HSs.out]
        refine Nat.le_trans (joinB_size _ fun b hb => ?_) ?_
        · obtain ⟨y, hy, rfl⟩ := List.mem_map.1 hb
          have := itoaB_size y (HiL.out y hy)
          omega
        · rw [List.length_map, HL.out]
          exact Nat.le_refl _
      have hc1 : (⟨#[124]⟩ : ByteArray).size = 1 := rfl
      have hadd1 : ∀ W, (Op.stringOp .add s ⟨#[124]⟩).run Tryz.prog W = .ok (.string (s ++ ⟨#[124]⟩)) W := fun W => run_string_add_sum W _ _ (by omega)
      have HSz := Lib.hid (show (s ++ ⟨#[124]⟩ : ByteArray).size ≤ 200000000 from by rw [ByteArray.size_append]; omega)
      have HPre := Lib.hid (show s ++ ⟨#[124]⟩ = joinB (L.map itoaB) ++ ⟨#[124]⟩ from by rw [HSs.out])
      clear hsz hc1
      go_wp2_with fail
      obtain ⟨p0, hp0⟩ : ∃ p0 : ByteArray, p0 = s ++ ⟨#[124]⟩ := ⟨_, rfl⟩
      rw [← hp0] at HSz HPre ⊢
      clear hp0 hadd1
      have HB1 := Lib.hid HB.out
      go_loopw [3, 5] (fun sv jv wx => ∃ (j : Nat) (t : ByteArray), j ≤ m ∧ jv = .int .i64 (j : Int) ∧ sv = .string t ∧ Hid (t = p0 ++ joinB ((E.take j).map edgeB)) ∧ Hid (Below w0.heap.size w0 wx)) (fun _ jv _ => m - (intOf jv).toNat)
      case atStart => exact ⟨0, _, Nat.zero_le _, rfl, rfl, Lib.hid (by rw [List.take_zero, List.map_nil, joinB_nil]; apply ByteArray.ext; simp), HB1⟩
      case round =>
        clear HB1 HB k0 k1
        obtain ⟨j, t, hj, rfl, rfl, HTt2, HB⟩ := hrel
        obtain ⟨k0, k1⟩ := HCe.out wr HB.out
        by_cases hlt2 : j < m
        · have hlt2' : (j : Int) < (m : Int) := by omega
          have hj0 : (0 : Int) ≤ (j : Int) := by omega
          obtain ⟨⟨x, y⟩, he⟩ : ∃ e, E[j]? = some e := ⟨_, List.getElem?_eq_getElem (by rw [HM.out]; exact hlt2)⟩
          obtain ⟨b2, off2, rfl, c0, c1⟩ := (HTt.out.keep HB.out).edge hlt2 he
          simp only at c0 c1
          have hxy := HiE.out _ (List.mem_of_getElem? he)
          have HNx := Lib.hid (fun W => RefNumZ_any x W hxy.1)
          have HNy := Lib.hid (fun W => RefNumZ_any y W hxy.2)
          have zx := itoaB_size x hxy.1
          have zy := itoaB_size y hxy.2
          have zt : t.size ≤ 200000000 + m * 101 := by
            rw [HTt2.out, ByteArray.size_append]
            have h1 := joinB_size ((E.take j).map edgeB) (fun b hb => by
              obtain ⟨e, he, rfl⟩ := List.mem_map.1 hb
              have := HiE.out e (List.mem_of_mem_take he)
              exact edgeB_size e this.1 this.2)
            rw [List.length_map, List.length_take] at h1
            have h2 := HSz.out
            have h3 : min j E.length * 101 ≤ m * 101 := Nat.mul_le_mul_right _ (by omega)
            omega
          have hc1 : (⟨#[44]⟩ : ByteArray).size = 1 := rfl
          have hc2 : (⟨#[45]⟩ : ByteArray).size = 1 := rfl
          have hE : (E.take (j + 1)).map edgeB = (E.take j).map edgeB ++ [edgeB (x, y)] := by
            obtain ⟨h1, h2⟩ := List.getElem?_eq_some_iff.1 he
            rw [List.take_succ_eq_append_getElem h1, h2, List.map_append]
            rfl
          have hadds : ∀ t1 : ByteArray, t1.size ≤ 400000000 → (∀ W, (Op.stringOp .add t1 (itoaB x)).run Tryz.prog W = .ok (.string (t1 ++ itoaB x)) W) ∧ (∀ W, (Op.stringOp .add (t1 ++ itoaB x) ⟨#[45]⟩).run Tryz.prog W = .ok (.string (t1 ++ itoaB x ++ ⟨#[45]⟩)) W) ∧ (∀ W, (Op.stringOp .add (t1 ++ itoaB x ++ ⟨#[45]⟩) (itoaB y)).run Tryz.prog W = .ok (.string (t1 ++ itoaB x ++ ⟨#[45]⟩ ++ itoaB y)) W) := fun t1 hz => ⟨fun W => run_string_add_sum W _ _ (by omega), fun W => run_string_add_sum W _ _ (by rw [ByteArray.size_append]; omega), fun W => run_string_add_sum W _ _ (by rw [ByteArray.size_append, ByteArray.size_append]; omega)⟩
          have HAll := Lib.hid (show ∀ V, Below wr.heap.size wr V → V.cell? ⟨w.heap.size, 1, none⟩ = some (.slice (some ⟨b2, off2, none⟩) m d) ∧ V.cell? ⟨b2, off2 + j * 2, none⟩ = some (.int .i64 x) ∧ V.cell? ⟨b2, off2 + j * 2 + 1, none⟩ = some (.int .i64 y) from fun V hV => by
            obtain ⟨_, k1⟩ := HCe.out V (HB.out.andThen hV)
            obtain ⟨b3, off3, hA, d0, d1⟩ := (HTt.out.keep (HB.out.andThen hV)).edge hlt2 he
            cases hA
            exact ⟨k1, d0, d1⟩)
          have HBc := Lib.hid (bel_drewN (Below.refl wr.heap.size wr) 1)
          rcases Nat.eq_zero_or_pos j with hz | hz
          · have hz' : ¬ (0 : Int) < (j : Int) := by omega
            obtain ⟨a1, a2, a3⟩ := hadds t (by omega)
            have HN := Lib.hid (show t ++ itoaB x ++ ⟨#[45]⟩ ++ itoaB y = p0 ++ joinB ((E.take (j + 1)).map edgeB) from by
              rw [hE, HTt2.out, hz, List.take_zero, List.map_nil, List.nil_append, joinB_nil, ← joinB_one]
              unfold edgeB
              apply ByteArray.ext
              simp)
            clear hadds hxy zx zy zt hc1 hc2 hE he hz
            go_wp2_with fail
            go_region_held3 (fun w' => w'.cell? ⟨w.heap.size, 1, none⟩ = some (.slice (some ⟨b2, off2, none⟩) m d) ∧ w'.cell? ⟨b2, off2 + j * 2, none⟩ = some (.int .i64 x) ∧ w'.cell? ⟨b2, off2 + j * 2 + 1, none⟩ = some (.int .i64 y)) (go_keep)
              (first
                | (go_at_call_of 85 (Value.int .i64 x); refine (HNx.out _).mono ?_; rintro e w2 ⟨rfl, hb2⟩; replace HBc := Lib.hid (HBc.out.andThen hb2); obtain ⟨q1, q2, q3⟩ := HAll.out _ HBc.out; clear hb2)
                | (go_at_call_of 85 (Value.int .i64 y); refine (HNy.out _).mono ?_; rintro e w3 ⟨rfl, hb3⟩; replace HBc := Lib.hid (HBc.out.andThen hb3); obtain ⟨q1, q2, q3⟩ := HAll.out _ HBc.out; clear hb3))
            all_goals (
              go_wp2_with fail
              go_roundw
              case rel => exact ⟨j + 1, _, by omega, by go_num, rfl, HN, Lib.hid (HB.out.andThen HBc.out)⟩
              case measure => simp [intOf]; omega)
          · have hz' : (0 : Int) < (j : Int) := by omega
            have a0 : ∀ W, (Op.stringOp .add t ⟨#[44]⟩).run Tryz.prog W = .ok (.string (t ++ ⟨#[44]⟩)) W := fun W => run_string_add_sum W _ _ (by omega)
            obtain ⟨a1, a2, a3⟩ := hadds (t ++ ⟨#[44]⟩) (by rw [ByteArray.size_append]; omega)
            have HN := Lib.hid (show t ++ ⟨#[44]⟩ ++ itoaB x ++ ⟨#[45]⟩ ++ itoaB y = p0 ++ joinB ((E.take (j + 1)).map edgeB) from by
              rw [hE, HTt2.out, ← joinB_snoc _ _ (fun e => by
                have := congrArg List.length e
                rw [List.length_map, List.length_take, HM.out] at this
                simp at this
                omega)]
              unfold edgeB
              apply ByteArray.ext
              simp)
            clear hadds hxy zx zy zt hc1 hc2 hE he
            go_wp2_with fail
            go_region_held3 (fun w' => w'.cell? ⟨w.heap.size, 1, none⟩ = some (.slice (some ⟨b2, off2, none⟩) m d) ∧ w'.cell? ⟨b2, off2 + j * 2, none⟩ = some (.int .i64 x) ∧ w'.cell? ⟨b2, off2 + j * 2 + 1, none⟩ = some (.int .i64 y)) (go_keep)
              (first
                | (go_at_call_of 85 (Value.int .i64 x); refine (HNx.out _).mono ?_; rintro e w2 ⟨rfl, hb2⟩; replace HBc := Lib.hid (HBc.out.andThen hb2); obtain ⟨q1, q2, q3⟩ := HAll.out _ HBc.out; clear hb2)
                | (go_at_call_of 85 (Value.int .i64 y); refine (HNy.out _).mono ?_; rintro e w3 ⟨rfl, hb3⟩; replace HBc := Lib.hid (HBc.out.andThen hb3); obtain ⟨q1, q2, q3⟩ := HAll.out _ HBc.out; clear hb3))
            all_goals (
              go_wp2_with fail
              go_roundw
              case rel => exact ⟨j + 1, _, by omega, by go_num, rfl, HN, Lib.hid (HB.out.andThen HBc.out)⟩
              case measure => simp [intOf]; omega)
        · obtain rfl : j = m := by omega
          have hlt2' : ¬ (j : Int) < (j : Int) := by omega
          rw [List.take_of_length_le (by rw [HM.out]; exact Nat.le_refl _), HPre.out] at HTt2
          go_wp2_with fail
          go_ret
          exact ⟨ret_eq (congrArg Value.string HTt2.out), HB0.out.andThen HB.out⟩
end Go.Proofs.YtddedghnnkcnhaaGreatDoor
/-
  Contract of wire.Writer.Num, whatever number.
-/
namespace Go.Proofs.YtddedghnnkcnhaaGreatDoor
open Go.RowKit
set_option maxRecDepth 100000
set_option linter.unusedVariables false

set_option maxHeartbeats 4000000 in
theorem Num_bad (z : Int) (hz : ¬ fits z) (g B : Nat) (bs : List Int) (E : Err) (w : World) (hW : Wr w B g bs E) (hl : bs.length ≤ 1099511627776) :
    Calls Tryz.prog 157 #[.pointer (some ⟨g, 0, none⟩), .int .i64 z] w fun e w' => e = .returned (.tuple #[]) ∧ Wr w' B g (bs ++ wordL 0) (Err.first [E, .flt 3 bs.length txtNumber]) ∧ Below B w w' := by
  obtain ⟨hBg, hE, bv, ev, hb, hown, he⟩ := hW
  have hBw : B ≤ w.heap.size := Nat.le_trans hBg (Nat.le_of_lt hb.lt)
  obtain ⟨A0, n0, rfl, hsl0⟩ := Sl.own hown
  have hc0 := hb.cell 0
  have hc1 := hb.cell 1
  simp at hc0 hc1
  have HBk := Lib.hid hb
  have HO := Lib.hid hown
  have HE := Lib.hid he
  clear hb hown he hsl0
  go_enter Tryz.func157, Tryz.ntmps157
  have HF := Lib.hid (fun (w1 : World) (hb1 : Below w.heap.size w w1) (v1 : Value) (h1 : (Err.flt 3 bs.length txtNumber).At w1 v1) (a : Addr) (ha : a = ⟨w1.heap.size, 0, none⟩) =>
    (by
      have hbA := bel_al (Below.refl w1.heap.size w1) (.cells #[ev, v1] 42)
      subst ha
      exact First_any [E, .flt 3 bs.length txtNumber] [ev, v1] _ 2 2 _ (by omega) rfl ⟨_, _, rfl, (HE.out.keep hb1).keep hbA, _, _, rfl, h1.keep hbA, rfl⟩ (Sl.newAt w1 [ev, v1] 42 2 rfl) :
      Calls Tryz.prog 204 #[.slice (some a) 2 2] (w1.alloc (.cells #[ev, v1] 42)) fun e w' => ∃ v', e = .returned v' ∧ (Err.first [E, .flt 3 bs.length txtNumber]).At (w1.alloc (.cells #[ev, v1] 42)) v' ∧ w1.alloc (.cells #[ev, v1] 42) = w'))
  have HR := Lib.hid (fun (w1 : World) (hb1 : Below w.heap.size w w1) (v1 v2 : Value) (h2 : (Err.first [E, .flt 3 bs.length txtNumber]).At (w1.alloc (.cells #[ev, v1] 42)) v2) =>
    (by
      have hbA := hb1.andThen (bel_al (Below.refl w1.heap.size w1) (.cells #[ev, v1] 42))
      have hb' := HBk.out.keep hbA
      have := hb'.set_ 1 v2
      refine ⟨⟨hBg, Err.first2_flat hE, _, v2, by simpa using this, own_farBlk (own_below HO.out (fun g' hg' => (HO.out.lt g' hg').2) hbA) hb' (by decide) _, h2.far (Err.first2_flat hE) fun g' cs h => blk_farBlk h hb' (by decide) _⟩, (hbA.mono hBw).setCell (p := ⟨g, 1, none⟩) hBg _⟩ :
      Wr ((w1.alloc (.cells #[ev, v1] 42)).setCell ⟨g, 1, none⟩ v2) B g bs (Err.first [E, .flt 3 bs.length txtNumber]) ∧ Below B w ((w1.alloc (.cells #[ev, v1] 42)).setCell ⟨g, 1, none⟩ v2)))
  have hsh : ev = .nilIface ∨ ∃ T x, ev = .iface T x := by
    by_cases hn : E = .nil
    · left; have := HE.out; rw [hn] at this; exact this
    · right; exact Err.At.iface_ HE.out hn
  have hz' : z < 0 ∨ 4294967295 < z := by unfold fits at hz; omega
  clear hz
  rcases hsh with rfl | ⟨T, x, rfl⟩ <;> rcases hz' with hz0 | hz0
  all_goals
    go_wp2_with fail
    go_cut [] from 12 to 26 (fun wx => Wr wx B g bs (Err.first [E, .flt 3 bs.length txtNumber]) ∧ Below B w wx)
    case first =>
      go_region_with (first
        | (go_at_call 98; refine (New_err 3 bs.length txtNumber _).mono ?_; rintro e w1 ⟨v1, rfl, hv1, hb1⟩; have hbw : Below w.heap.size w w1 := (bel_drewN (Below.refl _ _) 1).andThen hb1; have hc1' := (HBk.out.keep hbw).cell 1; simp at hc1'; obtain ⟨g1, rfl, hv1b⟩ := hv1)
        | (go_at_call 204; refine (HF.out w1 hbw _ ⟨g1, rfl, hv1b⟩ _ rfl).mono ?_; rintro e w2 ⟨v2, rfl, hv2, rfl⟩; obtain ⟨T2, x2, rfl⟩ := Err.At.iface_ hv2 Err.first2_ne; have hbk2 := fun o => (HBk.out.keep hbw).alloc o; have hcs := fun o => (hbk2 o).cell 1; simp only [List.getElem?_toArray] at hcs; have hfs := fun o => (hbk2 o).frozen 1; clear hbk2))
      all_goals
        go_wp2_with fail
        go_meet
        exact HR.out w1 hbw _ _ hv2
    case rest =>
      obtain ⟨hwr, hbx⟩ := hcut
      clear HBk HO HE HF HR hc0 hc1
      obtain ⟨_, hE2, bv, ev2, hb, hown, he⟩ := hwr
      have hBw2 : B ≤ wc.heap.size := Nat.le_trans hBg (Nat.le_of_lt hb.lt)
      have hc0 := hb.cell 0
      simp at hc0
      have HW := Lib.hid (word_own 0 (by omega) bs bv bs.length B wc rfl hown hBw2 hl)
      have HBk := Lib.hid hb
      have HO := Lib.hid hown
      have HE := Lib.hid he
      clear hb hown he
      go_wp2_with fail
      refine HW.out.mono ?_
      rintro e w1 ⟨v', rfl, hown1, hgr⟩
      obtain ⟨g1, c1, rfl, _⟩ := own_form hown1 (by omega)
      have hb1 := hgr.blkOwn HBk.out HO.out (by decide)
      have hcell := hb1.cell 0
      simp at hcell
      have hfr := hb1.frozen 0
      have HT := Lib.hid (Wr.turn (bs' := bs ++ wordL 0) hBg hE2 HBk.out HO.out HE.out hgr.g (by rw [List.length_append, wordL_len]; exact hown1))
      have HB1 := Lib.hid (hgr.belowOwn hBw2 HO.out)
      clear hown1 hgr hb1 HW
      go_wp2_with fail
      go_end0
      exact ⟨rfl, HT.out, (hbx.trans HB1.out).setCell (p := ⟨g, 0, none⟩) hBg _⟩

theorem Num_any (z : Int) (hz : -9223372036854775808 ≤ z ∧ z ≤ 9223372036854775807) (g B : Nat) (st : St) (w : World) (hW : Wr w B g st.1 st.2) (hl : st.1.length ≤ 1099511627776) :
    Calls Tryz.prog 157 #[.pointer (some ⟨g, 0, none⟩), .int .i64 z] w fun e w' => e = .returned (.tuple #[]) ∧ Wr w' B g (pNum z st).1 (pNum z st).2 ∧ Below B w w' := by
  by_cases h : fits z
  · obtain ⟨k, rfl⟩ := Int.eq_ofNat_of_zero_le h.1
    have := Num_fits k (by have := h.2; omega) g B st.1 st.2 w hW hl
    rw [pNum, if_pos h]
    exact this
  · have := Num_bad z h g B st.1 st.2 w hW hl
    rw [pNum, if_neg h]
    exact this
end Go.Proofs.YtddedghnnkcnhaaGreatDoor
/-
  Contracts of wire.Writer: Long, Text, List, Bytes, Err; bytes.Clone.
-/
namespace Go.Proofs.YtddedghnnkcnhaaGreatDoor
open Go.RowKit
set_option maxRecDepth 100000
set_option linter.unusedVariables false

/-- A text's bytes. -/
def sB (s : ByteArray) : List Int := s.data.toList.map fun b : UInt8 => (b.toNat : Int)
theorem sB_len (s : ByteArray) : (sB s).length = s.size := by rw [sB, List.length_map, Array.length_toList]; rfl
theorem sB_cells (s : ByteArray) : Lib.strCells s = (sB s).map (Value.int .u8) := by rw [sB, List.map_map]; rfl
theorem sB_bys (s : ByteArray) : Bys (sB s) := by
  intro x hx
  obtain ⟨b, _, rfl⟩ := List.mem_map.1 hx
  have := b.toNat_lt
  omega
def hiN (z : Int) : Nat := (z % 18446744073709551616 / 4294967296).toNat
def loN (z : Int) : Nat := (z % 4294967296).toNat
theorem hiN_lt (z : Int) : hiN z < 4294967296 := by unfold hiN; omega
theorem loN_lt (z : Int) : loN z < 4294967296 := by unfold loN; omega
def pLong (z : Int) (st : St) : St := (st.1 ++ wordL (hiN z) ++ wordL (loN z), st.2)
def pText (s : ByteArray) (st : St) : St := ((pNum s.size st).1 ++ sB s, (pNum s.size st).2)
def pNums : List Int → St → St
  | [], st => st
  | z :: l, st => pNums l (pNum z st)
def pList (l : List Int) (st : St) : St := pNums l (pNum l.length st)
theorem pNums_snoc : ∀ (l : List Int) (z : Int) (st : St), pNums (l ++ [z]) st = pNum z (pNums l st)
  | [], _, _ => rfl
  | x :: l, z, st => by rw [List.cons_append, pNums, pNums_snoc l, pNums]
theorem pNums_len : ∀ (l : List Int) (st : St), (pNums l st).1.length = st.1.length + 4 * l.length
  | [], st => by simp [pNums]
  | x :: l, st => by rw [pNums, pNums_len l, pNum_len, List.length_cons]; omega

section
variable {P : Program} {ops : Array Oper} {rest : List Oper} {o : Oper} {a : Act} {Q : Exit → Act → World → Prop}
/-- append(b, s...) of a string. -/
theorem wpList_str_lies {t u e : TypeId} (E : Elem P t e (.int .u8 0) 1 1) (hu : P.underlying u = some .string) {B : Nat} {W : World} (y x : Operand)
    (hgd : o.guard = none) (ho : o.op = .call { callee := .builtin .append, args := #[y, x], argTypes := #[t, u] })
    {v : Value} {n : Nat} {l : List Int} (hown : W.ownsRow B e 1 v n (l.map (Value.int .u8))) (hB : B ≤ W.heap.size) {s : ByteArray} (h0 : 0 < n + s.size)
    (hs : a.eval y = v) (hx : a.eval x = .string s) (hlim : n + s.size ≤ lim)
    (h : ∀ g cap w', w'.ownsRow B e 1 (.slice (some ⟨g, 0, none⟩) (n + s.size) cap) (n + s.size) ((l ++ sB s).map (Value.int .u8)) → W.grownBy w' v.ownBlock → wpList P ops Q rest (a.put o.dst (.slice (some ⟨g, 0, none⟩) (n + s.size) cap)) w') : wpList P ops Q (o :: rest) a W := by
  obtain ⟨i, hi, hz, hsize, hby⟩ := info_parts E.hi
  unfold lim at hlim
  refine Lib.wpList_append_own_string W hgd y x t u ho B e i E.ht hu hi hz hsize hby v n _ hs hown s hx (by unfold maxLen; omega) hlim hB ?_
  intro v' w' h2 h3 _
  rw [sB_cells, ← List.map_append] at h2
  rcases h2.2 with ⟨_, h4⟩ | ⟨g, cap, cur, rfl, _⟩
  · omega
  · exact h g cap w' h2 h3
end

set_option maxHeartbeats 2000000 in
theorem List_any (l : List Int) (hr : ∀ x ∈ l, -9223372036854775808 ≤ x ∧ x ≤ 9223372036854775807) (A : Option Addr) (n c : Nat) (hn : n ≤ 268435456) (hln : l.length = n) (g B : Nat) (st : St) (w : World)
    (hsB : ∀ w', Below B w w' → Sl w' 1 A n (l.map (Value.int .i64))) (hW : Wr w B g st.1 st.2) (hl : st.1.length ≤ 1099511627) :
    Calls Tryz.prog 92 #[.pointer (some ⟨g, 0, none⟩), .slice A n c] w fun e w' => e = .returned (.tuple #[]) ∧ Wr w' B g (pList l st).1 (pList l st).2 ∧ Below B w w' := by
  have HN := Lib.hid (Num_any n (by omega) g B st w hW (by omega))
  have HSB := Lib.hid hsB
  have HR := Lib.hid hr
  clear hW hsB hr
  go_enter Tryz.func92, Tryz.ntmps92
  go_wp2_with fail
  refine HN.out.mono ?_
  rintro e w1 ⟨rfl, hW1, hb1⟩
  have HW1 := Lib.hid hW1
  have HB1 := Lib.hid hb1
  have hpl := pNum_len n st
  have HPL := Lib.hid hpl
  clear hW1 hb1 HN hpl
  generalize hst : pNum n st = st1 at *
  go_wp2_with fail
  go_loopw [12] (fun iv wr => ∃ i : Nat, i ≤ n ∧ iv = .int .i64 i ∧ Wr wr B g (pNums (l.take i) st1).1 (pNums (l.take i) st1).2 ∧ Below B w wr) (fun iv _ => n - (intOf iv).toNat)
  case atStart => exact ⟨0, Nat.zero_le _, rfl, HW1.out, HB1.out⟩
  case round =>
    obtain ⟨i, hi, rfl, hWr, hb⟩ := hrel
    by_cases hlt : i < n
    · have hj : i < l.length := by omega
      obtain ⟨b, off, u, rfl, e1, c1⟩ := (HSB.out wr hb).one hlt
      rw [List.getElem?_map, List.getElem?_eq_getElem hj] at e1
      obtain rfl := Option.some.inj e1
      have HT := Lib.hid (List.take_succ_eq_append_getElem hj)
      have hz := HR.out _ (List.getElem_mem hj)
      have hlen := pNums_len (l.take i) st1
      rw [List.length_take, Nat.min_eq_left (by omega)] at hlen
      generalize l[i] = z at *
      have HZ := Lib.hid (Num_any z hz g B (pNums (l.take i) st1) wr hWr (by have := HPL.out; omega))
      have HBw := Lib.hid hb
      clear e1 hWr hb hlen
      go_wp2_with fail
      refine HZ.out.mono ?_
      rintro e w2 ⟨rfl, hW2, hb2⟩
      have HW2 := Lib.hid hW2
      have HB2 := Lib.hid (HBw.out.trans hb2)
      clear hW2 hb2 HZ
      go_wp2_with fail
      go_roundw
      case rel => exact ⟨i + 1, by omega, by go_num, by rw [HT.out, pNums_snoc]; exact HW2.out, HB2.out⟩
      case measure => simp [intOf]; omega
    · obtain rfl : i = n := by omega
      rw [List.take_of_length_le (by omega)] at hWr
      have HWr := Lib.hid hWr
      clear hWr
      go_wp2_with fail
      go_end0
      exact ⟨rfl, by rw [pList, hln, hst]; exact HWr.out, hb⟩

end Go.Proofs.YtddedghnnkcnhaaGreatDoor
/-
  Items; contracts of the statements' far and put, and of the document's Put.
-/
namespace Go.Proofs.YtddedghnnkcnhaaGreatDoor
open Go.RowKit
set_option maxRecDepth 100000
set_option linter.unusedVariables false

structure Item where
  kind : Int
  n : Int
  s : ByteArray
  l : List Int
def Item.ok (x : Item) : Prop := (-9223372036854775808 ≤ x.kind ∧ x.kind ≤ 9223372036854775807) ∧ (-9223372036854775808 ≤ x.n ∧ x.n ≤ 9223372036854775807) ∧ x.s.size ≤ 9223372036854775807 ∧ x.l.length ≤ 9223372036854775807 ∧ ∀ z ∈ x.l, -9223372036854775808 ≤ z ∧ z ≤ 9223372036854775807
/-- Items in memory. -/
def Its (w : World) (A : Option Addr) (n : Nat) (xs : List Item) : Prop :=
  xs.length = n ∧ ∀ (i : Nat) (x : Item), xs[i]? = some x → x.ok ∧ ∃ b off LA lc, A = some ⟨b, off, none⟩ ∧ w.cell? ⟨b, off + i * 4, none⟩ = some (.int .i64 x.kind) ∧ w.cell? ⟨b, off + i * 4 + 1, none⟩ = some (.int .i64 x.n) ∧
    w.cell? ⟨b, off + i * 4 + 2, none⟩ = some (.string x.s) ∧ w.cell? ⟨b, off + i * 4 + 3, none⟩ = some (.slice LA x.l.length lc) ∧ Sl w 1 LA x.l.length (x.l.map (Value.int .i64)) ∧ x.l.length ≤ lc ∧ lc ≤ 9223372036854775807
theorem Its.keep {w w' : World} {A : Option Addr} {n : Nat} {xs : List Item} (h : Its w A n xs) (hb : Below w.heap.size w w') : Its w' A n xs := by
  refine ⟨h.1, fun i x hx => ?_⟩
  obtain ⟨h0, b, off, LA, lc, hA, h1, h2, h3, h4, h5, h6⟩ := h.2 i x hx
  have hk : ∀ {p : Addr} {v : Value}, w.cell? p = some v → w'.cell? p = some v := fun hp => (hb.cell (World.block_lt_of_cell? w _ hp)).trans hp
  exact ⟨h0, b, off, LA, lc, hA, hk h1, hk h2, hk h3, hk h4, h5.keep hb, h6⟩
def near (x : Item) : Prop := x.s.size ≤ 200 ∧ x.l.length ≤ 60 ∧ 0 ≤ x.kind ∧ x.kind ≤ 3
def Near (xs : List Item) : Prop := xs.length ≤ 40 ∧ ∀ x ∈ xs, near x
instance (x : Item) : Decidable (near x) := by unfold near; exact inferInstance
instance (xs : List Item) : Decidable (Near xs) := by unfold Near; exact inferInstance

def pItem (x : Item) (st : St) : St := if x.kind = 0 then pNum x.n st else if x.kind = 1 then pLong x.n st else if x.kind = 2 then pText x.s st else pList x.l st
def pItems : List Item → St → St
  | [], st => st
  | x :: l, st => pItems l (pItem x st)
theorem pItems_snoc : ∀ (l : List Item) (x : Item) (st : St), pItems (l ++ [x]) st = pItem x (pItems l st)
  | [], _, _ => rfl
  | y :: l, x, st => by rw [List.cons_append, pItems, pItems_snoc l, pItems]
theorem pItem_len {x : Item} (h : near x) (st : St) : (pItem x st).1.length ≤ st.1.length + 500 := by
  obtain ⟨h1, h2, _⟩ := h
  unfold pItem
  split
  · rw [pNum_len]; omega
  split
  · simp only [pLong, List.length_append, wordL_len]; omega
  split
  · simp only [pText, List.length_append, pNum_len, sB_len]; omega
  · rw [pList, pNums_len, pNum_len]; omega
theorem pItems_len : ∀ {l : List Item} (h : ∀ x ∈ l, near x) (st : St), (pItems l st).1.length ≤ st.1.length + 500 * l.length
  | [], _, st => by simp [pItems]
  | x :: l, h, st => by
    have h1 := pItem_len (h x (List.mem_cons_self ..)) st
    have h2 := pItems_len (fun y hy => h y (List.mem_cons_of_mem _ hy)) (pItem x st)
    rw [pItems, List.length_cons]
    omega

end Go.Proofs.YtddedghnnkcnhaaGreatDoor
