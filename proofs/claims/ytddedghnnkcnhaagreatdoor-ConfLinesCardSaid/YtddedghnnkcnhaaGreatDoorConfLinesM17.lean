/-
  Part 17 of the proof of ConfLines: PatN, PgD.
-/
import Derived.BigQuiet
import Derived.Test.YtddedghnnkcnhaaGreatDoorConfLinesM4
import Derived.Test.YtddedghnnkcnhaaGreatDoorConfLinesM16
import Derived.Test.YtddedghnnkcnhaaGreatDoorConfLinesM9
/-
  The document's numbers as texts: Num, num.
-/
namespace Go.Proofs.YtddedghnnkcnhaaGreatDoor
open Go.RowKit
set_option maxRecDepth 100000
set_option linter.unusedVariables false

def decB (u : Nat) : ByteArray := ⟨(Lib.decDigits u).toArray⟩
theorem decB_step {u : Nat} (h : 10 ≤ u) : decB (u / 10) ++ decB (u % 10) = decB u := by
  have e : Lib.decDigits u = Lib.decDigits (u / 10) ++ Lib.decDigits (u % 10) := by
    conv => lhs; rw [Lib.decDigits, dif_neg (by omega)]
    congr 1
    rw [Lib.decDigits, dif_pos (Nat.mod_lt _ (by omega))]
  unfold decB
  rw [e]
  apply ByteArray.ext
  simp
theorem decB_one {u : Nat} (h : u < 10) : decB u = ⟨#[UInt8.ofNat (48 + u)]⟩ := by
  unfold decB
  rw [Lib.decDigits, dif_pos h]
theorem strOf_one {u : Nat} (h : u < 10) : strOfNums [((48 + u : Nat) : Int)] = decB u := by
  rw [decB_one h]
  unfold strOfNums
  simp only [List.map_cons, List.map_nil, Int.toNat_natCast]
set_option linter.unnecessarySimpa false in
theorem conv_one (w : World) (u : Nat) (h : u < 10) : (convert 26 9 (.slice (some ⟨w.heap.size, 0, none⟩) 1 1)).run Tryz.prog (w.alloc (.cells #[.int .u8 ((48 + u : Nat) : Int)] 5)) = .ok (.string (decB u)) (w.alloc (.cells #[.int .u8 ((48 + u : Nat) : Int)] 5)) := by
  rw [← strOf_one h]
  refine run_convert_bytes_arg (P := Tryz.prog) _ 26 5 Tryz.underlying26 Tryz.underlying5 _ 0 1 1 [((48 + u : Nat) : Int)] rfl (fun i hi => ?_) 9 Tryz.underlying9
  obtain rfl : i = 0 := by omega
  have c := (Blk.new w 5 #[.int .u8 ((48 + u : Nat) : Int)]).cell 0
  simpa using c

theorem decB_itoa (u : Nat) : itoaB (u : Int) = decB u := by
  unfold itoaB decB
  rw [Lib.itoa, if_neg (by omega), Int.toNat_natCast]
theorem decB_size {u : Nat} (h : u ≤ 9223372036854775807) : (decB u).size ≤ 21 := by
  rw [← decB_itoa]
  exact itoaB_size _ (by unfold i64P; omega)

set_option maxHeartbeats 4000000 in
theorem RefNum_any : ∀ (u : Nat) (w : World), u ≤ 9223372036854775807 → Calls Tryz.prog 40 #[.int .i64 (u : Int)] w fun e w' => e = .returned (.string (decB u)) ∧ Below w.heap.size w w' := by
  intro u
  induction u using Nat.strongRecOn with
  | ind u ih =>
    intro w hu
    have hu0 : (0 : Int) ≤ (u : Int) := by omega
    by_cases h9 : u < 10
    · have h9' : ¬ (9 : Int) < (u : Int) := by omega
      have hcv := conv_one w u h9
      have hw1 : IntKind.i64.wrap (48 + (u : Int)) = 48 + (u : Int) := by rw [IntKind.wrap_i64]; omega
      have hw2 : IntKind.u8.wrap (48 + (u : Int)) = 48 + (u : Int) := by unfold IntKind.wrap; simp [IntKind.bits, IntKind.signed]; omega
      rw [show ((48 + u : Nat) : Int) = 48 + (u : Int) from by omega] at hcv
      clear ih
      go_enter Tryz.func40, Tryz.ntmps40
      go_wp2_with fail
      go_ret
      exact ⟨rfl, bel_al (Below.refl _ _) _⟩
    · have h9' : (9 : Int) < (u : Int) := by omega
      have h1 := fun W => ih (u / 10) (by omega) W (by omega)
      have h2 := fun W => ih (u % 10) (by omega) W (by omega)
      rw [show ((u / 10 : Nat) : Int) = (u : Int) / 10 from by omega] at h1
      rw [show ((u % 10 : Nat) : Int) = (u : Int) % 10 from by omega] at h2
      have H1 := Lib.hid (h1 w)
      have H2 := Lib.hid h2
      have hst := decB_step (u := u) (by omega)
      have HSt := Lib.hid hst
      have z1 := decB_size (u := u / 10) (by omega)
      have z2 := decB_size (u := u % 10) (by omega)
      have hadd : ∀ W, (Op.stringOp .add (decB (u / 10)) (decB (u % 10))).run Tryz.prog W = .ok (.string (decB (u / 10) ++ decB (u % 10))) W := fun W => run_string_add_sum W _ _ (by omega)
      clear ih h1 h2 hst z1 z2
      go_enter Tryz.func40, Tryz.ntmps40
      go_wp2_with (first
        | (go_at_call 40; refine H1.out.mono ?_; clear H1; rintro e w1 ⟨rfl, hb⟩; have HB1 := Lib.hid hb; have H3 := Lib.hid (H2.out w1); clear H2 hb)
        | (go_at_call 40; refine H3.out.mono ?_; clear H3; rintro e w2 ⟨rfl, hb⟩; have HB2 := Lib.hid (HB1.out.andThen hb); clear hb)
        | fail)
      go_ret
      exact ⟨ret_eq (congrArg Value.string HSt.out), HB2.out⟩
theorem itoa_neg {u : Nat} (h : 1 ≤ u) : itoaB (-(u : Int)) = ⟨#[45]⟩ ++ decB u := by
  unfold itoaB decB
  rw [Lib.itoa, if_pos (by omega), Int.natAbs_neg, Int.natAbs_natCast]
  apply ByteArray.ext
  simp
theorem itoa_neg_step {u : Nat} (h : 10 ≤ u) : itoaB (-((u / 10 : Nat) : Int)) ++ decB (u % 10) = itoaB (-(u : Int)) := by
  rw [itoa_neg (by omega), itoa_neg (by omega), ByteArray.append_assoc, decB_step h]

set_option maxHeartbeats 4000000 in
theorem RefNumNeg_any : ∀ (u : Nat) (w : World), 1 ≤ u → u ≤ 9223372036854775808 → Calls Tryz.prog 85 #[.int .i64 (-(u : Int))] w fun e w' => e = .returned (.string (itoaB (-(u : Int)))) ∧ Below w.heap.size w w' := by
  intro u
  induction u using Nat.strongRecOn with
  | ind u ih =>
    intro w hu1 hu
    have hneg : -(u : Int) < 0 := by omega
    have hzs := itoaB_size (-(u : Int)) (by unfold i64P; omega)
    by_cases h9 : u < 10
    · have h9' : ¬ -(u : Int) < -9 := by omega
      have H1 := Lib.hid (RefNum_any u w (by omega))
      have hng : IntKind.i64.wrap (- -(u : Int)) = (u : Int) := by rw [IntKind.wrap_i64]; omega
      have HSt := Lib.hid (itoa_neg hu1)
      have z1 := decB_size (u := u) (by omega)
      have z2 : (⟨#[45]⟩ : ByteArray).size = 1 := rfl
      have hadd : ∀ W, (Op.stringOp .add ⟨#[45]⟩ (decB u)).run Tryz.prog W = .ok (.string (⟨#[45]⟩ ++ decB u)) W := fun W => run_string_add_sum W _ _ (by omega)
      clear ih z1 z2 hzs
      obtain ⟨z, hz⟩ : ∃ z, z = -(u : Int) := ⟨_, rfl⟩
      have HZ := Lib.hid hz
      rw [← hz] at hneg h9' hng HSt ⊢
      clear hz
      go_enter Tryz.func85, Tryz.ntmps85
      go_wp2_with (go_at_call 40; refine H1.out.mono ?_; clear H1; rintro e w1 ⟨rfl, hb⟩; have HB1 := Lib.hid hb; clear hb)
      go_ret
      exact ⟨ret_eq (congrArg Value.string HSt.out.symm), HB1.out⟩
    · have h9' : -(u : Int) < -9 := by omega
      have h1 := ih (u / 10) (by omega) w (by omega) (by omega)
      have h2 := fun W => RefNum_any (u % 10) W (by omega)
      have z1 := itoaB_size (-((u / 10 : Nat) : Int)) (by unfold i64P; omega)
      have z2 := decB_size (u := u % 10) (by omega)
      have hadd : ∀ W, (Op.stringOp .add (itoaB (-((u / 10 : Nat) : Int))) (decB (u % 10))).run Tryz.prog W = .ok (.string (itoaB (-((u / 10 : Nat) : Int)) ++ decB (u % 10))) W := fun W => run_string_add_sum W _ _ (by omega)
      have HSt := Lib.hid (itoa_neg_step (u := u) (by omega))
      have hq : Int.tdiv (-(u : Int)) 10 = -((u / 10 : Nat) : Int) := by rw [Int.neg_tdiv]; rfl
      have hr : Int.tmod (-(u : Int)) 10 = -((u % 10 : Nat) : Int) := by rw [Int.neg_tmod]; rfl
      have hng : IntKind.i64.wrap (- -((u % 10 : Nat) : Int)) = ((u % 10 : Nat) : Int) := by rw [IntKind.wrap_i64]; omega
      obtain ⟨zn, hzn⟩ : ∃ zn, zn = -((u % 10 : Nat) : Int) := ⟨_, rfl⟩
      rw [← hzn] at hr hng
      have hqw : IntKind.i64.wrap (-((u / 10 : Nat) : Int)) = -((u / 10 : Nat) : Int) := by rw [IntKind.wrap_i64]; omega
      obtain ⟨z, hz⟩ : ∃ z, z = -(u : Int) := ⟨_, rfl⟩
      obtain ⟨zq, hzq⟩ : ∃ zq, zq = -((u / 10 : Nat) : Int) := ⟨_, rfl⟩
      obtain ⟨zr, hzr⟩ : ∃ zr, zr = ((u % 10 : Nat) : Int) := ⟨_, rfl⟩
      rw [← hz] at hneg h9' hq hr HSt ⊢
      rw [← hzq] at h1 hadd HSt hq hqw
      rw [← hzr] at h2 hng
      have H1 := Lib.hid h1
      have H2 := Lib.hid h2
      clear ih z1 z2 hzs h1 h2 hz hzq hzr hzn
      go_enter Tryz.func85, Tryz.ntmps85
      go_wp2_with (first
        | (go_at_call 85; refine H1.out.mono ?_; clear H1; rintro e w1 ⟨rfl, hb⟩; have HB1 := Lib.hid hb; have H3 := Lib.hid (H2.out w1); clear H2 hb)
        | (go_at_call 40; refine H3.out.mono ?_; clear H3; rintro e w2 ⟨rfl, hb⟩; have HB2 := Lib.hid (HB1.out.andThen hb); clear hb)
        | fail)
      go_ret
      exact ⟨ret_eq (congrArg Value.string HSt.out), HB2.out⟩
/-- The document's num is Itoa. -/
theorem RefNumZ_any (z : Int) (w : World) (h : i64P z) : Calls Tryz.prog 85 #[.int .i64 z] w fun e w' => e = .returned (.string (itoaB z)) ∧ Below w.heap.size w w' := by
  unfold i64P at h
  by_cases hn : z < 0
  · obtain ⟨u, rfl⟩ : ∃ u : Nat, z = -(u : Int) := ⟨z.natAbs, by omega⟩
    exact RefNumNeg_any u w (by omega) (by omega)
  · obtain ⟨u, rfl⟩ : ∃ u : Nat, z = (u : Int) := ⟨z.toNat, by omega⟩
    have H1 := Lib.hid (RefNum_any u w (by omega))
    have hu0 : (0 : Int) ≤ (u : Int) := by omega
    clear h
    go_enter Tryz.func85, Tryz.ntmps85
    go_wp2_with (go_at_call 40; refine H1.out.mono ?_; clear H1; rintro e w1 ⟨rfl, hb⟩; have HB1 := Lib.hid hb; clear hb)
    go_ret
    exact ⟨ret_eq (congrArg Value.string (decB_itoa u).symm), HB1.out⟩
end Go.Proofs.YtddedghnnkcnhaaGreatDoor
/-
  The document's words for programs of tests: takes, Fault, Right, Of, Text.
-/
namespace Go.Proofs.YtddedghnnkcnhaaGreatDoor
open Go.RowKit Go.Proofs.YtddedghnnkcnhaaGreatDoor.Pg
attribute [local go_sem ↓] Go.wp_at_zero Go.wp_at_succ
set_option maxRecDepth 100000
set_option linter.unusedVariables false

theorem RefTakes_any (k : Int) (w : World) : Calls Tryz.prog 144 #[.int .i64 k] w fun e w' => e = .returned (.bool (takesZ k)) ∧ w = w' := by
  have HT := Lib.hid (show (k != 1 && k != 6 && k != 8) = takesZ k from by
    unfold takesZ
    by_cases h1 : k = 1
    · subst h1; rfl
    by_cases h6 : k = 6
    · subst h6; rfl
    by_cases h8 : k = 8
    · subst h8; rfl
    simp [h1, h6, h8])
  go_enter Tryz.func144, Tryz.ntmps144
  go_wp2
  all_goals (
    go_ret
    first
      | exact ⟨ret_bool HT.out, rfl⟩
      | (have e1 : (k == 1) = false := by simpa using (by assumption : ¬ k = 1)
         exact ⟨ret_bool (by rw [← HT.out]; simp [*]), rfl⟩)
      | exact ⟨ret_bool (by rw [← HT.out]; simp [*]), rfl⟩)
def faultZ (o : Int × Int) : Int :=
  if ¬ (1 ≤ o.1 ∧ o.1 ≤ 8) then 1 else if o.2 < 0 ∨ 255 < o.2 ∨ (takesZ o.1 = false ∧ o.2 ≠ 0) then 3 else 0
theorem faultZ_ok {o : Int × Int} : faultZ o = 0 ↔ opOK o := by
  unfold faultZ opOK
  constructor
  · intro h
    split at h
    · cases h
    · rename_i h1
      split at h
      · cases h
      · rename_i h2
        refine ⟨by omega, by omega, fun ht => ?_⟩
        have := mt (fun h => Or.inr (Or.inr h)) h2
        by_cases h0 : o.2 = 0
        · exact h0
        · exact absurd ⟨ht, h0⟩ this
  · rintro ⟨h1, h2, h3⟩
    rw [if_neg (by omega), if_neg]
    rintro (h | h | ⟨h, h'⟩)
    · omega
    · omega
    · exact h' (h3 h)
set_option maxHeartbeats 4000000 in
theorem RefFault_any (k n : Int) (w : World) : Calls Tryz.prog 141 #[.agg #[.int .i64 k, .int .i64 n]] w fun e w' => e = .returned (.int .i64 (faultZ (k, n))) ∧ Below w.heap.size w w' := by
  have HB := Lib.hid (bel_al (Below.refl w.heap.size w) (.cells #[.int .i64 k, .int .i64 n] 193))
  have HTk := Lib.hid (fun W => RefTakes_any k W)
  by_cases h1 : k < 1
  · have HF := Lib.hid (show (1 : Int) = faultZ (k, n) from by unfold faultZ; rw [if_pos (by simp only; omega)])
    go_enter Tryz.func141, Tryz.ntmps141
    go_wp2_with go_in
    go_ret
    exact ⟨ret_int HF.out, HB.out⟩
  by_cases h8 : 8 < k
  · have HF := Lib.hid (show (1 : Int) = faultZ (k, n) from by unfold faultZ; rw [if_pos (by simp only; omega)])
    go_enter Tryz.func141, Tryz.ntmps141
    go_wp2_with go_in
    go_ret
    exact ⟨ret_int HF.out, HB.out⟩
  by_cases h0 : n < 0
  · have HF := Lib.hid (show (3 : Int) = faultZ (k, n) from by unfold faultZ; rw [if_neg (by simp only; omega), if_pos (.inl h0)])
    go_enter Tryz.func141, Tryz.ntmps141
    go_wp2_with go_in
    go_ret
    exact ⟨ret_int HF.out, HB.out⟩
  by_cases h9 : 255 < n
  · have HF := Lib.hid (show (3 : Int) = faultZ (k, n) from by unfold faultZ; rw [if_neg (by simp only; omega), if_pos (.inr (.inl h9))])
    go_enter Tryz.func141, Tryz.ntmps141
    go_wp2_with go_in
    go_ret
    exact ⟨ret_int HF.out, HB.out⟩
  cases ht : takesZ k with
  | true =>
    rw [ht] at HTk
    have HF := Lib.hid (show (0 : Int) = faultZ (k, n) from by unfold faultZ; rw [if_neg (by simp only; omega), if_neg]; rintro (h | h | ⟨h, _⟩) <;> simp only at h; omega; omega; rw [ht] at h; cases h)
    clear ht
    go_enter Tryz.func141, Tryz.ntmps141
    go_wp2_with (first | (go_at_call 144; refine (HTk.out _).mono ?_; rintro e w3 ⟨rfl, rfl⟩) | go_in)
    go_ret
    exact ⟨ret_int HF.out, HB.out⟩
  | false =>
    rw [ht] at HTk
    by_cases hn : n = 0
    · subst hn
      have HF := Lib.hid (show (0 : Int) = faultZ (k, 0) from by unfold faultZ; rw [if_neg (by simp only; omega), if_neg]; rintro (h | h | ⟨_, h⟩) <;> simp at h)
      clear ht
      go_enter Tryz.func141, Tryz.ntmps141
      go_wp2_with (first | (go_at_call 144; refine (HTk.out _).mono ?_; rintro e w3 ⟨rfl, rfl⟩) | go_in)
      go_ret
      exact ⟨ret_int HF.out, HB.out⟩
    · have HF := Lib.hid (show (3 : Int) = faultZ (k, n) from by unfold faultZ; rw [if_neg (by simp only; omega), if_pos (.inr (.inr ⟨ht, hn⟩))])
      have e0 : (n == 0) = false := by simpa using hn
      clear ht hn
      go_enter Tryz.func141, Tryz.ntmps141
      go_wp2_with (first | (go_at_call 144; refine (HTk.out _).mono ?_; rintro e w3 ⟨rfl, rfl⟩) | go_in)
      go_ret
      exact ⟨ret_int HF.out, HB.out⟩
def Right17Res (p : List (Int × Int)) (w : World) (e : Ending) (w' : World) : Prop :=
  ∃ (cc a : Int), e = .returned (.tuple #[.int .i64 cc, .int .i64 a]) ∧ (cc = 0 ↔ rightG p) ∧ Below w.heap.size w w'
set_option maxHeartbeats 4000000 in
theorem RefRight17_any (p : List (Int × Int)) (A : Option Addr) (n c : Nat) (w : World) (hn : n ≤ 1000000) (hs : Sl w 2 A n (Rk.cells p)) :
    Calls Tryz.prog 67 #[.slice A n c] w (Right17Res p w) := by
  have HS := Lib.hid hs
  have HM := Lib.hid hs.len2
  clear hs
  go_enter Tryz.func67, Tryz.ntmps67
  by_cases h16 : 16 < n
  · have h16' : (16 : Int) < (n : Int) := by omega
    go_wp2_with fail
    go_ret2
    exact ⟨6, 0, rfl, ⟨fun h => by omega, fun h => by have := h.1; rw [HM.out] at this; omega⟩, Below.refl _ _⟩
  · have h16' : ¬ (16 : Int) < (n : Int) := by omega
    go_wp2_with fail
    go_loopw [4] (fun iv wr => ∃ k : Nat, k ≤ n ∧ iv = .int .i64 (k : Int) ∧ Hid (∀ o ∈ p.take k, opOK o) ∧ Hid (Below w.heap.size w wr)) (fun iv _ => n - (intOf iv).toNat)
    case atStart => exact ⟨0, Nat.zero_le _, rfl, Lib.hid (fun o ho => by simp at ho), Lib.hid (Below.refl _ _)⟩
    case round =>
      obtain ⟨k, hk, rfl, HD, HB⟩ := hrel
      by_cases hlt : k < n
      · have hlt' : (k : Int) < (n : Int) := by omega
        have hk0 : (0 : Int) ≤ (k : Int) := by omega
        obtain ⟨⟨x, y⟩, he⟩ : ∃ e, p[k]? = some e := ⟨_, List.getElem?_eq_getElem (by rw [HM.out]; exact hlt)⟩
        obtain ⟨b1, off1, rfl, c0, c1⟩ := (HS.out.keep HB.out).edge hlt he
        simp only at c0 c1
        have HE := Lib.hid he
        have HF1 := Lib.hid (RefFault_any x y wr)
        have HF2 := Lib.hid (fun W => RefFault_any x y W)
        have HOk := Lib.hid (faultZ_ok (o := (x, y)))
        obtain ⟨f, hf⟩ : ∃ f, f = faultZ (x, y) := ⟨_, rfl⟩
        rw [← hf] at HF1 HF2 HOk
        have HSl := Lib.hid ((HS.out.keep HB.out))
        clear he hf
        by_cases hf0 : f = 0
        · subst hf0
          have HN := Lib.hid (show ∀ o ∈ p.take (k + 1), opOK o from fun o ho => by
            obtain ⟨h3, h4⟩ := List.getElem?_eq_some_iff.1 HE.out
            rw [List.take_succ_eq_append_getElem h3, h4] at ho
            rcases List.mem_append.1 ho with h | h
            · exact HD.out o h
            · rw [List.mem_singleton.1 h]; exact HOk.out.1 rfl)
          go_wp2_with (go_at_call 141; refine HF1.out.mono ?_; clear HF1; rintro e w2 ⟨rfl, hb2⟩; have HB2 := Lib.hid (HB.out.andThen hb2); clear hb2)
          go_roundw
          case rel => exact ⟨k + 1, by omega, by go_num, HN, HB2⟩
          case measure => simp [intOf]; omega
        · have hf0' : (f == 0) = false := by simpa using hf0
          have HNo := Lib.hid (show f = 0 ↔ rightG p from ⟨fun h => absurd h hf0, fun h => HOk.out.2 (h.2 _ (List.mem_of_getElem? HE.out))⟩)
          go_wp2_with (first
            | (go_at_call 141; refine HF1.out.mono ?_; clear HF1; rintro e w2 ⟨rfl, hb2⟩; have HB2 := Lib.hid (HB.out.andThen hb2); obtain ⟨b9, off9, h9, d0, d1⟩ := (HSl.out.keep hb2).edge hlt HE.out; cases h9; simp only at d0 d1; clear hb2)
            | (go_at_call 141; refine (HF2.out _).mono ?_; clear HF2; rintro e w3 ⟨rfl, hb3⟩; have HB3 := Lib.hid (HB2.out.andThen hb3); clear hb3))
          go_ret2
          exact ⟨f, _, rfl, HNo.out, HB3.out⟩
      · obtain rfl : k = n := by omega
        have hlt' : ¬ (k : Int) < (k : Int) := by omega
        rw [List.take_of_length_le (by rw [HM.out]; exact Nat.le_refl _)] at HD
        go_wp2_with fail
        go_ret2
        exact ⟨0, 0, rfl, ⟨fun _ => ⟨by rw [HM.out]; omega, HD.out⟩, fun _ => rfl⟩, HB.out⟩
set_option maxHeartbeats 4000000 in
theorem Of17_any (p : List (Int × Int)) (A : Option Addr) (n c : Nat) (w : World) (hn : n ≤ 100000) (hs : Sl w 2 A n (Rk.cells p)) :
    Calls Tryz.prog 68 #[.slice A n c] w fun e w' => ∃ (D : Option Addr) (d : Nat), e = .returned (.slice D n d) ∧ w'.ownsRow w.heap.size 94 2 (.slice D n d) n (Rk.cells p) ∧ Below w.heap.size w w' := by
  have HS := Lib.hid hs
  have HM := Lib.hid hs.len2
  clear hs
  go_enter Tryz.func68, Tryz.ntmps68
  go_wp2_with fail
  go_loopw [3, 4] (fun ov iv wr => ∃ k : Nat, k ≤ n ∧ iv = .int .i64 (k : Int) ∧ Hid (wr.ownsRow w.heap.size 94 2 ov k (Rk.cells (p.take k))) ∧ Hid (Below w.heap.size w wr)) (fun _ iv _ => n - (intOf iv).toNat)
  case atStart => exact ⟨0, Nat.zero_le _, rfl, Lib.hid (World.ownsRow_nil _ _ _ _), Lib.hid (Below.refl _ _)⟩
  case round =>
    obtain ⟨k, hk, rfl, HO, HB⟩ := hrel
    by_cases hlt : k < n
    · have hlt' : (k : Int) < (n : Int) := by omega
      have hk0 : (0 : Int) ≤ (k : Int) := by omega
      obtain ⟨⟨x, y⟩, he⟩ : ∃ e, p[k]? = some e := ⟨_, List.getElem?_eq_getElem (by rw [HM.out]; exact hlt)⟩
      obtain ⟨b1, off1, rfl, c0, c1⟩ := (HS.out.keep HB.out).edge hlt he
      simp only at c0 c1
      have HE := Lib.hid (show p.take (k + 1) = p.take k ++ [(x, y)] from by
        obtain ⟨h3, h4⟩ := List.getElem?_eq_some_iff.1 he
        rw [List.take_succ_eq_append_getElem h3, h4])
      clear he
      go_wp2_with (at_builtin; refine wpList_push elemOp (w0 := w) _ _ rfl rfl HO.out HB.out (Nat.le_refl _) rfl rfl rfl (by simp [Value.oneCell']) (by unfold lim; omega) (by unfold lim; omega) ?_; intro v4 w4 hown4 hb4; have HO4 := Lib.hid hown4; have HB4 := Lib.hid hb4; clear hown4 hb4)
      go_roundw
      case rel => exact ⟨k + 1, by omega, by go_num, Lib.hid (by rw [HE.out, Rk.cells_snoc]; exact HO4.out), HB4⟩
      case measure => simp [intOf]; omega
    · obtain rfl : k = n := by omega
      have hlt' : ¬ (k : Int) < (k : Int) := by omega
      rw [List.take_of_length_le (by rw [HM.out]; exact Nat.le_refl _)] at HO
      obtain ⟨D, dc, rfl, hsl⟩ := Sl.own HO.out
      clear hsl
      go_wp2_with fail
      go_ret
      exact ⟨D, dc, rfl, HO.out, HB.out⟩
end Go.Proofs.YtddedghnnkcnhaaGreatDoor
