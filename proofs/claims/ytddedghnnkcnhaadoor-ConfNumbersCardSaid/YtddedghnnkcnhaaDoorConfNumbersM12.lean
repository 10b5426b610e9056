/-
  Part 12 of the proof of ConfNumbers: CfH, CfJ, ConfNumbers.
-/
import Derived.BigQuiet
import Derived.Test.YtddedghnnkcnhaaDoorConfNumbersM11
import Derived.Test.YtddedghnnkcnhaaDoorConfNumbersM3
/-
  Chapter 22's statements: alive.
-/
namespace Go.Proofs.YtddedghnnkcnhaaDoor
open Go.RowKit Go.Proofs.YtddedghnnkcnhaaDoor.Pg
attribute [local go_sem ↓] Go.wp_at_zero Go.wp_at_succ
set_option maxRecDepth 100000
set_option linter.unusedVariables false

theorem Parse_x22 (w : World) (hT : TabW w) (hL : LibW w) : Calls Tryd.prog 5 #[.string ⟨#[106, 111, 98, 32, 109, 111, 116, 105, 102, 115, 10, 115, 105, 122, 101, 32, 51, 10]⟩] w fun e w' => ∃ (A : Option Addr) (d : Nat), e = .returned (.tuple #[.agg #[.int .i64 1, .int .i64 3, .int .i64 0, .int .i64 1, .int .i64 1000000, .slice A 0 d], .nilIface]) ∧ Below w.heap.size w w' :=
  (CfParse_any Cf.exT w (by decide) hL hT).mono fun e w' h => by
    obtain ⟨hb, ⟨c, A, n, d, hp, he, hn, _⟩ | ⟨k, wd, g, hp, _⟩⟩ := h
    · rw [Cf.ex_ok] at hp
      injection hp with hp
      subst hp
      obtain rfl : n = 0 := hn.symm
      exact ⟨A, d, he, hb⟩
    · rw [Cf.ex_ok] at hp
      cases hp
theorem Parse_y22 (w : World) (hT : TabW w) (hL : LibW w) : Calls Tryd.prog 5 #[.string ⟨#[115, 105, 122, 101, 32, 51, 10, 106, 111, 98, 32, 109, 111, 116, 105, 102, 115, 10]⟩] w fun e w' => ∃ g S, e = .returned (.tuple #[conf0, .iface 43 (.pointer (some ⟨g, 0, none⟩))]) ∧ Blk w' g 46 #[.int .i64 12, .int .i64 0, .string S] ∧ Below w.heap.size w w' :=
  (CfParse_any Cf.exB w (by decide) hL hT).mono fun e w' h => by
    obtain ⟨hb, ⟨c, A, n, d, hp, he, hn, _⟩ | ⟨k, wd, g, hp, he, hv⟩⟩ := h
    · rw [Cf.ex_bad] at hp
      cases hp
    · rw [Cf.ex_bad] at hp
      injection hp with h1 h2
      subst h1
      exact ⟨g, _, he, hv, hb⟩
set_option maxHeartbeats 1000000 in
theorem alive22 (w : World) (hg : ErrT w) (hT : TabW w) (hL : LibW w) : Calls Tryd.prog 4 #[] w fun e w' => e = .returned (.bool true) ∧ Below w.heap.size w w' := by
  have HP1 := Lib.hid (Parse_x22 w hT hL)
  have HP2 := Lib.hid (fun W (hW : Below w.heap.size w W) => Parse_y22 W (hT.keep hW) (hL.keep hW))
  have HG := Lib.hid hg
  clear hg hT hL
  go_enter Tryd.func4, Tryd.ntmps4
  go_upto_region 2 with (go_at_call 5; refine HP1.out.mono ?_; clear HP1; rintro e w1 ⟨A, d, rfl, hb1⟩; have HB1 := Lib.hid hb1; clear hb1)
  obtain ⟨wa, hwa⟩ : ∃ W, W = w1.alloc (.cells #[.int .i64 1, .int .i64 3, .int .i64 0, .int .i64 1, .int .i64 1000000, .slice A 0 d] 29) := ⟨_, rfl⟩
  have HBa := Lib.hid (show Below w.heap.size w wa from by rw [hwa]; exact bel_al HB1.out _)
  have HKa := Lib.hid (show Blk wa w1.heap.size 29 #[.int .i64 1, .int .i64 3, .int .i64 0, .int .i64 1, .int .i64 1000000, .slice A 0 d] from by rw [hwa]; exact Blk.new _ _ _)
  rw [← hwa]
  clear hwa
  go_upto_region 3 with (go_at_call 5; refine (HP2.out wa HBa.out).mono ?_; clear HP2; rintro e w2 ⟨g, S, rfl, hv, hb2⟩; have HB2 := Lib.hid (HBa.out.andThen hb2); have HV2 := Lib.hid hv; have HK2 := Lib.hid (HKa.out.keep hb2); clear hb2 hv)
  obtain ⟨wb, hwb⟩ : ∃ W, W = w2.alloc (.cells #[.int .i64 0, .int .i64 0, .int .i64 0, .int .i64 0, .int .i64 0, .slice none 0 0] 29) := ⟨_, rfl⟩
  have HBb := Lib.hid (show Below w.heap.size w wb from by rw [hwb]; exact bel_al HB2.out _)
  have HKb := Lib.hid (show Blk wb w1.heap.size 29 #[.int .i64 1, .int .i64 3, .int .i64 0, .int .i64 1, .int .i64 1000000, .slice A 0 d] from by rw [hwb]; exact HK2.out.alloc _)
  have HVb := Lib.hid (show Blk wb g 46 #[.int .i64 12, .int .i64 0, .string S] from by rw [hwb]; exact HV2.out.alloc _)
  rw [← hwb]
  clear hwb HKa HK2 HV2
  have k0 := HKb.out.cell 0
  have k1 := HKb.out.cell 1
  have k3 := HKb.out.cell 3
  simp at k0 k1 k3
  have HC := Lib.hid (Code_flt g 12 0 S wb (HG.out.keep HBb.out) HVb.out)
  have HA := Lib.hid (fun W (hW : Below wb.heap.size wb W) => At_flt g 12 0 S W (HG.out.keep (HBb.out.andThen hW)) (HVb.out.keep hW))
  go_wp2_with (first
    | (go_at_call 6; refine HC.out.mono ?_; clear HC; rintro e w3 ⟨rfl, hb3⟩; have HB3 := Lib.hid hb3; clear hb3)
    | (go_at_call 7; refine (HA.out _ HB3.out).mono ?_; clear HA; rintro e w4 ⟨rfl, hb4⟩; have HB4 := Lib.hid (HBb.out.andThen (HB3.out.andThen hb4)); clear hb4))
  go_ret
  exact ⟨rfl, HB4.out⟩
end Go.Proofs.YtddedghnnkcnhaaDoor
/-
  Strings: indexed, cut; what is parsed, in one shape.
-/


namespace Go.Proofs.YtddedghnnkcnhaaDoor
open Go.RowKit Go.Proofs.YtddedghnnkcnhaaDoor.Pg
attribute [local go_sem ↓] Go.wp_at_zero Go.wp_at_succ
set_option maxRecDepth 100000
set_option linter.unusedVariables false

/-- What is parsed, in one shape. -/
def ParseOut (l : List UInt8) (c : Cf.CF) (A : Option Addr) (n d : Nat) (v : Value) (w' : World) : Prop :=
  (v = .nilIface ∧ Cf.parseC l = .ok c ∧ c.keep.length = n ∧ Sl w' 2 A n (Rk.cells c.keep)) ∨
    (c.kind = 0 ∧ ∃ k wd g, v = .iface 43 (.pointer (some ⟨g, 0, none⟩)) ∧ Cf.parseC l = .bad k wd ∧ Blk w' g 46 #[.int .i64 12, .int .i64 (k : Int), .string (bz wd)])
theorem Parse_out (l : List UInt8) (w : World) (hs : l.length ≤ 262144) (hL : LibW w) (hT : TabW w) :
    Calls Tryd.prog 5 #[.string (bz l)] w fun e w' => ∃ c A n d v, e = .returned (.tuple #[confV c A n d, v]) ∧ Below w.heap.size w w' ∧ ParseOut l c A n d v w' :=
  (CfParse_any l w hs hL hT).mono fun e w' h => by
    obtain ⟨hb, ⟨c, A, n, d, hp, he, hn, hs⟩ | ⟨k, wd, g, hp, he, hv⟩⟩ := h
    · exact ⟨c, A, n, d, _, he, hb, .inl ⟨rfl, hp, hn, hs⟩⟩
    · exact ⟨⟨0, 0, 0, 0, 0, []⟩, none, 0, 0, _, he, hb, .inr ⟨rfl, k, wd, g, rfl, hp, hv⟩⟩
theorem str_index {S : ByteArray} {l : List UInt8} (hS : S = bz l) {k : Nat} {b : UInt8} (hb : l[k]? = some b) : ∀ W, (Instr.index 9 (.string S) (.int .i64 (k : Int))).run Tryd.prog W = .ok (.int .u8 (b.toNat : Int)) W := fun W => by
  obtain ⟨h1, h2⟩ := List.getElem?_eq_some_iff.1 hb
  have hz : S.size = l.length := by rw [hS, bz_size]
  rw [run_index_string W 9 S .i64 (k : Int) Tryd.underlying9, dif_pos ⟨by omega, by omega⟩]
  subst hS
  congr 1
  congr 1
  congr 1
  congr 1
theorem str_to {S : ByteArray} {l : List UInt8} (hS : S = bz l) {k : Nat} (hk : k ≤ l.length) : ∀ W, (Instr.slice 9 (.string S) none (some (.int .i64 (k : Int))) none).run Tryd.prog W = .ok (.string (bz (l.take k))) W := fun W => by
  have hz : S.size = l.length := by rw [hS, bz_size]
  rw [run_slice_string_to_if W 9 S .i64 (k : Int) Tryd.underlying9, if_pos ⟨by omega, by omega⟩]
  congr 2
  apply ByteArray.ext
  subst hS
  rw [ByteArray.data_extract]
  simp
theorem ten_beq (b : UInt8) : (((b.toNat : Nat) : Int) == 10) = decide (b = 10) := by
  by_cases h : b = 10
  · subst h; rfl
  · rw [decide_eq_false h]
    simp only [beq_eq_false_iff_ne, ne_eq]
    intro h2
    exact h (UInt8.toNat_inj.1 (by show b.toNat = 10; omega))
theorem count_take {l : List UInt8} {k : Nat} {b : UInt8} (hb : l[k]? = some b) : (l.take (k + 1)).count 10 = (l.take k).count 10 + (if b = 10 then 1 else 0) := by
  obtain ⟨h1, h2⟩ := List.getElem?_eq_some_iff.1 hb
  rw [List.take_succ_eq_append_getElem h1, h2, List.count_append]
  by_cases h : b = 10
  · subst h; rfl
  · rw [if_neg h, List.count_cons_of_ne h]; rfl
end Go.Proofs.YtddedghnnkcnhaaDoor
/-
  ConfNumbers: the walk.
-/
namespace Go.Proofs.YtddedghnnkcnhaaDoor
open Go.RowKit Go.Proofs.YtddedghnnkcnhaaDoor.Pg Go.Proofs.YtddedghnnkcnhaaDoor.Tx
attribute [local go_sem ↓] Go.wp_at_zero Go.wp_at_succ
set_option maxRecDepth 100000
set_option linter.unusedVariables false

namespace Cf
/-- The digits ahead of those that are told already. -/
def dD (r : Nat) : List UInt8 := if r = 0 then [] else Lib.decDigits r
theorem dD_step {r : Nat} (h : 0 < r) : dD r = dD (r / 10) ++ [UInt8.ofNat (48 + r % 10)] := by
  unfold dD
  rw [if_neg (by omega)]
  by_cases h9 : r < 10
  · rw [if_pos (by omega), Lib.decDigits, dif_pos h9, Nat.mod_eq_of_lt h9]
    rfl
  · rw [if_neg (by omega)]
    conv => lhs; rw [Lib.decDigits, dif_neg h9]
theorem dD_all (r : Nat) : Lib.decDigits r = if dD r = [] then [48] else dD r := by
  unfold dD
  by_cases h : r = 0
  · subst h
    rw [if_pos rfl, if_pos rfl, Lib.decDigits, dif_pos (by omega)]
    rfl
  · rw [if_neg h, if_neg]
    intro h2
    rw [Lib.decDigits] at h2
    split at h2 <;> simp at h2
theorem dD_len (r : Nat) (h : r ≤ 9223372036854775807) : (dD r).length ≤ 21 := by
  unfold dD
  split
  · exact Nat.zero_le _
  · have := Lib.itoa_length_le (r : Int) (by omega) (by omega)
    rw [itoa_nat] at this
    omega
theorem sgn_len {n : Int} (h : -9223372036854775808 ≤ n ∧ n ≤ 9223372036854775807) : (sgnL n).length ≤ 21 := by
  unfold sgnL
  split
  · decide
  · have := Lib.itoa_length_le n (by omega) (by omega)
    omega
/-- The statement's text. -/
theorem text_K (k : Nat) (n : Int) : tellL (linesK k n) = (((([106, 111, 98, 32, 102, 115, 109, 10] ++ wordK k) ++ [32]) ++ sgnL n) ++ [10]) ++ (if k = 0 then [] else [115, 105, 122, 101, 32, 49, 10]) ++ (if k = 1 then [] else [115, 117, 112, 112, 111, 114, 116, 32, 49, 10]) := by
  unfold linesK
  rw [tell_app, tell_app]
  have e1 : tellL [lineW wJob (jobL 3), lineW (wordK k) (sgnL n)] = ((([106, 111, 98, 32, 102, 115, 109, 10] ++ wordK k) ++ [32]) ++ sgnL n) ++ [10] := by
    show tellL ([lineW wJob (jobL 3)] ++ [lineW (wordK k) (sgnL n)]) = _
    rw [tell_app, tell_one, tell_one]
    have : lineW wJob (jobL 3) ++ [10] = [106, 111, 98, 32, 102, 115, 109, 10] := by decide
    rw [this]
    unfold lineW
    simp
  have e2 : tellL (if k = 0 then [] else [lineW wSize [49]]) = if k = 0 then [] else [115, 105, 122, 101, 32, 49, 10] := by
    split
    · rfl
    · decide
  have e3 : tellL (if k = 1 then [] else [lineW wSupport [49]]) = if k = 1 then [] else [115, 117, 112, 112, 111, 114, 116, 32, 49, 10] := by
    split
    · rfl
    · decide
  rw [e1, e2, e3]
end Cf
def wordsB : List ByteArray := [bz Cf.wSize, bz Cf.wSupport, bz Cf.wWorkers, bz Cf.wCap]
theorem conv_dig (w : World) (u : Nat) (h : u < 10) : (convert 25 9 (.slice (some ⟨w.heap.size, 0, none⟩) 1 1)).run Tryd.prog (w.alloc (.cells #[.int .u8 (48 + (u : Int))] 5)) = .ok (.string (bz [UInt8.ofNat (48 + u)])) (w.alloc (.cells #[.int .u8 (48 + (u : Int))] 5)) := by
  have := run_convert_bytes_arg (P := Tryd.prog) (w.alloc (.cells #[.int .u8 (48 + (u : Int))] 5)) 25 5 Tryd.underlying25 Tryd.underlying5 w.heap.size 0 1 1 [48 + (u : Int)] rfl (fun i hi => by
    obtain rfl : i = 0 := by omega
    simp) 9 Tryd.underlying9
  rw [this]
  unfold strOfNums
  simp only [List.map_cons, List.map_nil]
  rw [show (48 + (u : Int)).toNat = 48 + u from by omega]
theorem add_bz (l m : List UInt8) (W : World) (h : l.length + m.length ≤ 100000) : (Op.stringOp .add (bz l) (bz m)).run Tryd.prog W = .ok (.string (bz (l ++ m))) W := by
  rw [run_string_add_sum W _ _ (by rw [bz_size, bz_size]; omega), bz_app]
set_option maxHeartbeats 1000000 in
theorem ConfNumbers_walk (n : Int) (k0 : Nat) (w : World) (hg : ErrT w) (hT : TabW w) (hL : LibW w) (hn : i64P n) (hk0 : k0 < 256) :
    Calls Tryd.prog 3 #[.int .i64 n, .int .u8 (k0 : Int)] w fun e w' => e = .returned (.bool true) ∧ Below w.heap.size w w' := by
  have HAl := Lib.hid (alive22 w hg hT hL)
  have HG := Lib.hid hg
  have HT := Lib.hid hT
  have HL := Lib.hid hL
  clear hg hT hL
  obtain ⟨k, hk⟩ : ∃ k, k = k0 % 4 := ⟨_, rfl⟩
  have hk00 : (0 : Int) ≤ (k0 : Int) := by omega
  have hkm : (k0 : Int) % 4 = (k : Int) := by omega
  have hk4 : k < 4 := by omega
  clear hk
  obtain ⟨M, hM⟩ : ∃ M, M = n.toNat := ⟨_, rfl⟩
  have HM := Lib.hid (show (n < 0 ∧ M = 0) ∨ (0 ≤ n ∧ n = (M : Int)) from by omega)
  have HM9 := Lib.hid (show M ≤ 9223372036854775807 from by have := hn.2; omega)
  have HN := Lib.hid hn
  clear hn hM
  go_enter Tryd.func3, Tryd.ntmps3
  go_upto_region 3 with (go_at_call 4; refine HAl.out.mono ?_; clear HAl; rintro e w1 ⟨rfl, hb1⟩; have HB1 := Lib.hid hb1; clear hb1)
  obtain ⟨wa, hwa⟩ : ∃ W, W = (w1.alloc (.cells #[.string ⟨#[115, 105, 122, 101]⟩, .string ⟨#[115, 117, 112, 112, 111, 114, 116]⟩, .string ⟨#[119, 111, 114, 107, 101, 114, 115]⟩, .string ⟨#[99, 97, 112]⟩] 9)).alloc (.cells #[.int .i64 8, .int .i64 1000000, .int .i64 64, .int .i64 1000000] 2) := ⟨_, rfl⟩
  go_upto_if 23 with (fail)
  rw [← hwa]
  have HBa := Lib.hid (show Below w.heap.size w wa from by rw [hwa]; exact bel_al (bel_al HB1.out _) _)
  have HWd := Lib.hid (show ∀ j, wa.cell? ⟨w1.heap.size, j, none⟩ = (#[.string ⟨#[115, 105, 122, 101]⟩, .string ⟨#[115, 117, 112, 112, 111, 114, 116]⟩, .string ⟨#[119, 111, 114, 107, 101, 114, 115]⟩, .string ⟨#[99, 97, 112]⟩] : Array Value)[j]? from fun j => by rw [hwa]; exact ((Blk.new w1 9 _).alloc _).cell j)
  have HMo := Lib.hid (show ∀ j, wa.cell? ⟨w1.heap.size + 1, j, none⟩ = (#[.int .i64 8, .int .i64 1000000, .int .i64 64, .int .i64 1000000] : Array Value)[j]? from fun j => by
    rw [hwa]
    have := (Blk.new (w1.alloc (.cells #[.string ⟨#[115, 105, 122, 101]⟩, .string ⟨#[115, 117, 112, 112, 111, 114, 116]⟩, .string ⟨#[119, 111, 114, 107, 101, 114, 115]⟩, .string ⟨#[99, 97, 112]⟩] 9)) 2 #[.int .i64 8, .int .i64 1000000, .int .i64 64, .int .i64 1000000]).cell j
    rw [World.size_alloc] at this
    exact this)
  clear hwa
  go_cut [7, 9] from 14 to 100 (fun kv mv wx => kv = .int .i64 (k : Int) ∧ mv = .int .i64 (M : Int) ∧ wa = wx)
  case first =>
    rcases HM.out with ⟨h1, h2⟩ | ⟨h1, h2⟩
    · subst h2
      go_wp2_with fail
      go_meet
      exact ⟨rfl, rfl, rfl⟩
    · have h3 : ¬ n < 0 := by omega
      have H2 := Lib.hid h2
      clear h2
      go_wp2_with fail
      go_meet
      exact ⟨rfl, by rw [H2.out], rfl⟩
  case rest =>
  obtain ⟨rfl, rfl, rfl⟩ := hcut
  have HD9 := Lib.hid (Cf.dD_len M HM9.out)
  go_wp2_with fail
  go_loopw [8, 9] (fun sv mv wr => ∃ (r : Nat) (t : List UInt8) (S : ByteArray), mv = .int .i64 (r : Int) ∧ sv = .string S ∧ Hid (S = bz t) ∧ Hid (Cf.dD M = Cf.dD r ++ t) ∧ Hid (r ≤ M) ∧ Hid (Below wa.heap.size wa wr)) (fun _ mv _ => (intOf mv).toNat)
  case atStart => exact ⟨M, [], ⟨#[]⟩, rfl, rfl, Lib.hid rfl, Lib.hid (by rw [List.append_nil]), Lib.hid (Nat.le_refl _), Lib.hid (Below.refl _ _)⟩
  case round =>
    obtain ⟨r, t, S, rfl, rfl, HS, HDt, HrM, HB⟩ := hrel
    by_cases h0 : 0 < r
    · have h0' : (0 : Int) < (r : Int) := by omega
      have hr0 : (0 : Int) ≤ (r : Int) := by omega
      obtain ⟨u, hu⟩ : ∃ u, u = r % 10 := ⟨_, rfl⟩
      have hru : (r : Int) % 10 = (u : Int) := by omega
      have hu9 : u < 10 := by omega
      obtain ⟨q, hq⟩ : ∃ q, q = r / 10 := ⟨_, rfl⟩
      have hrq : (r : Int) / 10 = (q : Int) := by omega
      have hw1 : IntKind.i64.wrap (48 + (u : Int)) = 48 + (u : Int) := by rw [IntKind.wrap_i64]; omega
      have hw2 : IntKind.u8.wrap (48 + (u : Int)) = 48 + (u : Int) := by unfold IntKind.wrap; simp [IntKind.bits, IntKind.signed]; omega
      have hw3 : wrap64 (q : Int) = (q : Int) := by unfold wrap64; have := HrM.out; have := HM9.out; omega
      have hcv := conv_dig wr u hu9
      have HSt := Lib.hid (show Cf.dD M = Cf.dD q ++ ([UInt8.ofNat (48 + u)] ++ t) from by rw [HDt.out, Cf.dD_step h0, hq, hu, List.append_assoc])
      have ht21 : t.length ≤ 21 := by
        have h1 := HD9.out
        rw [HDt.out, List.length_append] at h1
        omega
      have hadd : ∀ W, (Op.stringOp .add (bz [UInt8.ofNat (48 + u)]) S).run Tryd.prog W = .ok (.string (bz ([UInt8.ofNat (48 + u)] ++ t))) W := fun W => by
        rw [HS.out]
        exact add_bz _ _ W (by simp only [List.length_cons, List.length_nil]; omega)
      obtain ⟨D1, hD1⟩ : ∃ D1, D1 = bz [UInt8.ofNat (48 + u)] := ⟨_, rfl⟩
      obtain ⟨S1, hS1⟩ : ∃ S1, S1 = bz ([UInt8.ofNat (48 + u)] ++ t) := ⟨_, rfl⟩
      rw [← hD1] at hcv hadd
      rw [← hS1] at hadd
      have HS1 := Lib.hid hS1
      have Hq := Lib.hid (show q < r ∧ q ≤ M from by have := HrM.out; omega)
      clear hD1 hS1 hq hu ht21
      go_wp2_with fail
      go_roundw
      case rel => exact ⟨q, [UInt8.ofNat (48 + u)] ++ t, S1, by rw [hw3], rfl, HS1, HSt, Lib.hid Hq.out.2, Lib.hid (bel_al HB.out _)⟩
      case measure =>
        rw [hw3]
        simpa [intOf] using Hq.out.1
    · obtain rfl : r = 0 := by omega
      have HSd := Lib.hid (show Cf.dD M = t from by rw [HDt.out]; unfold Cf.dD; rw [if_pos rfl]; rfl)
      have hse : S.toList.isEmpty = t.isEmpty := by rw [HS.out, bz_empty]
      go_upto_if 37 with (fail)
      go_cut [8] from 22 to 100 (fun sv wx => sv = .string (bz (Lib.decDigits M)) ∧ wr = wx)
      case first =>
        cases ht : t with
        | nil =>
          rw [ht] at hse
          simp only [List.isEmpty_nil] at hse
          have HZ := Lib.hid (show (⟨#[48]⟩ : ByteArray) = bz (Lib.decDigits M) from by rw [Cf.dD_all, HSd.out, ht, if_pos rfl])
          clear ht
          go_wp2_with fail
          go_meet
          exact ⟨by rw [HZ.out], rfl⟩
        | cons b t' =>
          rw [ht] at hse
          simp only [List.isEmpty_cons] at hse
          have HZ := Lib.hid (show S = bz (Lib.decDigits M) from by rw [Cf.dD_all, HSd.out, if_neg (by rw [ht]; simp), HS.out])
          clear ht
          go_wp2_with fail
          go_meet
          exact ⟨by rw [HZ.out], rfl⟩
      case rest =>
      obtain ⟨rfl, rfl⟩ := hcut
      clear hse
      have HSg := Lib.hid (show Cf.sgnL n = if n < 0 then [45] ++ Lib.decDigits M else Lib.decDigits M from by
        unfold Cf.sgnL
        rcases HM.out with ⟨h1, h2⟩ | ⟨h1, h2⟩
        · rw [if_pos h1, if_pos h1, h2, Cf.dD_all]
          rfl
        · rw [if_neg (by omega), if_neg (by omega), h2, itoa_nat])
      have hd22 : (Lib.decDigits M).length ≤ 22 := by
        rw [Cf.dD_all]
        split
        · decide
        · have := HD9.out; omega
      have hneg : ∀ W, (Op.stringOp .add ⟨#[45]⟩ (bz (Lib.decDigits M))).run Tryd.prog W = .ok (.string (bz ([45] ++ Lib.decDigits M))) W := fun W => add_bz [45] _ W (by simp only [List.length_cons, List.length_nil]; omega)
      obtain ⟨SD, hSD⟩ : ∃ S, S = bz (Lib.decDigits M) := ⟨_, rfl⟩
      obtain ⟨SN, hSN⟩ : ∃ S, S = bz ([45] ++ Lib.decDigits M) := ⟨_, rfl⟩
      obtain ⟨SG, hSG⟩ : ∃ S, S = bz (Cf.sgnL n) := ⟨_, rfl⟩
      have HSDN := Lib.hid (show (n < 0 → SN = SG) ∧ (¬ n < 0 → SD = SG) from ⟨fun h => by rw [hSN, hSG, HSg.out, if_pos h], fun h => by rw [hSD, hSG, HSg.out, if_neg h]⟩)
      have HSG := Lib.hid hSG
      rw [← hSD] at hneg ⊢
      rw [← hSN] at hneg
      clear hSD hSN hSG hd22
      go_upto_if 39 with (fail)
      go_cut [8] from 22 to 100 (fun sv wx => sv = .string SG ∧ wr = wx)
      case first =>
        by_cases h1 : n < 0
        · have HE := Lib.hid (HSDN.out.1 h1)
          go_wp2_with fail
          go_meet
          exact ⟨by rw [HE.out], rfl⟩
        · have HE := Lib.hid (HSDN.out.2 h1)
          clear hneg
          go_wp2_with fail
          go_meet
          exact ⟨by rw [HE.out], rfl⟩
      case rest =>
      obtain ⟨rfl, rfl⟩ := hcut
      clear hneg
      have HLm := Lib.hid (Cf.sgn_len HN.out)
      have HPn := Lib.hid (Cf.parse_numbers hk4 HN.out.2)
      have HTk := Lib.hid (Cf.text_K k n)
      obtain ⟨mo, hmo⟩ : ∃ m, m = Cf.mostK k := ⟨_, rfl⟩
      have hck : wr.cell? ⟨w1.heap.size, k, none⟩ = some (.string (bz (Cf.wordK k))) := by
        have h1 := HWd.out k
        have h2 : (#[.string ⟨#[115, 105, 122, 101]⟩, .string ⟨#[115, 117, 112, 112, 111, 114, 116]⟩, .string ⟨#[119, 111, 114, 107, 101, 114, 115]⟩, .string ⟨#[99, 97, 112]⟩] : Array Value)[k]? = some (.string (bz (Cf.wordK k))) := by
          rcases (show k = 0 ∨ k = 1 ∨ k = 2 ∨ k = 3 by omega) with rfl | rfl | rfl | rfl <;> rfl
        rw [h2] at h1
        exact (HB.out.cell (World.block_lt_of_cell? wa _ h1)).trans h1
      have HMk := Lib.hid (show ∀ W, Below wa.heap.size wa W → W.cell? ⟨w1.heap.size + 1, k, none⟩ = some (.int .i64 mo) from fun W hW => by
        have h1 := HMo.out k
        have h2 : (#[.int .i64 8, .int .i64 1000000, .int .i64 64, .int .i64 1000000] : Array Value)[k]? = some (.int .i64 mo) := by
          rw [hmo]
          rcases (show k = 0 ∨ k = 1 ∨ k = 2 ∨ k = 3 by omega) with rfl | rfl | rfl | rfl <;> rfl
        rw [h2] at h1
        exact (hW.cell (World.block_lt_of_cell? wa _ h1)).trans h1)
      have hwl : (Cf.wordK k).length ≤ 7 := by
        rcases (show k = 0 ∨ k = 1 ∨ k = 2 ∨ k = 3 by omega) with rfl | rfl | rfl | rfl <;> decide
      obtain ⟨WK, hWK⟩ : ∃ S, S = bz (Cf.wordK k) := ⟨_, rfl⟩
      obtain ⟨T1, hT1⟩ : ∃ S, S = bz ([106, 111, 98, 32, 102, 115, 109, 10] ++ Cf.wordK k) := ⟨_, rfl⟩
      obtain ⟨T2, hT2⟩ : ∃ S, S = bz (([106, 111, 98, 32, 102, 115, 109, 10] ++ Cf.wordK k) ++ [32]) := ⟨_, rfl⟩
      obtain ⟨T3, hT3⟩ : ∃ S, S = bz ((([106, 111, 98, 32, 102, 115, 109, 10] ++ Cf.wordK k) ++ [32]) ++ Cf.sgnL n) := ⟨_, rfl⟩
      obtain ⟨l4, hl4⟩ : ∃ l, l = ((([106, 111, 98, 32, 102, 115, 109, 10] ++ Cf.wordK k) ++ [32]) ++ Cf.sgnL n) ++ [10] := ⟨_, rfl⟩
      obtain ⟨T4, hT4⟩ : ∃ S, S = bz l4 := ⟨_, rfl⟩
      have hz4 : l4.length ≤ 100 := by
        rw [hl4]
        have := HLm.out
        simp only [List.length_append, List.length_cons, List.length_nil]
        omega
      have b1 : ∀ W, (Op.stringOp .add ⟨#[106, 111, 98, 32, 102, 115, 109, 10]⟩ WK).run Tryd.prog W = .ok (.string T1) W := fun W => by rw [hWK, hT1]; exact add_bz _ _ W (by simp only [List.length_cons, List.length_nil]; omega)
      have b2 : ∀ W, (Op.stringOp .add T1 ⟨#[32]⟩).run Tryd.prog W = .ok (.string T2) W := fun W => by rw [hT1, hT2]; exact add_bz _ [32] W (by simp only [List.length_append, List.length_cons, List.length_nil]; omega)
      have b3 : ∀ W, (Op.stringOp .add T2 SG).run Tryd.prog W = .ok (.string T3) W := fun W => by rw [hT2, HSG.out, hT3]; exact add_bz _ _ W (by have := HLm.out; simp only [List.length_append, List.length_cons, List.length_nil]; omega)
      have b4 : ∀ W, (Op.stringOp .add T3 ⟨#[10]⟩).run Tryd.prog W = .ok (.string T4) W := fun W => by rw [hT3, hT4, hl4]; exact add_bz _ [10] W (by have := HLm.out; simp only [List.length_append, List.length_cons, List.length_nil]; omega)
      obtain ⟨l5, hl5⟩ : ∃ l, l = l4 ++ (if k = 0 then [] else [115, 105, 122, 101, 32, 49, 10]) := ⟨_, rfl⟩
      obtain ⟨T5, hT5⟩ : ∃ S, S = bz l5 := ⟨_, rfl⟩
      obtain ⟨l6, hl6⟩ : ∃ l, l = l5 ++ (if k = 1 then [] else [115, 117, 112, 112, 111, 114, 116, 32, 49, 10]) := ⟨_, rfl⟩
      obtain ⟨T6, hT6⟩ : ∃ S, S = bz l6 := ⟨_, rfl⟩
      have hz5 : l5.length ≤ 110 := by
        rw [hl5, List.length_append]
        split <;> simp only [List.length_cons, List.length_nil] <;> omega
      have hz6 : l6.length ≤ 130 := by
        rw [hl6, List.length_append]
        split <;> simp only [List.length_cons, List.length_nil] <;> omega
      have HTX := Lib.hid (show l6 = Cf.tellL (Cf.linesK k n) from by rw [HTk.out, hl6, hl5, hl4])
      have HZ6 := Lib.hid hz6
      have HT6 := Lib.hid hT6
      have H45 := Lib.hid (show (k = 0 → T4 = T5) ∧ (k ≠ 0 → ∀ W, (Op.stringOp .add T4 ⟨#[115, 105, 122, 101, 32, 49, 10]⟩).run Tryd.prog W = .ok (.string T5) W) from ⟨fun h => by rw [hT4, hT5, hl5, if_pos h, List.append_nil], fun h W => by
        rw [hT4, hT5, hl5, if_neg h]
        exact add_bz _ [115, 105, 122, 101, 32, 49, 10] W (by simp only [List.length_cons, List.length_nil]; omega)⟩)
      have H56 := Lib.hid (show (k = 1 → T5 = T6) ∧ (k ≠ 1 → ∀ W, (Op.stringOp .add T5 ⟨#[115, 117, 112, 112, 111, 114, 116, 32, 49, 10]⟩).run Tryd.prog W = .ok (.string T6) W) from ⟨fun h => by rw [hT5, hT6, hl6, if_pos h, List.append_nil], fun h W => by
        rw [hT5, hT6, hl6, if_neg h]
        exact add_bz _ [115, 117, 112, 112, 111, 114, 116, 32, 49, 10] W (by simp only [List.length_cons, List.length_nil]; omega)⟩)
      have HMO := Lib.hid hmo
      have HBb := Lib.hid (HBa.out.andThen HB.out)
      rw [← hWK] at hck
      clear hWK hT1 hT2 hT3 hl4 hT4 hz4 hl5 hT5 hl6 hT6 hz5 hz6 hwl hmo
      have hk00' : (0 : Int) ≤ (k : Int) := by omega
      have hk44 : (k : Int) < 4 := by omega
      go_upto_if 52 with (fail)
      go_cut [10] from 38 to 100 (fun sv wx => sv = .string T5 ∧ wr = wx)
      case first =>
        by_cases h0 : k = 0
        · have HE := Lib.hid (H45.out.1 h0)
          subst h0
          clear b1 b2 b3 b4
          go_wp2_with fail
          go_meet
          exact ⟨by rw [HE.out], rfl⟩
        · have b5 := H45.out.2 h0
          have h1 : ((k : Int) == 0) = false := by simpa using h0
          have h2 : ((k : Int) != 0) = true := by simpa using h0
          clear h0 b1 b2 b3 b4
          go_wp2_with fail
          go_meet
          exact ⟨rfl, rfl⟩
      case rest =>
      obtain ⟨rfl, rfl⟩ := hcut
      clear b1 b2 b3 b4
      go_upto_if 56 with (fail)
      go_cut [10] from 38 to 100 (fun sv wx => sv = .string T6 ∧ wr = wx)
      case first =>
        by_cases h0 : k = 1
        · have HE := Lib.hid (H56.out.1 h0)
          subst h0
          go_wp2_with fail
          go_meet
          exact ⟨by rw [HE.out], rfl⟩
        · have b5 := H56.out.2 h0
          have h1 : ((k : Int) == 1) = false := by simp; omega
          have h2 : ((k : Int) != 1) = true := by simp; omega
          clear h0
          go_wp2_with fail
          go_meet
          exact ⟨rfl, rfl⟩
      case rest =>
      obtain ⟨rfl, rfl⟩ := hcut
      clear hck
      have HPa := Lib.hid (CfParse_any l6 wr (by have := HZ6.out; omega) (HL.out.keep HBb.out) (HT.out.keep HBb.out))
      rw [← HT6.out] at HPa
      by_cases hin : 1 ≤ n ∧ n ≤ mo
      · have HPa' := Lib.hid (show Calls Tryd.prog 5 #[.string T6] wr fun e w' => ∃ (c : Cf.CF) (A : Option Addr) (m d : Nat), e = .returned (.tuple #[confV c A m d, .nilIface]) ∧ Cf.fieldK k c = n ∧ Below wr.heap.size wr w' from HPa.out.mono fun e w' h => by
          obtain ⟨hb, hh⟩ := h
          rw [HMO.out] at hin
          obtain ⟨c', hc', hf⟩ := HPn.out.1 hin
          rw [HTX.out, hc'] at hh
          obtain ⟨c, A, m, d, hp, he, _⟩ | ⟨j, wd, g, hp, _⟩ := hh
          · injection hp with hp
            subst hp
            exact ⟨c', A, m, d, he, hf, hb⟩
          · cases hp)
        have h1 : ¬ n < 1 := by omega
        have h2 : ¬ mo < n := by omega
        have h3 : decide (n < 1) = false := decide_eq_false h1
        have h4 : decide (mo < n) = false := decide_eq_false h2
        clear hin HPa
        go_upto_region 23 with (go_at_call 5; refine HPa'.out.mono ?_; clear HPa'; rintro e w2 ⟨⟨c0, c1, c2, c3, c4, kp⟩, A, m, d, rfl, hf, hb2⟩; have HB2 := Lib.hid (HB.out.andThen hb2); have HF := Lib.hid hf; clear hb2 hf)
        have hmk := HMk.out _ (bel_al HB2.out (.cells #[.int .i64 c0, .int .i64 c1, .int .i64 c2, .int .i64 c3, .int .i64 c4, .slice A m d] 29))
        have hmk2 := HMk.out _ HB2.out
        have HBf := Lib.hid (bel_al (bel_al (HBa.out.andThen HB2.out) (.cells #[.int .i64 c0, .int .i64 c1, .int .i64 c2, .int .i64 c3, .int .i64 c4, .slice A m d] 29)) (.cells #[.int .i64 c1, .int .i64 c2, .int .i64 c3, .int .i64 c4] 3))
        rcases (show k = 0 ∨ k = 1 ∨ k = 2 ∨ k = 3 by omega) with rfl | rfl | rfl | rfl
        · obtain rfl : c1 = n := HF.out
          go_wp2_with fail
          go_ret
          exact ⟨rfl, HBf.out⟩
        · obtain rfl : c2 = n := HF.out
          go_wp2_with fail
          go_ret
          exact ⟨rfl, HBf.out⟩
        · obtain rfl : c3 = n := HF.out
          go_wp2_with fail
          go_ret
          exact ⟨rfl, HBf.out⟩
        · obtain rfl : c4 = n := HF.out
          go_wp2_with fail
          go_ret
          exact ⟨rfl, HBf.out⟩
      · have HPa' := Lib.hid (show Calls Tryd.prog 5 #[.string T6] wr fun e w' => ∃ (g : Nat) (S : ByteArray), e = .returned (.tuple #[conf0, .iface 43 (.pointer (some ⟨g, 0, none⟩))]) ∧ Blk w' g 46 #[.int .i64 12, .int .i64 1, .string S] ∧ Below wr.heap.size wr w' from HPa.out.mono fun e w' h => by
          obtain ⟨hb, hh⟩ := h
          rw [HMO.out] at hin
          obtain ⟨wd', hc'⟩ := HPn.out.2 hin
          rw [HTX.out, hc'] at hh
          obtain ⟨c, A, m, d, hp, he, _⟩ | ⟨j, wd, g, hp, he, hv⟩ := hh
          · cases hp
          · injection hp with hp1 hp2
            subst hp1
            exact ⟨g, _, he, hv, hb⟩)
        clear HPa
        go_upto_region 23 with (go_at_call 5; refine HPa'.out.mono ?_; clear HPa'; rintro e w2 ⟨g, S7, rfl, hv, hb2⟩; have HB2 := Lib.hid (HB.out.andThen hb2); have HV := Lib.hid hv; clear hb2 hv)
        obtain ⟨wc, hwc⟩ : ∃ W, W = w2.alloc (.cells #[.int .i64 0, .int .i64 0, .int .i64 0, .int .i64 0, .int .i64 0, .slice none 0 0] 29) := ⟨_, rfl⟩
        have HBc := Lib.hid (show Below wa.heap.size wa wc from by rw [hwc]; exact bel_al HB2.out _)
        have HVc := Lib.hid (show Blk wc g 46 #[.int .i64 12, .int .i64 1, .string S7] from by rw [hwc]; exact HV.out.alloc _)
        rw [← hwc]
        clear hwc HV HB2
        have hmk := HMk.out wc HBc.out
        have HC := Lib.hid (Code_flt g 12 1 S7 wc (HG.out.keep (HBa.out.andThen HBc.out)) HVc.out)
        have HA := Lib.hid (fun W (hW : Below wc.heap.size wc W) => At_flt g 12 1 S7 W (HG.out.keep (HBa.out.andThen (HBc.out.andThen hW))) (HVc.out.keep hW))
        by_cases hn1 : n < 1
        · have h3 : decide (n < 1) = true := decide_eq_true hn1
          clear hin
          go_wp2_with (first
            | (go_at_call 6; refine HC.out.mono ?_; clear HC; rintro e w3 ⟨rfl, hb3⟩; have HB3 := Lib.hid hb3; clear hb3)
            | (go_at_call 7; refine (HA.out _ HB3.out).mono ?_; clear HA; rintro e w4 ⟨rfl, hb4⟩; have HB4 := Lib.hid (HBa.out.andThen (HBc.out.andThen (HB3.out.andThen hb4))); clear hb4))
          go_ret
          exact ⟨rfl, HB4.out⟩
        · have hn2 : mo < n := by omega
          have h3 : decide (n < 1) = false := decide_eq_false hn1
          have h4 : decide (mo < n) = true := decide_eq_true hn2
          clear hin
          go_wp2_with (first
            | (go_at_call 6; refine HC.out.mono ?_; clear HC; rintro e w3 ⟨rfl, hb3⟩; have HB3 := Lib.hid hb3; clear hb3)
            | (go_at_call 7; refine (HA.out _ HB3.out).mono ?_; clear HA; rintro e w4 ⟨rfl, hb4⟩; have HB4 := Lib.hid (HBa.out.andThen (HBc.out.andThen (HB3.out.andThen hb4))); clear hb4))
          go_ret
          exact ⟨rfl, HB4.out⟩
theorem ConfNumbers_main (n k : Int) (w : World) (hg : ErrT w) (hT : TabW w) (hL : LibW w) (hn : (Lit.int .i64 n).wf = true) (hk : (Lit.int .u8 k).wf = true) :
    Calls Tryd.prog 3 #[.int .i64 n, .int .u8 k] w fun e w' => e = .returned (.bool true) ∧ Below w.heap.size w w' := by
  obtain ⟨j, rfl, hj⟩ : ∃ j : Nat, k = (j : Int) ∧ j < 256 := by
    have := wf_u8 hk
    exact ⟨k.toNat, by omega, by omega⟩
  exact ConfNumbers_walk n j w hg hT hL (wf_i64P hn) hj
end Go.Proofs.YtddedghnnkcnhaaDoor
