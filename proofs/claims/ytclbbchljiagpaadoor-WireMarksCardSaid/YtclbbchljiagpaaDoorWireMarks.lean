/-
  The walk of WireMarks.
-/
import Derived.Test.YtclbbchljiagpaaDoorWireJ
import Derived.Test.YtclbbchljiagpaaDoorWireH
namespace Go.Proofs.YtclbbchljiagpaaDoor
open Go.RowKit
set_option maxRecDepth 100000
set_option linter.unusedVariables false

set_option maxHeartbeats 4000000 in
theorem take_dead (x : Item) (LA : Option Addr) (ln lc g B : Nat) (A : Option Addr) (n c a : Nat) (E : Err) (w : World) (hR : Rd w B g A n c a E) (hE : E ≠ .nil) (hk : 0 ≤ x.kind ∧ x.kind ≤ 3) :
    Calls Tryd.prog 34 #[.pointer (some ⟨g, 0, none⟩), .agg #[.int .i64 x.kind, .int .i64 x.n, .string x.s, .slice LA ln lc]] w fun e w' => e = .returned (.agg #[.int .i64 x.kind, .int .i64 0, .string ⟨#[]⟩, .slice none 0 0]) ∧ Below w.heap.size w w' := by
  have HR := Lib.hid (fun W (h : Below w.heap.size w W) => hR.keep h)
  clear hR
  have hk' : x.kind = 0 ∨ x.kind = 1 ∨ x.kind = 2 ∨ x.kind = 3 := by omega
  clear hk
  rcases hk' with e0 | e0 | e0 | e0
  · rw [e0]
    clear e0
    go_enter Tryd.func34, Tryd.ntmps34
    go_wp2_with fail
    refine (Num_err g B A n c a E _ (HR.out _ (bel_al (bel_al (bel_al (Below.refl _ _) _) _) _)) hE).mono ?_
    rintro e w1 ⟨rfl, rfl⟩
    go_wp2_with fail
    refine bodyPost_ret (v := .agg #[.int .i64 0, .int .i64 0, .string ⟨#[]⟩, .slice none 0 0]) (by simp [results, Tryd.results34, go_sem]) rfl ⟨rfl, ?_⟩
    repeat (first | exact Below.refl _ _ | refine bel_al ?_ _ | refine Below.setCell ?_ (by simp <;> omega) _)
  · rw [e0]
    clear e0
    go_enter Tryd.func34, Tryd.ntmps34
    go_wp2_with fail
    refine (Long_err g B A n c a E _ (HR.out _ (bel_al (bel_al (bel_al (Below.refl _ _) _) _) _)) hE).mono ?_
    rintro e w1 ⟨rfl, rfl⟩
    go_wp2_with fail
    refine bodyPost_ret (v := .agg #[.int .i64 1, .int .i64 0, .string ⟨#[]⟩, .slice none 0 0]) (by simp [results, Tryd.results34, go_sem]) rfl ⟨rfl, ?_⟩
    repeat (first | exact Below.refl _ _ | refine bel_al ?_ _ | refine Below.setCell ?_ (by simp <;> omega) _)
  · rw [e0]
    clear e0
    go_enter Tryd.func34, Tryd.ntmps34
    go_wp2_with fail
    refine (Text_err g B A n c a E _ (HR.out _ (bel_al (bel_al (bel_al (Below.refl _ _) _) _) _)) hE).mono ?_
    rintro e w1 ⟨rfl, rfl⟩
    go_wp2_with fail
    refine bodyPost_ret (v := .agg #[.int .i64 2, .int .i64 0, .string ⟨#[]⟩, .slice none 0 0]) (by simp [results, Tryd.results34, go_sem]) rfl ⟨rfl, ?_⟩
    repeat (first | exact Below.refl _ _ | refine bel_al ?_ _ | refine Below.setCell ?_ (by simp <;> omega) _)
  · rw [e0]
    clear e0
    go_enter Tryd.func34, Tryd.ntmps34
    go_wp2_with fail
    refine (List_err g B A n c a E x.n _ (HR.out _ (bel_al (bel_al (bel_al (Below.refl _ _) _) _) _)) hE).mono ?_
    rintro e w1 ⟨rfl, rfl⟩
    go_wp2_with fail
    refine bodyPost_ret (v := .agg #[.int .i64 3, .int .i64 0, .string ⟨#[]⟩, .slice none 0 0]) (by simp [results, Tryd.results34, go_sem]) rfl ⟨rfl, ?_⟩
    repeat (first | exact Below.refl _ _ | refine bel_al ?_ _ | refine Below.setCell ?_ (by simp <;> omega) _)

set_option maxHeartbeats 8000000 in
theorem WireMarks_yes (A1 : Option Addr) (n1 c1 : Nat) (l1 : List Int) (A2 : Option Addr) (n2 c2 : Nat) (xs : List Item) (kd : Int) (w : World) (hg : ErrT w) (e1 : l1.length = n1) (s1 : Sl w 1 A1 n1 (l1.map (Value.int .u8))) (b1 : Bys l1) (q1 : n1 ≤ c1 ∧ c1 ≤ 9223372036854775807)
    (hm2 : n2 ≤ 9223372036854775807) (hI : Its w A2 n2 xs) (hk : 0 ≤ kd ∧ kd ≤ 255) (h1 : n1 ≤ 300) (hN : Near xs) :
    Calls Tryd.prog 5 #[.slice A1 n1 c1, .slice A2 n2 c2, .int .u8 kd] w fun e w' => e = .returned (.bool true) ∧ Below w.heap.size w w' := by
  have S1 := Lib.hid s1
  have B1 := Lib.hid b1
  have HG := Lib.hid hg
  have HI := Lib.hid hI
  have HN := Lib.hid hN
  clear s1 b1 hg hI hN
  go_enter Tryd.func5, Tryd.ntmps5
  go_wp2_with fail
  refine (alive03 w HG.out).mono ?_
  rintro e w1 ⟨rfl, hb⟩
  have HB := Lib.hid hb
  replace S1 := Lib.hid (S1.out.keep hb)
  replace HG := Lib.hid (HG.out.keep hb)
  replace HI := Lib.hid (HI.out.keep hb)
  clear hb
  have hF := far_any xs A2 n2 c2 w1 hm2 HI.out
  rw [decide_eq_true HN.out] at hF
  have HF := Lib.hid hF
  clear hF
  go_wp2_with fail
  refine HF.out.mono ?_
  rintro e w0 ⟨rfl, rfl⟩
  clear HF
  go_wp2_with fail
  refine (NewReader_any A1 n1 c1 w1).mono ?_
  rintro e w2 ⟨g, rfl, hR, hb⟩
  have HR := Lib.hid hR
  have HB2 := Lib.hid hb
  have HSB := Lib.hid (fun (W W' : World) (h : Below w1.heap.size w1 W) (h' : Below w1.heap.size W W') => S1.out.keep (h.trans h'))
  clear hR hb
  go_wp2_with fail
  go_loopw [8] (fun iv wr => ∃ k : Nat, 4 * k ≤ n1 ∧ iv = .int .i64 k ∧ Rd wr w1.heap.size g A1 n1 c1 (4 * k) .nil ∧ Below w1.heap.size w1 wr) (fun iv _ => n1 - (intOf iv).toNat)
  case atStart => exact ⟨0, Nat.zero_le _, rfl, HR.out, HB2.out⟩
  case round =>
    obtain ⟨k, hk4, rfl, hR, hb⟩ := hrel
    clear HR HB2
    have HR := Lib.hid hR
    have HBr := Lib.hid hb
    clear hR hb
    by_cases hlt : 4 * k + 4 ≤ n1
    · have HL := Lib.hid (Left_any g _ A1 n1 c1 (4 * k) .nil wr HR.out (by omega))
      go_wp2_with fail
      refine HL.out.mono ?_
      rintro e w3 ⟨rfl, hb3⟩
      have HB3 := Lib.hid (HBr.out.andThen hb3)
      have HR3 := Lib.hid (HR.out.keep hb3)
      have HNum := Lib.hid (Num_ok g _ A1 n1 c1 (4 * k) l1 w3 HR3.out hlt (by omega) q1.1 q1.2 e1 B1.out (fun W hW => HSB.out w3 W HB3.out hW))
      clear hb3 HL
      have hge : (4 : Int) ≤ ((n1 - 4 * k : Nat) : Int) := by omega
      go_wp2_with fail
      refine HNum.out.mono ?_
      rintro e w4 ⟨rfl, hR4, hb4⟩
      have HR4 := Lib.hid hR4
      have HB4 := Lib.hid (HB3.out.trans hb4)
      clear hR4 hb4 HNum
      go_wp2_with fail
      go_roundw
      case rel => exact ⟨k + 1, by omega, by go_num, HR4.out, HB4.out⟩
      case measure => simp [intOf]; omega
    · have HL := Lib.hid (Left_any g _ A1 n1 c1 (4 * k) .nil wr HR.out (by omega))
      go_wp2_with fail
      refine HL.out.mono ?_
      rintro e w3 ⟨rfl, hb3⟩
      have HB3 := Lib.hid (HBr.out.andThen hb3)
      have HR3 := Lib.hid (HR.out.keep hb3)
      have hge : ¬ (4 : Int) ≤ ((n1 - 4 * k : Nat) : Int) := by omega
      clear hb3 HL HR HBr
      have HL := Lib.hid (Left_any g _ A1 n1 c1 (4 * k) .nil w3 HR3.out (by omega))
      have hlf : ((n1 - 4 * k : Nat) : Int) < 4 := by omega
      have hlf2 : (n1 : Int) - ((n1 - 4 * k : Nat) : Int) = ((4 * k : Nat) : Int) := by omega
      have hlf3 : n1 - 4 * k ≤ 300 := by omega
      have hk9 : n1 < 4 * k + 8 := by omega
      generalize hlef : n1 - 4 * k = lef at *
      generalize hak : 4 * k = a at *
      go_wp2_with fail
      refine HL.out.mono ?_
      rintro e w4 ⟨rfl, hb4⟩
      have HB4 := Lib.hid (HB3.out.andThen hb4)
      have HR4 := Lib.hid (HR3.out.keep hb4)
      clear hb4 HL HR3 HB3
      go_wp2_with fail
      refine (Long_short g _ A1 n1 c1 a w4 HR4.out hk9 (by omega)).mono ?_
      rintro e w5 ⟨rfl, hR5, hb5⟩
      have HB5 := Lib.hid (HB4.out.trans hb5)
      have HR5 := Lib.hid hR5
      clear hb5 hR5 HB4 HR4
      go_wp2_with fail
      refine (End_err g _ A1 n1 c1 a _ w5 HR5.out (fun h => by cases h)).mono ?_
      rintro e w0 ⟨T5, x5, rfl, hE5, rfl⟩
      have HE5 := Lib.hid hE5
      clear hE5
      go_wp2_with fail
      go_loopw [11] (fun iv wq => ∃ i : Nat, i ≤ n2 ∧ iv = .int .i64 i ∧ Below w5.heap.size w5 wq) (fun iv _ => n2 - (intOf iv).toNat)
      case atStart => exact ⟨0, Nat.zero_le _, rfl, Below.refl _ _⟩
      case round =>
        obtain ⟨i, hi, rfl, hb⟩ := hrel
        have HBq := Lib.hid hb
        by_cases hlt2 : i < n2
        · have hj : i < xs.length := by have := HI.out.1; omega
          obtain ⟨hok, b, off, LA, lc, rfl, c0, c1', c2', c3, _⟩ := (HI.out.keep (HB5.out.trans (hb.mono HB5.out.size))).2 i xs[i] (List.getElem?_eq_getElem hj)
          have hnr := HN.out.2 _ (List.getElem_mem hj)
          generalize xs[i] = x at *
          have HTD := Lib.hid (take_dead x LA x.l.length lc g _ A1 n1 c1 a _ wr (HR5.out.keep hb) (fun h => by cases h) ⟨hnr.2.2.1, hnr.2.2.2⟩)
          clear hb hnr hok
          go_wp2_with fail
          refine HTD.out.mono ?_
          rintro e w6 ⟨rfl, hb6⟩
          have HB6 := Lib.hid (HBq.out.andThen hb6)
          clear hb6 HTD
          have hbA := HB6.out.trans ((bel_al (Below.refl w6.heap.size w6) (.cells #[.int .i64 x.kind, .int .i64 0, .string ⟨#[]⟩, .slice none 0 0] 50)).mono HB6.out.size)
          have HBA := Lib.hid hbA
          have HL := Lib.hid (Left_any g _ A1 n1 c1 a _ _ (HR5.out.keep hbA) (by omega))
          rw [hlef] at HL
          clear hbA
          go_wp2_with fail
          refine HL.out.mono ?_
          rintro e w7 ⟨rfl, hb7⟩
          have HB7 := Lib.hid (HBA.out.andThen hb7)
          clear hb7 HL
          go_wp2_with fail
          go_roundw
          case rel => exact ⟨i + 1, by omega, by go_num, HB7.out⟩
          case measure => simp [intOf]; omega
        · clear hb
          have HR6 := Lib.hid (HR5.out.keep HBq.out)
          replace HE5 := Lib.hid (HE5.out.keep HBq.out)
          replace HB5 := Lib.hid (HB5.out.andThen HBq.out)
          replace S1 := Lib.hid (S1.out.keep HB5.out)
          replace HG := Lib.hid (HG.out.keep HB5.out)
          replace HB := Lib.hid (HB.out.andThen HB5.out)
          clear HBq HR5 HB5 HSB HI
          go_wp2_with fail
          refine (End_err g _ A1 n1 c1 a _ wr HR6.out (fun h => by cases h)).mono ?_
          rintro e w0 ⟨T6, x6, rfl, hE6, rfl⟩
          have HE6 := Lib.hid hE6
          clear hE6 HR6
          go_wp2_with fail
          refine (Pack_any kd l1 A1 n1 c1 wr hk e1 (by omega) B1.out S1.out).mono ?_
          rintro e w7 ⟨C7, k7, rfl, hs7, hc7, hb⟩
          replace HB := Lib.hid (HB.out.andThen hb)
          replace S1 := Lib.hid (S1.out.keep hb)
          replace HG := Lib.hid (HG.out.keep hb)
          replace HE5 := Lib.hid (HE5.out.keep hb)
          replace HE6 := Lib.hid (HE6.out.keep hb)
          have S7 := Lib.hid hs7
          clear hb hs7
          have hp7 : (packL kd l1).length = n1 + 13 := by rw [packL_len, e1]
          have HPB := Lib.hid (packL_bys hk B1.out)
          go_wp2_with fail
          refine (Pack_any kd (packL kd l1) C7 (n1 + 13) k7 w7 hk hp7 (by omega) HPB.out S7.out).mono ?_
          rintro e w8 ⟨C8, k8, rfl, hs8, hc8, hb⟩
          replace HB := Lib.hid (HB.out.andThen hb)
          replace S1 := Lib.hid (S1.out.keep hb)
          replace HG := Lib.hid (HG.out.keep hb)
          replace HE5 := Lib.hid (HE5.out.keep hb)
          replace HE6 := Lib.hid (HE6.out.keep hb)
          have S8 := Lib.hid hs8
          clear hb hs8 S7
          go_wp2_with fail
          refine (Unpack_pack kd (packL kd l1) C8 (n1 + 13) k8 w8 hk hc8.1 hc8.2 (by omega) hp7 HPB.out S8.out).mono ?_
          rintro e w9 ⟨C9, k9, rfl, hs9, hc9, hb⟩
          replace HB := Lib.hid (HB.out.andThen hb)
          replace S1 := Lib.hid (S1.out.keep hb)
          replace HG := Lib.hid (HG.out.keep hb)
          replace HE5 := Lib.hid (HE5.out.keep hb)
          replace HE6 := Lib.hid (HE6.out.keep hb)
          have S9 := Lib.hid hs9
          clear hb hs9 S8
          go_wp2_with fail
          refine (Unpack_pack kd l1 C9 n1 k9 w9 hk hc9.1 hc9.2 (by omega) e1 B1.out S9.out).mono ?_
          rintro e w10 ⟨C10, k10, rfl, hs10, hc10, hb⟩
          replace HB := Lib.hid (HB.out.andThen hb)
          replace S1 := Lib.hid (S1.out.keep hb)
          replace HG := Lib.hid (HG.out.keep hb)
          replace HE5 := Lib.hid (HE5.out.keep hb)
          replace HE6 := Lib.hid (HE6.out.keep hb)
          have S10 := Lib.hid hs10
          clear hb hs10 S9
          go_wp2_with fail
          refine (Code_any _ _ w10 HE5.out HG.out).mono ?_
          rintro e w11 ⟨rfl, hb⟩
          replace HB := Lib.hid (HB.out.andThen hb)
          replace S1 := Lib.hid (S1.out.keep hb)
          replace HG := Lib.hid (HG.out.keep hb)
          replace HE5 := Lib.hid (HE5.out.keep hb)
          replace HE6 := Lib.hid (HE6.out.keep hb)
          replace S10 := Lib.hid (S10.out.keep hb)
          clear hb
          rw [show (Err.flt 9 (a : Int) txtBytes).code = 9 from rfl]
          go_wp2_with fail
          refine (At_any _ _ w11 HE5.out HG.out).mono ?_
          rintro e w12 ⟨rfl, hb⟩
          replace HB := Lib.hid (HB.out.andThen hb)
          replace S1 := Lib.hid (S1.out.keep hb)
          replace HG := Lib.hid (HG.out.keep hb)
          replace HE6 := Lib.hid (HE6.out.keep hb)
          replace S10 := Lib.hid (S10.out.keep hb)
          clear hb HE5
          rw [show (Err.flt 9 (a : Int) txtBytes).at_ = a from rfl]
          have hlf4 : ((a : Int) == (n1 : Int) - (lef : Int)) = true := by rw [hlf2]; simp
          go_wp2_with fail
          refine (Code_any _ _ w12 HE6.out HG.out).mono ?_
          rintro e w13 ⟨rfl, hb⟩
          replace HB := Lib.hid (HB.out.andThen hb)
          replace S1 := Lib.hid (S1.out.keep hb)
          replace S10 := Lib.hid (S10.out.keep hb)
          clear hb HE6
          rw [show (Err.flt 9 (a : Int) txtBytes).code = 9 from rfl]
          have hkk : (kd == kd) = true := by simp
          go_wp2_with fail
          have hR := Same_any l1 l1 C10 A1 n1 n1 k10 c1 w13 e1 e1 S10.out S1.out (by omega)
          rw [decide_eq_true rfl] at hR
          refine hR.mono ?_
          rintro e w14 ⟨rfl, hb⟩
          replace HB := Lib.hid (HB.out.andThen hb)
          clear hb hR
          go_wp2_with fail
          go_ret
          exact ⟨rfl, HB.out⟩

theorem bys_of_wf' {l : List Int} (h : ∀ z ∈ l, (Lit.int .u8 z).wf = true) : Bys l := fun x hx => wf_u8 (h x hx)
set_option maxHeartbeats 2000000 in
theorem WireMarks_main (A1 : Option Addr) (n1 c1 : Nat) (l1 : List Int) (A2 : Option Addr) (n2 c2 : Nat) (xs : List Item) (a2 : Int) (w : World) (hg : ErrT w)
    (m1 : n1 ≤ maxLen) (e1 : l1.length = n1) (s1 : Sl w 1 A1 n1 (l1.map (Value.int .u8))) (w1 : ∀ z ∈ l1, (Lit.int .u8 z).wf = true) (q1 : n1 ≤ c1 ∧ c1 ≤ 9223372036854775807)
    (m2 : n2 ≤ maxLen) (_ : xs.length = n2) (hI : Its w A2 n2 xs) (_ : True) (_ : n2 ≤ c2 ∧ c2 ≤ 9223372036854775807) (w2 : (Lit.int .u8 a2).wf = true) :
    Calls Tryd.prog 5 #[.slice A1 n1 c1, .slice A2 n2 c2, .int .u8 a2] w fun e w' => e = .returned (.bool true) ∧ Below w.heap.size w w' := by
  by_cases h : n1 ≤ 300 ∧ Near xs
  · exact WireMarks_yes A1 n1 c1 l1 A2 n2 c2 xs a2 w hg e1 s1 (bys_of_wf' w1) q1 m2 hI (wf_u8 w2) h.1 h.2
  · unfold maxLen at m1 m2
    go_enter Tryd.func5, Tryd.ntmps5
    have HI := Lib.hid hI
    clear hI s1
    go_wp2_with fail
    refine (alive03 w hg).mono ?_
    rintro e w1 ⟨rfl, hb⟩
    have HB := Lib.hid hb
    replace HI := Lib.hid (HI.out.keep hb)
    clear hb hg
    by_cases h1 : n1 ≤ 300
    · have hF := far_any xs A2 n2 c2 w1 m2 HI.out
      rw [decide_eq_false (fun h2 : Near xs => h ⟨h1, h2⟩)] at hF
      have HF := Lib.hid hF
      clear h hF
      go_wp2_with fail
      refine HF.out.mono ?_
      rintro e w0 ⟨rfl, rfl⟩
      go_wp2_with fail
      go_ret
      exact ⟨rfl, HB.out⟩
    · clear h
      go_wp2_with fail
      go_ret
      exact ⟨rfl, HB.out⟩
end Go.Proofs.YtclbbchljiagpaaDoor
