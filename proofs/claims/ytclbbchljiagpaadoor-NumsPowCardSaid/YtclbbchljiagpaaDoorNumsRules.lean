/-
  NumsRules: the walk.
-/
import Derived.Test.YtclbbchljiagpaaDoorNumU
namespace Go.Proofs.YtclbbchljiagpaaDoor
open Go.RowKit
set_option maxRecDepth 100000
set_option linter.unusedVariables false

theorem ch_two (m : Nat) : 2 * ch (m + 2) 2 = (m + 2) * (m + 1) := by
  have h1 := ch_step (m + 1) 1
  have h2 : 1 * ch (m + 1) 1 = (m + 1) * 1 := by have := ch_step m 0; rwa [ch_zero] at this
  have h3 : ch (m + 1) 1 = m + 1 := by omega
  rw [h3] at h1
  exact h1
theorem big_choice {n k : Nat} (hn : n = 1099511627776) (hk : k = 549755813888) : fitB (ch n k : Nat) = false := by
  have h1 := ch_mono k (i := 2) (k := k) (by omega)
  rw [show k + k = n by omega] at h1
  have h2 := ch_two k
  have h3 : (k + 2) * (k + 1) = 302231454905306561118210 := by rw [hk]
  exact fitB_false (by omega)
theorem one_choice (n : Nat) : ch n 1 = n := by
  cases n with
  | zero => rfl
  | succ n =>
    have h2 : 1 * ch (n + 1) 1 = (n + 1) * 1 := by have := ch_step n 0; rwa [ch_zero] at this
    omega
theorem ChooseBig (w : World) : Calls Tryd.prog 53 #[.int .i64 1099511627776, .int .i64 549755813888] w fun e w' => ∃ ev, e = .returned (.tuple #[.int .i64 0, ev]) ∧ (Err.flt 7 0 txtChoice).At w' ev ∧ Below w.heap.size w w' := by
  obtain ⟨n, hn⟩ : ∃ n : Nat, n = 1099511627776 := ⟨_, rfl⟩
  obtain ⟨k, hk⟩ : ∃ k : Nat, k = 549755813888 := ⟨_, rfl⟩
  have h := NumsChoose_any n k w (by omega) (by omega)
  have hb := big_choice hn hk
  rw [tn_not hb, te_not hb, show (n : Int) = 1099511627776 by omega, show (k : Int) = 549755813888 by omega] at h
  exact h
theorem ChooseOne (w : World) : Calls Tryd.prog 53 #[.int .i64 4611686018427387904, .int .i64 1] w fun e w' => e = .returned (.tuple #[.int .i64 4611686018427387904, .nilIface]) ∧ Below w.heap.size w w' := by
  obtain ⟨n, hn⟩ : ∃ n : Nat, n = 4611686018427387904 := ⟨_, rfl⟩
  have h := NumsChoose_any n 1 w (by omega) (by omega)
  rw [one_choice] at h
  have hb : fitB (n : Int) = true := fitB_true (by omega)
  rw [tn_fit hb, te_fit hb, show (n : Int) = 4611686018427387904 by omega] at h
  refine h.mono ?_
  rintro e w' ⟨ev, rfl, hev, hb⟩
  obtain rfl : ev = .nilIface := hev
  exact ⟨rfl, hb⟩
/-- A choice of few things. -/
theorem ChooseFew (n k : Nat) (w : World) (hn : n ≤ 62) (hk : k ≤ 1000) : Calls Tryd.prog 53 #[.int .i64 (n : Int), .int .i64 (k : Int)] w fun e w' => e = .returned (.tuple #[.int .i64 (ch n k : Nat), .nilIface]) ∧ Below w.heap.size w w' := by
  have h := NumsChoose_any n k w (by omega) (by omega)
  have h1 := ch_le n k
  have h2 : 2 ^ n ≤ 2 ^ 62 := Nat.pow_le_pow_right (by omega) hn
  have h3 : (2 : Nat) ^ 62 = 4611686018427387904 := rfl
  have hb : fitB (ch n k : Nat) = true := fitB_true (by omega)
  rw [tn_fit hb, te_fit hb] at h
  refine h.mono ?_
  rintro e w' ⟨ev, rfl, hev, hb⟩
  obtain rfl : ev = .nilIface := hev
  exact ⟨rfl, hb⟩
theorem few_le {n k : Nat} (hn : n ≤ 62) : ch n k ≤ 4611686018427387904 := by
  have h1 := ch_le n k
  have h2 : 2 ^ n ≤ 2 ^ 62 := Nat.pow_le_pow_right (by omega) hn
  have h3 : (2 : Nat) ^ 62 = 4611686018427387904 := rfl
  omega
/-- A small power. -/
theorem pow_few {a : Int} (ha : a.natAbs ≤ 128) {s : Nat} (hs : s ≤ 6) : (a ^ s).natAbs ≤ 4398046511104 := by
  rw [pow_abs]
  have h1 : a.natAbs ^ s ≤ 128 ^ s := Nat.pow_le_pow_left ha s
  have h2 : (128 : Nat) ^ s ≤ 128 ^ 6 := Nat.pow_le_pow_right (by omega) hs
  have h3 : (128 : Nat) ^ 6 = 4398046511104 := rfl
  omega
theorem PowFew (a : Int) (s : Nat) (w : World) (ha : a.natAbs ≤ 128) (hs : s ≤ 6) : Calls Tryd.prog 51 #[.int .i64 a, .int .i64 (s : Int)] w fun e w' => e = .returned (.tuple #[.int .i64 (a ^ s), .nilIface]) ∧ Below w.heap.size w w' := by
  have h := NumsPow_any a s w (by omega) (by omega)
  have hf := pow_few ha hs
  have hb : fitB (a ^ s) = true := fitB_true (by omega)
  rw [tn_fit hb, te_fit hb] at h
  refine h.mono ?_
  rintro e w' ⟨ev, rfl, hev, hb⟩
  obtain rfl : ev = .nilIface := hev
  exact ⟨rfl, hb⟩

set_option maxHeartbeats 4000000 in
theorem NumsRules_walk (n k p q : Nat) (a : Int) (w : World) (hg : ErrT w) (hn : n ≤ 255) (hk : k ≤ 255) (hp : p ≤ 255) (hq : q ≤ 255) (ha : -128 ≤ a ∧ a ≤ 127) :
    Calls Tryd.prog 12 #[.int .u8 (n : Int), .int .u8 (k : Int), .int .i8 a, .int .u8 (p : Int), .int .u8 (q : Int)] w fun e w' => e = .returned (.bool true) ∧ Below w.heap.size w w' := by
  obtain ⟨M, hM⟩ : ∃ M, M = n % 60 := ⟨_, rfl⟩
  obtain ⟨J, hJ⟩ : ∃ J, J = k % 60 := ⟨_, rfl⟩
  obtain ⟨s, hs⟩ : ∃ s, s = p % 4 := ⟨_, rfl⟩
  obtain ⟨t, ht⟩ : ∃ t, t = q % 4 := ⟨_, rfl⟩
  have e1 : (n : Int) % 60 = (M : Int) := by omega
  have e2 : (k : Int) % 60 = (J : Int) := by omega
  have e3 : (p : Int) % 4 = (s : Int) := by omega
  have e4 : (q : Int) % 4 = (t : Int) := by omega
  have hM9 : M < 60 := by omega
  have hJ9 : J < 60 := by omega
  have hs9 : s < 4 := by omega
  have ht9 : t < 4 := by omega
  clear hM hJ hs ht
  have H1 := Lib.hid (fun W => (ChooseFew (M + 1) (J + 1) W (by omega) (by omega) : Calls Tryd.prog 53 #[.int .i64 ((M : Int) + 1), .int .i64 ((J : Int) + 1)] W _))
  have H2 := Lib.hid (fun W => ChooseFew M J W (by omega) (by omega))
  have H3 := Lib.hid (fun W => (ChooseFew M (J + 1) W (by omega) (by omega) : Calls Tryd.prog 53 #[.int .i64 (M : Int), .int .i64 ((J : Int) + 1)] W _))
  have hx := ch_succ M J
  have hx9 := few_le (n := M + 1) (k := J + 1) (by omega)
  generalize ch (M + 1) (J + 1) = x at *
  generalize ch M J = y at *
  generalize ch M (J + 1) = z at *
  have hxyz : (x : Int) = (y : Int) + (z : Int) := by omega
  have hw1 : IntKind.i64.wrap ((y : Int) + (z : Int)) = (x : Int) := by rw [IntKind.wrap_i64]; omega
  have hee : ((x : Int) == (x : Int)) = true := by simp
  clear hx hxyz
  have P1 := Lib.hid (fun W => PowFew a s W (by omega) (by omega))
  have P2 := Lib.hid (fun W => PowFew a t W (by omega) (by omega))
  have P3 := Lib.hid (fun W => (PowFew a (s + t) W (by omega) (by omega) : Calls Tryd.prog 51 #[.int .i64 a, .int .i64 ((s : Int) + (t : Int))] W _))
  have hpp := Int.pow_add a s t
  have hw9 := pow_few (a := a) (s := s + t) (by omega) (by omega)
  generalize a ^ (s + t) = pw at *
  generalize a ^ s = pu at *
  generalize a ^ t = pv at *
  have hw2 : IntKind.i64.wrap (pu * pv) = pw := by rw [← hpp, IntKind.wrap_i64]; omega
  have hpe : (pw == pw) = true := by simp
  have hww : IntKind.i64.wrap a = a := by rw [IntKind.wrap_i64]; omega
  clear hpp
  go_enter Tryd.func12, Tryd.ntmps12
  go_wp2_with fail
  refine (alive02 w hg).mono ?_
  rintro e w1 ⟨rfl, hb1⟩
  have HB := Lib.hid hb1
  clear hb1
  go_wp2_with fail
  refine (H1.out w1).mono ?_
  rintro e w2 ⟨rfl, hb1⟩
  replace HB := Lib.hid (HB.out.andThen hb1)
  clear hb1 H1
  go_wp2_with fail
  refine (H2.out w2).mono ?_
  rintro e w3 ⟨rfl, hb1⟩
  replace HB := Lib.hid (HB.out.andThen hb1)
  clear hb1 H2
  go_wp2_with fail
  refine (H3.out w3).mono ?_
  rintro e w4 ⟨rfl, hb1⟩
  replace HB := Lib.hid (HB.out.andThen hb1)
  clear hb1 H3
  go_wp2_with fail
  refine (P1.out w4).mono ?_
  rintro e w5 ⟨rfl, hb1⟩
  replace HB := Lib.hid (HB.out.andThen hb1)
  clear hb1 P1
  go_wp2_with fail
  refine (P2.out w5).mono ?_
  rintro e w6 ⟨rfl, hb1⟩
  replace HB := Lib.hid (HB.out.andThen hb1)
  clear hb1 P2
  go_wp2_with fail
  refine (P3.out w6).mono ?_
  rintro e w7 ⟨rfl, hb1⟩
  replace HB := Lib.hid (HB.out.andThen hb1)
  clear hb1 P3
  go_wp2_with fail
  refine (ChooseBig w7).mono ?_
  rintro e w8 ⟨ev, rfl, hev, hb1⟩
  have HE := Lib.hid hev
  replace HB := Lib.hid (HB.out.andThen hb1)
  clear hb1 hev
  go_wp2_with fail
  refine (ChooseOne w8).mono ?_
  rintro e w9 ⟨rfl, hb1⟩
  replace HE := Lib.hid (HE.out.keep hb1)
  replace HB := Lib.hid (HB.out.andThen hb1)
  have HG := Lib.hid (hg.keep HB.out)
  clear hb1
  go_wp2_with fail
  refine (Code_any _ ev w9 HE.out HG.out).mono ?_
  rintro e w10 ⟨rfl, hb1⟩
  rw [show (Err.flt 7 0 txtChoice).code = 7 from rfl]
  replace HB := Lib.hid (HB.out.andThen hb1)
  clear hb1
  go_wp2_with fail
  go_ret
  exact ⟨rfl, HB.out⟩

theorem wf_i8 {z : Int} (h : (Lit.int .i8 z).wf = true) : -128 ≤ z ∧ z ≤ 127 := by
  simpa [Lit.wf, IntKind.min, IntKind.max, IntKind.signed, IntKind.bits] using h
theorem NumsRules_main (a0 a1 a2 a3 a4 : Int) (w : World) (hg : ErrT w) (h0 : (Lit.int .u8 a0).wf = true) (h1 : (Lit.int .u8 a1).wf = true) (h2 : (Lit.int .i8 a2).wf = true) (h3 : (Lit.int .u8 a3).wf = true) (h4 : (Lit.int .u8 a4).wf = true) :
    Calls Tryd.prog 12 #[.int .u8 a0, .int .u8 a1, .int .i8 a2, .int .u8 a3, .int .u8 a4] w fun e w' => e = .returned (.bool true) ∧ Below w.heap.size w w' := by
  have b0 := wf_u8 h0
  have b1 := wf_u8 h1
  have b3 := wf_u8 h3
  have b4 := wf_u8 h4
  obtain ⟨a0, rfl⟩ := Int.eq_ofNat_of_zero_le b0.1
  obtain ⟨a1, rfl⟩ := Int.eq_ofNat_of_zero_le b1.1
  obtain ⟨a3, rfl⟩ := Int.eq_ofNat_of_zero_le b3.1
  obtain ⟨a4, rfl⟩ := Int.eq_ofNat_of_zero_le b4.1
  exact NumsRules_walk a0 a1 a3 a4 a2 w hg (by omega) (by omega) (by omega) (by omega) (wf_i8 h2)
end Go.Proofs.YtclbbchljiagpaaDoor
