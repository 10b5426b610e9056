/-
  Contracts: nums.Add, size, signed, over, Mul, small, Pow; bits.Mul64.
-/
import Derived.Test.YtclbbchljiagpaaDoorChain2
import Derived.Lib.Mul64
import Derived.Shelf.Bits.Mul64
namespace Go.Proofs.YtclbbchljiagpaaDoor
open Go.RowKit Go.Lib
set_option maxRecDepth 100000
set_option linter.unusedVariables false

/-- Does it lie from -2^63 to 2^63 - 1? -/
def fitB (z : Int) : Bool := decide (-9223372036854775808 ≤ z ∧ z ≤ 9223372036854775807)
/-- What is told of a number: itself, or nothing. -/
def tn (z : Int) : Int := if fitB z then z else 0
def te (t : ByteArray) (z : Int) : Err := if fitB z then .nil else .flt 7 0 t
theorem fitB_true {z : Int} (h : -9223372036854775808 ≤ z ∧ z ≤ 9223372036854775807) : fitB z = true := decide_eq_true h
theorem fitB_false {z : Int} (h : ¬ (-9223372036854775808 ≤ z ∧ z ≤ 9223372036854775807)) : fitB z = false := decide_eq_false h
theorem fitB_iff {z : Int} : fitB z = true ↔ -9223372036854775808 ≤ z ∧ z ≤ 9223372036854775807 := by unfold fitB; simp
theorem tn_fit {z : Int} (h : fitB z = true) : tn z = z := by rw [tn, h]; rfl
theorem tn_not {z : Int} (h : fitB z = false) : tn z = 0 := by rw [tn, h]; rfl
theorem te_fit {t : ByteArray} {z : Int} (h : fitB z = true) : te t z = .nil := by rw [te, h]; rfl
theorem te_not {t : ByteArray} {z : Int} (h : fitB z = false) : te t z = .flt 7 0 t := by rw [te, h]; rfl
theorem tn_in (z : Int) : -9223372036854775808 ≤ tn z ∧ tn z ≤ 9223372036854775807 := by
  unfold tn
  split
  · rename_i h; exact fitB_iff.1 h
  · omega
theorem te_code (t : ByteArray) (z : Int) : (te t z).code = if fitB z then 0 else 7 := by
  unfold te; split <;> rfl
def txtSum : ByteArray := ⟨#[115, 117, 109]⟩
def txtProduct : ByteArray := ⟨#[112, 114, 111, 100, 117, 99, 116]⟩
def txtPower : ByteArray := ⟨#[112, 111, 119, 101, 114]⟩
def txtChoice : ByteArray := ⟨#[99, 104, 111, 105, 99, 101]⟩

theorem Over_any (t : ByteArray) (w : World) :
    Calls Tryd.prog 73 #[.string t] w fun e w' => ∃ ev, e = .returned (.tuple #[.int .i64 0, ev]) ∧ (Err.flt 7 0 t).At w' ev ∧ Below w.heap.size w w' := by
  go_enter Tryd.func73, Tryd.ntmps73
  go_wp2_with fail
  refine (New_err 7 0 t w).mono ?_
  rintro e w1 ⟨v, rfl, hv, hb1⟩
  have HV := Lib.hid hv
  clear hv
  go_wp2_with fail
  go_ret2
  exact ⟨v, rfl, HV.out, hb1⟩

set_option maxHeartbeats 1000000 in
theorem NumsAdd_any (a b : Int) (w : World) (ha : -9223372036854775808 ≤ a ∧ a ≤ 9223372036854775807) (hb : -9223372036854775808 ≤ b ∧ b ≤ 9223372036854775807) :
    Calls Tryd.prog 43 #[.int .i64 a, .int .i64 b] w fun e w' => ∃ ev, e = .returned (.tuple #[.int .i64 (tn (a + b)), ev]) ∧ (te txtSum (a + b)).At w' ev ∧ Below w.heap.size w w' := by
  obtain ⟨s, hs⟩ : ∃ s, s = IntKind.i64.wrap (a + b) := ⟨_, rfl⟩
  have hs' : (s = a + b ∧ fitB (a + b) = true) ∨ (s = a + b - 18446744073709551616 ∧ 9223372036854775807 < a + b) ∨ (s = a + b + 18446744073709551616 ∧ a + b < -9223372036854775808) := by
    rw [hs, IntKind.wrap_i64]
    rcases Int.lt_or_le (a + b) (-9223372036854775808) with h | h
    · exact .inr (.inr ⟨by omega, h⟩)
    · rcases Int.lt_or_le 9223372036854775807 (a + b) with h2 | h2
      · exact .inr (.inl ⟨by omega, h2⟩)
      · exact .inl ⟨by omega, fitB_true ⟨h, h2⟩⟩
  replace hs := hs.symm
  rcases hs' with ⟨h1, h2⟩ | ⟨h1, h2⟩ | ⟨h1, h2⟩
  · by_cases hb0 : b = 0
    · subst hb0
      rw [Int.add_zero] at h1 h2 ⊢
      subst h1
      have hw : IntKind.i64.wrap s = s := by rw [IntKind.wrap_i64]; omega
      rw [tn_fit h2, te_fit h2]
      clear h2 hs
      go_enter Tryd.func43, Tryd.ntmps43
      go_wp2_with fail
      all_goals (go_ret2; exact ⟨.nilIface, rfl, rfl, Below.refl _ _⟩)
    · rw [tn_fit h2, te_fit h2, ← h1]
      clear h2
      by_cases hp : 0 < b
      · have ha2 : a < s := by omega
        clear h1
        go_enter Tryd.func43, Tryd.ntmps43
        go_wp2_with fail
        all_goals (go_ret2; exact ⟨.nilIface, rfl, rfl, Below.refl _ _⟩)
      · have ha2 : ¬ a < s := by omega
        clear h1
        go_enter Tryd.func43, Tryd.ntmps43
        go_wp2_with fail
        all_goals (go_ret2; exact ⟨.nilIface, rfl, rfl, Below.refl _ _⟩)
  · have hf : fitB (a + b) = false := fitB_false (by omega)
    rw [tn_not hf, te_not hf]
    clear hf
    have hp : 0 < b := by omega
    have ha2 : ¬ a < s := by omega
    have hb0 : (b == 0) = false := by simp; omega
    clear h1 h2
    go_enter Tryd.func43, Tryd.ntmps43
    go_wp2_with fail
    refine (Over_any txtSum w).mono ?_
    rintro e w1 ⟨ev, rfl, hv, hb1⟩
    have HV := Lib.hid hv
    clear hv
    go_wp2_with fail
    go_ret2
    exact ⟨ev, rfl, HV.out, hb1⟩
  · have hf : fitB (a + b) = false := fitB_false (by omega)
    rw [tn_not hf, te_not hf]
    clear hf
    have hp : ¬ 0 < b := by omega
    have ha2 : a < s := by omega
    have hb0 : (b == 0) = false := by simp; omega
    clear h1 h2
    go_enter Tryd.func43, Tryd.ntmps43
    go_wp2_with fail
    refine (Over_any txtSum w).mono ?_
    rintro e w1 ⟨ev, rfl, hv, hb1⟩
    have HV := Lib.hid hv
    clear hv
    go_wp2_with fail
    go_ret2
    exact ⟨ev, rfl, HV.out, hb1⟩

theorem Size_any (a : Int) (w : World) (ha : -9223372036854775808 ≤ a ∧ a ≤ 9223372036854775807) :
    Calls Tryd.prog 75 #[.int .i64 a] w fun e w' => e = .returned (.int .u64 (a.natAbs : Nat)) ∧ w' = w := by
  by_cases h : a < 0
  · have h1 : IntKind.u64.wrap a = a + 18446744073709551616 := by rw [IntKind.wrap_u64]; omega
    have h2 : IntKind.u64.wrap (-(a + 18446744073709551616)) = ((a.natAbs : Nat) : Int) := by rw [IntKind.wrap_u64]; omega
    go_enter Tryd.func75, Tryd.ntmps75
    go_wp2_with fail
    go_ret
    exact ⟨rfl, rfl⟩
  · have h1 : IntKind.u64.wrap a = ((a.natAbs : Nat) : Int) := by rw [IntKind.wrap_u64]; omega
    go_enter Tryd.func75, Tryd.ntmps75
    go_wp2_with fail
    go_ret
    exact ⟨rfl, rfl⟩

/-- Of a size and a sign: the number, and whether it fits. -/
def SgP (z : Int) (w : World) (e : Ending) (w' : World) : Prop := ∃ p : Int, e = .returned (.tuple #[.int .i64 p, .bool (fitB z)]) ∧ (fitB z = true → p = z) ∧ w' = w
theorem Signed_any (hi lo : Nat) (neg : Bool) (z : Int) (w : World) (hlo : lo < 18446744073709551616) (hhi : hi < 18446744073709551616)
    (hz : z = if neg then -((hi * 18446744073709551616 + lo : Nat) : Int) else ((hi * 18446744073709551616 + lo : Nat) : Int)) :
    Calls Tryd.prog 76 #[.int .u64 (hi : Int), .int .u64 (lo : Int), .bool neg] w (SgP z w) := by
  by_cases h : 0 < hi
  · have hf : fitB z = false := by
      refine fitB_false ?_
      rw [hz]
      cases neg <;> simp <;> omega
    have HF := Lib.hid hf
    have h' : (0 : Int) < (hi : Int) := by omega
    clear hf hz
    go_enter Tryd.func76, Tryd.ntmps76
    go_wp2_with fail
    go_ret2
    exact ⟨0, by rw [HF.out]; rfl, fun h => (by rw [HF.out] at h; cases h), rfl⟩
  · obtain rfl : hi = 0 := by omega
    simp only [Nat.zero_mul, Nat.zero_add] at hz
    cases neg
    · replace hz : z = (lo : Int) := hz
      have hf : fitB z = decide ((lo : Int) ≤ 9223372036854775807) := by
        unfold fitB; rw [Bool.eq_iff_iff]; simp only [decide_eq_true_eq]; omega
      have HF := Lib.hid hf
      have hw : (lo : Int) ≤ 9223372036854775807 → wrap64 (lo : Int) = z := fun h => by rw [hz]; unfold wrap64; omega
      have HW := Lib.hid hw
      clear hw hf hz
      go_enter Tryd.func76, Tryd.ntmps76
      go_wp2_with fail
      go_ret2
      exact ⟨_, by rw [HF.out]; rfl, fun h => HW.out (of_decide_eq_true (by rw [← HF.out]; exact h)), rfl⟩
    · replace hz : z = -(lo : Int) := hz
      have hf : fitB z = decide ((lo : Int) ≤ 9223372036854775808) := by
        unfold fitB; rw [Bool.eq_iff_iff]; simp only [decide_eq_true_eq]; omega
      have HF := Lib.hid hf
      have hw : (lo : Int) ≤ 9223372036854775808 → wrap64 (-wrap64 (lo : Int)) = z := fun h => by rw [hz]; unfold wrap64; omega
      have HW := Lib.hid hw
      clear hw hf hz
      go_enter Tryd.func76, Tryd.ntmps76
      go_wp2_with fail
      go_ret2
      exact ⟨_, by rw [HF.out]; rfl, fun h => HW.out (of_decide_eq_true (by rw [← HF.out]; exact h)), rfl⟩

set_option maxHeartbeats 1000000 in
theorem Mul64_any (x y : Nat) (hx : x < 18446744073709551616) (hy : y < 18446744073709551616) (w : World) :
    Calls Tryd.prog 74 #[.int .u64 x, .int .u64 y] w fun e w' => e = .returned (.tuple #[.int .u64 ((x * y / 18446744073709551616 : Nat) : Int), .int .u64 ((x * y % 18446744073709551616 : Nat) : Int)]) ∧ w' = w := by
  obtain ⟨bd, bt, bw, hhi⟩ := Lib.mul64_hi x y hx hy
  have ba := Lib.half_mul_le (a := x / 4294967296) (b := y / 4294967296) (by omega) (by omega)
  have bb := Lib.half_mul_le (a := x / 4294967296) (b := y % 4294967296) (by omega) (by omega)
  have bc := Lib.half_mul_le (a := x % 4294967296) (b := y / 4294967296) (by omega) (by omega)
  have ba' : x / 4294967296 * (y / 4294967296) < 18446744073709551616 := by omega
  have bb' : x / 4294967296 * (y % 4294967296) < 18446744073709551616 := by omega
  have bc' : x % 4294967296 * (y / 4294967296) < 18446744073709551616 := by omega
  have bh1 : x / 4294967296 * (y / 4294967296) + (x / 4294967296 * (y % 4294967296) + x % 4294967296 * (y % 4294967296) / 4294967296) / 4294967296 < 18446744073709551616 := by omega
  have bh : x / 4294967296 * (y / 4294967296) + (x / 4294967296 * (y % 4294967296) + x % 4294967296 * (y % 4294967296) / 4294967296) / 4294967296 + ((x / 4294967296 * (y % 4294967296) + x % 4294967296 * (y % 4294967296) / 4294967296) % 4294967296 + x % 4294967296 * (y / 4294967296)) / 4294967296 < 18446744073709551616 := by omega
  go_enter Tryd.func74, Tryd.ntmps74
  go_wp2
  simp only [Mul64.maskN x hx, Mul64.maskN y hy, Mul64.divN, Mul64.mulN, Mul64.addN, Mul64.wrapN _ bd, Mul64.wrapN _ bb', Mul64.wrapN _ bt, Mul64.maskN _ bt, Mul64.wrapN _ bc', Mul64.wrapN _ bw, Mul64.wrapN _ ba', Mul64.wrapN _ bh1, Mul64.wrapN _ bh, Mul64.wrapM (x * y)]
  rw [hhi]
  go_ret2
  exact ⟨rfl, rfl⟩

theorem prod_abs (a b : Int) : (if (decide (a < 0) != decide (b < 0)) = true then -((a.natAbs * b.natAbs : Nat) : Int) else ((a.natAbs * b.natAbs : Nat) : Int)) = a * b := by
  rw [← Int.natAbs_mul]
  by_cases h1 : a < 0 <;> by_cases h2 : b < 0
  · have := Int.mul_pos_of_neg_of_neg h1 h2
    simp [h1, h2]; omega
  · have := Int.mul_nonpos_of_nonpos_of_nonneg (a := a) (b := b) (by omega) (by omega)
    simp [h1, h2]; omega
  · have := Int.mul_nonpos_of_nonneg_of_nonpos (a := a) (b := b) (by omega) (by omega)
    simp [h1, h2]; omega
  · have := Int.mul_nonneg (a := a) (b := b) (by omega) (by omega)
    simp [h1, h2]; omega

set_option maxHeartbeats 1000000 in
theorem NumsMul_any (a b : Int) (w : World) (ha : -9223372036854775808 ≤ a ∧ a ≤ 9223372036854775807) (hb : -9223372036854775808 ≤ b ∧ b ≤ 9223372036854775807) :
    Calls Tryd.prog 44 #[.int .i64 a, .int .i64 b] w fun e w' => ∃ ev, e = .returned (.tuple #[.int .i64 (tn (a * b)), ev]) ∧ (te txtProduct (a * b)).At w' ev ∧ Below w.heap.size w w' := by
  have hb2 : b.natAbs < 18446744073709551616 := by omega
  have ha2 : a.natAbs < 18446744073709551616 := by omega
  have hpp : a.natAbs * b.natAbs < 18446744073709551616 * 18446744073709551616 := Nat.mul_lt_mul'' ha2 hb2
  have hq : a.natAbs * b.natAbs / 18446744073709551616 < 18446744073709551616 := by omega
  have hr : a.natAbs * b.natAbs % 18446744073709551616 < 18446744073709551616 := Nat.mod_lt _ (by omega)
  have hd : a.natAbs * b.natAbs / 18446744073709551616 * 18446744073709551616 + a.natAbs * b.natAbs % 18446744073709551616 = a.natAbs * b.natAbs := by omega
  have hsg := Signed_any _ _ (decide (a < 0) != decide (b < 0)) (a * b) w hr hq (by rw [hd, prod_abs])
  have HS := Lib.hid hsg
  have HM := Lib.hid (Mul64_any a.natAbs b.natAbs ha2 hb2 w)
  clear hsg hd hr hq hpp
  generalize a.natAbs * b.natAbs / 18446744073709551616 = hi at *
  generalize a.natAbs * b.natAbs % 18446744073709551616 = lo at *
  have Hz1 := Lib.hid (Size_any a w ha)
  have Hz2 := Lib.hid (Size_any b w hb)
  clear ha2 hb2
  generalize a.natAbs = x at *
  generalize b.natAbs = y at *
  generalize a * b = z at *
  go_enter Tryd.func44, Tryd.ntmps44
  go_wp2_with fail
  refine Hz1.out.mono ?_
  rintro e w1 ⟨rfl, rfl⟩
  clear Hz1
  go_wp2_with fail
  refine Hz2.out.mono ?_
  rintro e w2 ⟨rfl, rfl⟩
  clear Hz2
  go_wp2_with fail
  refine HM.out.mono ?_
  rintro e w3 ⟨rfl, rfl⟩
  clear HM
  go_wp2_with fail
  refine HS.out.mono ?_
  rintro e w4 ⟨p, rfl, hp, rfl⟩
  clear HS
  have HP := Lib.hid hp
  clear hp
  by_cases hf : fitB z = true
  · rw [hf] at HP ⊢
    obtain rfl := HP.out rfl
    have HF := Lib.hid hf
    clear hf HP
    go_wp2_with fail
    go_ret2
    exact ⟨.nilIface, by rw [tn_fit HF.out]; rfl, by rw [te_fit HF.out]; rfl, Below.refl _ _⟩
  · have hf' : fitB z = false := by simpa using hf
    rw [hf'] at HP ⊢
    have HF := Lib.hid hf'
    clear hf hf' HP
    go_wp2_with fail
    refine (Over_any txtProduct _).mono ?_
    rintro e w1 ⟨ev, rfl, hv, hb1⟩
    have HV := Lib.hid hv
    clear hv
    go_wp2_with fail
    go_ret2
    exact ⟨ev, by rw [tn_not HF.out]; rfl, by rw [te_not HF.out]; exact HV.out, hb1⟩
end Go.Proofs.YtclbbchljiagpaaDoor
