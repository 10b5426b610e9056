/-
  Contracts of wire.Reader where the bytes suffice: Long, Text, List.
-/
import Derived.Test.YtclbbchljiagpaaDoorWireJ
import Derived.Test.YtclbbchljiagpaaDoorPermB
namespace Go.Proofs.YtclbbchljiagpaaDoor
open Go.RowKit
set_option maxRecDepth 100000
set_option linter.unusedVariables false

theorem bits_or_u64 (a b : Nat) (ha : a < 18446744073709551616) (hb : b < 18446744073709551616) : bits .or .u64 (a : Int) (b : Int) = ((a ||| b : Nat) : Int) := by
  have h1 : (BitVec.ofInt 64 (a : Int) ||| BitVec.ofInt 64 (b : Int)).toNat = a ||| b := by
    rw [BitVec.toNat_or, BitVec.ofInt_natCast, BitVec.ofInt_natCast, BitVec.toNat_ofNat, BitVec.toNat_ofNat, Nat.mod_eq_of_lt (by omega), Nat.mod_eq_of_lt (by omega)]
  have h2 : a ||| b < 2 ^ 64 := Nat.or_lt_two_pow (by omega) (by omega)
  show IntKind.u64.wrap (((BitVec.ofInt 64 (a : Int) ||| BitVec.ofInt 64 (b : Int)).toNat : Nat) : Int) = _
  rw [h1]
  exact IntWalk.u64_in _ (by omega)
theorem or_long (a b : Nat) (ha : a < 4294967296) (hb : b < 4294967296) : bits .or .u64 ((a : Int) * 4294967296) (b : Int) = ((a * 4294967296 + b : Nat) : Int) := by
  have := bits_or_u64 (a * 4294967296) b (by omega) (by omega)
  rw [or_join a b 32 (by omega)] at this
  rw [show (a : Int) * 4294967296 = ((a * 4294967296 : Nat) : Int) by omega]
  exact this
/-- A long one, out of two words. -/
def longZ (l : List Int) : Int := wrap64 ((wordN l * 4294967296 + wordN (l.drop 4) : Nat) : Int)

set_option maxHeartbeats 4000000 in
theorem Long_okA (g B : Nat) (A : Option Addr) (n c a : Nat) (l : List Int) (w : World) (hR : Rd w B g A n c a .nil) (hm : a + 8 ≤ n) (hn : n ≤ 1099511627776) (hnc : n ≤ c) (hc9 : c ≤ 9223372036854775807) (hl : l.length = n) (hb : Bys l) (hB : ∀ w', Below B w w' → Sl w' 1 A n (l.map (Value.int .u8))) :
    Calls Tryd.prog 32 #[.pointer (some ⟨g, 0, none⟩)] w fun e w' => e = .returned (.int .i64 (longZ (l.drop a))) ∧ Rd w' B g A n c (a + 8) .nil ∧ Below B w w' ∧ Asd g w w' := by
  obtain ⟨hc0, hc1⟩ := rd_cells hR
  have HT := Lib.hid (take_ok g B A n c a 8 a l w hR hm (by omega) hn hnc hc9 (hB w (Below.refl _ _)) hB)
  have hw1 : wordN ((l.drop a).take 8) = wordN (l.drop a) := by
    rw [← wordN_take (l := (l.drop a).take 8) (by rw [List.length_take, List.length_drop]; omega), List.take_take, Nat.min_eq_left (by omega), wordN_take (by rw [List.length_drop]; omega)]
  have hw2 : wordN (((l.drop a).take 8).drop 4) = wordN ((l.drop a).drop 4) := by
    rw [List.drop_take, wordN_take (by rw [List.length_drop, List.length_drop]; omega)]
  have h1 := wordN_lt (hb.drop a)
  have h2 := wordN_lt ((hb.drop a).drop 4)
  have HA1 := Lib.hid (fun W (C : Addr) k (h : Sl W 1 (some C) 8 (((l.drop a).take 8).map (Value.int .u8))) => wordAt_any ((l.drop a).take 8) (some C) 8 k W (by rw [List.length_take, List.length_drop]; omega) (by omega) ((hb.drop a).take 8) h)
  have HA2 := Lib.hid (fun W b off k (h : Sl W 1 (some ⟨b, off, none⟩) 8 (((l.drop a).take 8).map (Value.int .u8))) => wordAt_any (((l.drop a).take 8).drop 4) (some ⟨b, off + 4, none⟩) 4 k W (by rw [List.length_drop, List.length_take, List.length_drop]; omega) (by omega) (((hb.drop a).take 8).drop 4) (by rw [List.map_drop]; exact h.drop (by omega)))
  have HZ := Lib.hid (show longZ (l.drop a) = wrap64 ((wordN (l.drop a) * 4294967296 + wordN ((l.drop a).drop 4) : Nat) : Int) from rfl)
  rw [hw1] at HA1
  rw [hw2] at HA2
  have HOr := Lib.hid (or_long _ _ h1 h2)
  clear hR hB hb hw1 hw2
  generalize wordN (l.drop a) = N1 at *
  generalize wordN ((l.drop a).drop 4) = N2 at *
  go_enter Tryd.func32, Tryd.ntmps32
  go_wp2_with fail
  refine HT.out.mono ?_
  rintro e w1 ⟨C, k, rfl, hk, hs1, hR1, hb1, ha1⟩
  have hS := hs1 w1 hb1
  obtain ⟨b, off, hA, _⟩ := hS.2 (by omega)
  cases hA
  have HS := Lib.hid hS
  have HR1 := Lib.hid hR1
  have HB1 := Lib.hid hb1
  have HD1 := Lib.hid ha1
  have nn := fun w k => nilEq w (some ⟨b, off, none⟩) 8 k
  have hk4 : ¬ k = 4 := by omega
  have hk8 : (8 : Int) ≤ k := by omega
  clear hs1 hR1 hb1 ha1 HT hS
  go_wp2_with fail
  go_quiet (first | (go_at_call_of 65 (Value.slice (some ⟨b, off, none⟩) 8 k); exact Calls.quiet_of (HA1.out _ _ _ HS.out)) | (go_at_call 65; exact Calls.quiet_of (HA2.out _ _ _ _ HS.out)))
  obtain ⟨w2, hw2⟩ : ∃ w2, w2 = w1.drewN nq := ⟨_, rfl⟩
  rw [← hw2]
  have HQ := Lib.hid (drew_bel ⟨nq, hw2⟩)
  clear hw2
  go_wp2_with fail
  go_ret
  exact ⟨ret_int (by rw [HZ.out, ← HOr.out]), HR1.out.keep HQ.out, HB1.out.trans (HQ.out.mono (Nat.le_trans HR1.out.1 (Nat.le_of_lt (by obtain ⟨_, _, _, _, h, _⟩ := HR1.out; exact h.lt)))), HD1.out.trans (Asd.of HQ.out)⟩

theorem Long_ok (g B : Nat) (A : Option Addr) (n c a : Nat) (l : List Int) (w : World) (hR : Rd w B g A n c a .nil) (hm : a + 8 ≤ n) (hn : n ≤ 1099511627776) (hnc : n ≤ c) (hc9 : c ≤ 9223372036854775807) (hl : l.length = n) (hb : Bys l) (hB : ∀ w', Below B w w' → Sl w' 1 A n (l.map (Value.int .u8))) :
    Calls Tryd.prog 32 #[.pointer (some ⟨g, 0, none⟩)] w fun e w' => e = .returned (.int .i64 (longZ (l.drop a))) ∧ Rd w' B g A n c (a + 8) .nil ∧ Below B w w' :=
  (Long_okA g B A n c a l w hR hm hn hnc hc9 hl hb hB).mono fun e w' ⟨h1, h2, h3, _⟩ => ⟨h1, h2, h3⟩
end Go.Proofs.YtclbbchljiagpaaDoor
