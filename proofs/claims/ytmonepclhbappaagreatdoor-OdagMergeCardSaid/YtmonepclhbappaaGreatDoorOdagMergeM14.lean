/-
  Part 14 of the proof of OdagMerge: WireB, WireC, WireD, First, WireE, WrK, WireJ.
-/
import Derived.Test.YtmonepclhbappaaGreatDoorOdagMergeM7
import Derived.Test.YtmonepclhbappaaGreatDoorOdagMergeM13
import Derived.Test.YtmonepclhbappaaGreatDoorOdagMergeM2
import Derived.Deep.DeepCutAuto
import Derived.BigQuiet
import Derived.Deep.QuietTactic
import Derived.ArgAppend
import Derived.Lib.SmallJoins
import Derived.Laws.BytesArg
import Derived.Lib.Strings
import Derived.Deep.RegionLaw
import Derived.Lib.AppendStr
import Derived.Deep.RegionWith
import Derived.WalkSpells
/-
  Contracts: wire.word, wordAt, Sum; the document's Word, Sum, Same (bytes).
-/
namespace Go.Proofs.YtmonepclhbappaaGreatDoor
open Go.RowKit
set_option maxRecDepth 100000

theorem elemByte : Elem Tryz.prog 26 5 (.int .u8 0) 1 1 := ⟨Tryz.underlying26, by kernel_rfl, rfl, by decide⟩
theorem wordL_map (k : Nat) : (wordL k).map (Value.int .u8) = [.int .u8 ((k / 16777216 % 256 : Nat) : Int), .int .u8 ((k / 65536 % 256 : Nat) : Int), .int .u8 ((k / 256 % 256 : Nat) : Int), .int .u8 ((k % 256 : Nat) : Int)] := rfl

theorem or_join (a b s : Nat) (hb : b < 2 ^ s) : (a * 2 ^ s ||| b) = a * 2 ^ s + b := by
  rw [← Nat.shiftLeft_eq, Nat.shiftLeft_add_eq_or_of_lt hb]
theorem bits_or_u32 (a b : Nat) (ha : a < 4294967296) (hb : b < 4294967296) : bits .or .u32 (a : Int) (b : Int) = ((a ||| b : Nat) : Int) := by
  have h1 : (BitVec.ofInt 32 (a : Int) ||| BitVec.ofInt 32 (b : Int)).toNat = a ||| b := by
    rw [BitVec.toNat_or, BitVec.ofInt_natCast, BitVec.ofInt_natCast, BitVec.toNat_ofNat, BitVec.toNat_ofNat, Nat.mod_eq_of_lt (by omega), Nat.mod_eq_of_lt (by omega)]
  have h2 : a ||| b < 2 ^ 32 := Nat.or_lt_two_pow (by omega) (by omega)
  show IntKind.u32.wrap (((BitVec.ofInt 32 (a : Int) ||| BitVec.ofInt 32 (b : Int)).toNat : Nat) : Int) = _
  rw [h1]
  exact IntWalk.u32_in _ (by omega)
theorem or_sum (y x : Nat) (hy : y < 65521) (hx : x < 65521) : bits .or .u32 ((y : Int) * 65536) (x : Int) = ((y * 65536 + x : Nat) : Int) := by
  have := bits_or_u32 (y * 65536) x (by omega) (by omega)
  rw [or_join y x 16 (by omega)] at this
  rw [show (y : Int) * 65536 = ((y * 65536 : Nat) : Int) by omega]
  exact this
theorem or_word (a b c d : Nat) (ha : a < 256) (hb : b < 256) (hc : c < 256) (hd : d < 256) :
    bits .or .u32 (bits .or .u32 (bits .or .u32 ((a : Int) * 16777216) ((b : Int) * 65536)) ((c : Int) * 256)) (d : Int) = ((a * 16777216 + b * 65536 + c * 256 + d : Nat) : Int) := by
  have e1 := bits_or_u32 (a * 16777216) (b * 65536) (by omega) (by omega)
  have o1 := or_join a (b * 65536) 24 (by omega)
  rw [show (2 : Nat) ^ 24 = 16777216 from rfl] at o1
  rw [o1] at e1
  have e2 := bits_or_u32 (a * 16777216 + b * 65536) (c * 256) (by omega) (by omega)
  have o2 := or_join (a * 256 + b) (c * 256) 16 (by omega)
  rw [show (2 : Nat) ^ 16 = 65536 from rfl, show (a * 256 + b) * 65536 = a * 16777216 + b * 65536 by omega] at o2
  rw [o2] at e2
  have e3 := bits_or_u32 (a * 16777216 + b * 65536 + c * 256) d (by omega) (by omega)
  have o3 := or_join (a * 65536 + b * 256 + c) d 8 (by omega)
  rw [show (2 : Nat) ^ 8 = 256 from rfl, show (a * 65536 + b * 256 + c) * 256 = a * 16777216 + b * 65536 + c * 256 by omega] at o3
  rw [o3] at e3
  rw [show (a : Int) * 16777216 = ((a * 16777216 : Nat) : Int) by omega, show (b : Int) * 65536 = ((b * 65536 : Nat) : Int) by omega, show (c : Int) * 256 = ((c * 256 : Nat) : Int) by omega, e1, e2, e3]

set_option maxHeartbeats 1000000 in
theorem word_own (k : Nat) (hk : k < 4294967296) (l : List Int) (v : Value) (n B : Nat) (w : World) (hn : l.length = n) (hown : w.ownsRow B 5 1 v n (l.map (Value.int .u8))) (hB : B ≤ w.heap.size) (hl : n ≤ 1099511627776) :
    Calls Tryz.prog 102 #[v, .int .u32 k] w fun e w' => ∃ v', e = .returned v' ∧ w'.ownsRow B 5 1 v' (n + 4) ((l ++ wordL k).map (Value.int .u8)) ∧ Gr w w' v v' := by
  have hw : [Value.int .u8 ((k : Int) / 16777216), .int .u8 ((k : Int) / 65536 % 256), .int .u8 ((k : Int) / 256 % 256), .int .u8 ((k : Int) % 256)] = (wordL k).map (Value.int .u8) := by
    rw [wordL_map, show ((k / 16777216 % 256 : Nat) : Int) = (k : Int) / 16777216 by omega, show ((k / 65536 % 256 : Nat) : Int) = (k : Int) / 65536 % 256 by omega, show ((k / 256 % 256 : Nat) : Int) = (k : Int) / 256 % 256 by omega, show ((k % 256 : Nat) : Int) = (k : Int) % 256 by omega]
  have HW := Lib.hid hw
  clear hw
  go_enter Tryz.func102, Tryz.ntmps102
  go_wp2_with (at_builtin; refine wpList_cat_at elemByte _ _ rfl rfl (hown.alloc _) (by simp; omega) (Sl.newAt w _ _ 4 rfl) rfl rfl (by simp [Value.oneCell']) (by unfold lim; omega) (by unfold lim; omega) ?_; intro v' w5 hown1 hgr)
  go_ret
  rw [HW.out] at hown1
  exact ⟨v', rfl, by rw [List.map_append]; exact hown1, hgr.after_alloc⟩

set_option maxHeartbeats 1000000 in
theorem wordAt_any (l : List Int) (A : Option Addr) (n c : Nat) (w : World) (hl : l.length = n) (h4 : 4 ≤ n) (hb : Bys l) (hs : Sl w 1 A n (l.map (Value.int .u8))) :
    Calls Tryz.prog 94 #[.slice A n c] w fun e w' => e = .returned (.int .u32 (wordN l : Nat)) ∧ ∃ m, w' = w.drewN m := by
  obtain ⟨a, b, c', d, h4', he⟩ := four (l := l) (by omega)
  obtain ⟨g, off, rfl, hc⟩ := hs.2 (by omega)
  have c0 := hc 0 (.int .u8 a) (by rw [he]; rfl)
  have c1 := hc 1 (.int .u8 b) (by rw [he]; rfl)
  have c2 := hc 2 (.int .u8 c') (by rw [he]; rfl)
  have c3 := hc 3 (.int .u8 d) (by rw [he]; rfl)
  have b0 := hb a (by rw [he]; simp)
  have b1 := hb b (by rw [he]; simp)
  have b2 := hb c' (by rw [he]; simp)
  have b3 := hb d (by rw [he]; simp)
  rw [Nat.add_zero] at c0
  have HW := Lib.hid (show wordN l = a.toNat * 16777216 + b.toNat * 65536 + c'.toNat * 256 + d.toNat by rw [he]; rfl)
  clear hc hs he h4' hb
  obtain ⟨a, rfl⟩ := Int.eq_ofNat_of_zero_le b0.1
  obtain ⟨b, rfl⟩ := Int.eq_ofNat_of_zero_le b1.1
  obtain ⟨c', rfl⟩ := Int.eq_ofNat_of_zero_le b2.1
  obtain ⟨d, rfl⟩ := Int.eq_ofNat_of_zero_le b3.1
  have HO := Lib.hid (or_word a b c' d (by omega) (by omega) (by omega) (by omega))
  have g0 : (0 : Int) < n := by omega
  have g1 : (1 : Int) < n := by omega
  have g2 : (2 : Int) < n := by omega
  have g3 : (3 : Int) < n := by omega
  go_enter Tryz.func94, Tryz.ntmps94
  go_wp2_with fail
  go_quiet (fail)
  go_wp2_with fail
  go_ret
  exact ⟨ret_int (by rw [HO.out, HW.out]; rfl), nq, rfl⟩

set_option maxHeartbeats 1000000 in
theorem RefWord_any (k : Nat) (hk : k < 4294967296) (w : World) :
    Calls Tryz.prog 97 #[.int .i64 k] w fun e w' => ∃ A c, e = .returned (.slice A 4 c) ∧ Sl w' 1 A 4 ((wordL k).map (Value.int .u8)) ∧ Below w.heap.size w w' := by
  have hw : [Value.int .u8 ((k : Int) / 16777216 % 256), .int .u8 ((k : Int) / 65536 % 256), .int .u8 ((k : Int) / 256 % 256), .int .u8 ((k : Int) % 256)] = (wordL k).map (Value.int .u8) := by
    rw [wordL_map, show ((k / 16777216 % 256 : Nat) : Int) = (k : Int) / 16777216 % 256 by omega, show ((k / 65536 % 256 : Nat) : Int) = (k : Int) / 65536 % 256 by omega, show ((k / 256 % 256 : Nat) : Int) = (k : Int) / 256 % 256 by omega, show ((k % 256 : Nat) : Int) = (k : Int) % 256 by omega]
  have HW := Lib.hid hw
  clear hw
  go_enter Tryz.func97, Tryz.ntmps97
  go_wp2_with fail
  go_ret
  refine ⟨_, _, rfl, ?_, bel_al (Below.refl _ _) _⟩
  rw [← HW.out]
  exact Sl.newAt w _ _ 4 rfl

set_option maxHeartbeats 1000000 in
theorem Same_any (p q : List Int) (A B : Option Addr) (n m c d : Nat) (w : World) (hl : p.length = n) (hm : q.length = m) (hs : Sl w 1 A n (p.map (Value.int .u8))) (ht : Sl w 1 B m (q.map (Value.int .u8))) (hn : n ≤ 9223372036854775807) :
    Calls Tryz.prog 19 #[.slice A n c, .slice B m d] w fun e w' => e = .returned (.bool (decide (p = q))) ∧ Below w.heap.size w w' := by
  go_enter Tryz.func19, Tryz.ntmps19
  by_cases hnm : n = m
  · subst hnm
    go_wp2
    go_loopw [5] (fun i wr => ∃ k : Nat, k ≤ n ∧ i = .int .i64 k ∧ p.take k = q.take k ∧ Below w.heap.size w wr) (fun i _ => n - (intOf i).toNat)
    case atStart => exact ⟨0, Nat.zero_le _, rfl, rfl, Below.refl _ _⟩
    case round =>
      obtain ⟨k, hk, rfl, heq, hb⟩ := hrel
      by_cases hlt : k < n
      · have hj : k < p.length := by omega
        have hj' : k < q.length := by omega
        obtain ⟨b, off, u, rfl, e1, c1⟩ := (hs.keep hb).one hlt
        obtain ⟨b', off', u', rfl, e2, c2⟩ := (ht.keep hb).one hlt
        rw [List.getElem?_map, List.getElem?_eq_getElem hj] at e1
        rw [List.getElem?_map, List.getElem?_eq_getElem hj'] at e2
        obtain rfl := Option.some.inj e1
        obtain rfl := Option.some.inj e2
        have HT := Lib.hid (List.take_succ_eq_append_getElem hj)
        have HT' := Lib.hid (List.take_succ_eq_append_getElem hj')
        have HE := Lib.hid heq
        have HP := Lib.hid (fun h : p = q => (by subst h; rfl : p[k] = q[k]))
        generalize p[k] = x at *
        generalize q[k] = y at *
        clear e1 e2 heq hs ht
        by_cases hxy : x = y
        · subst hxy
          go_wp2_with fail
          go_quiet (fail)
          go_wp2_with fail
          go_roundw
          case rel => exact ⟨k + 1, by omega, by go_num, by rw [HT.out, HT'.out, HE.out], bel_drewN hb _⟩
          case measure => simp [intOf]; omega
        · have hb1 : (x == y) = false := by simpa using hxy
          go_wp2_with fail
          go_quiet (fail)
          go_wp2_with fail
          go_ret
          exact ⟨ret_bool (decide_eq_false (fun h => hxy (HP.out h))).symm, bel_drewN hb _⟩
      · obtain rfl : k = n := by omega
        rw [List.take_of_length_le (by omega), List.take_of_length_le (by omega)] at heq
        have HE := Lib.hid heq
        clear heq hs ht
        go_wp2
        go_ret
        exact ⟨ret_bool (decide_eq_true HE.out).symm, hb⟩
  · have hne : p ≠ q := fun h => hnm (by rw [← hl, ← hm, h])
    have HN := Lib.hid hne
    have hb1 : ((n : Int) == (m : Int)) = false := by simp; omega
    clear hne hs ht
    go_wp2
    go_ret
    exact ⟨ret_bool (decide_eq_false HN.out).symm, Below.refl _ _⟩
end Go.Proofs.YtmonepclhbappaaGreatDoor
/-
  Contracts: wire.Pack, Unpack; the document's Parcel.
-/
namespace Go.Proofs.YtmonepclhbappaaGreatDoor
open Go.RowKit
set_option maxRecDepth 100000

def txtMark : ByteArray := ⟨#[109, 97, 114, 107]⟩
def txtParcel : ByteArray := ⟨#[112, 97, 114, 99, 101, 108]⟩
/-- The error that a parcel's fault makes. -/
def unE (l : List Int) : Err := match unW l with
  | 0 => .nil
  | 1 => .flt 2 0 txtMark
  | 4 => .flt 2 0 txtParcel
  | 5 => .flt 8 0 txtParcel
  | _ => .flt 9 0 txtParcel
def unK (l : List Int) : Int := if unW l = 0 then l.getD 4 0 else 0
def unB (l : List Int) : List Int := if unW l = 0 then (l.drop 9).take (wordN (l.drop 5)) else []

theorem mark_test {l : List Int} (hb : Bys l) (h4 : 4 ≤ l.length) : ((strOfNums (l.take 4)).toList == [70, 87, 82, 75]) = decide (l.take 4 = fwrk) := by
  obtain ⟨a, b, c, d, e, he⟩ := four h4
  have h1 := hb a (by rw [he]; simp)
  have h2 := hb b (by rw [he]; simp)
  have h3 := hb c (by rw [he]; simp)
  have h5 := hb d (by rw [he]; simp)
  rw [Lib.toList_data, strOfNums_data, e]
  have hu : ∀ (x : Int) (k : Nat), 0 ≤ x ∧ x ≤ 255 → k < 256 → ((UInt8.ofNat x.toNat = UInt8.ofNat k) ↔ x = k) := by
    intro x k hx hk
    rw [← UInt8.toNat_inj, UInt8.toNat_ofNat', UInt8.toNat_ofNat', Nat.mod_eq_of_lt (by omega), Nat.mod_eq_of_lt (by omega)]
    omega
  have e1 := hu a 70 h1 (by omega)
  have e2 := hu b 87 h2 (by omega)
  have e3 := hu c 82 h3 (by omega)
  have e4 := hu d 75 h5 (by omega)
  rw [show ([70, 87, 82, 75] : List UInt8) = [UInt8.ofNat 70, UInt8.ofNat 87, UInt8.ofNat 82, UInt8.ofNat 75] from rfl]
  rw [Bool.eq_iff_iff, decide_eq_true_iff, beq_iff_eq]
  simp only [List.map_cons, List.map_nil, fwrk, List.cons.injEq, and_true, e1, e2, e3, e4]
  omega

def UnPost (l : List Int) (w : World) (e : Ending) (w' : World) : Prop :=
  ∃ C k ev, e = .returned (.tuple #[.int .u8 (unK l), .slice C (unB l).length k, ev]) ∧ (unE l).At w' ev ∧ Sl w' 1 C (unB l).length ((unB l).map (Value.int .u8)) ∧ ((unB l).length ≤ k ∧ k ≤ 9223372036854775807) ∧ Below w.heap.size w w'
theorem un_bad {l : List Int} {w w' : World} {c : Int} {t : ByteArray} {ev : Value} (h : unW l ≠ 0) (hE : unE l = .flt c 0 t) (hev : (Err.flt c 0 t).At w' ev) (hb : Below w.heap.size w w') : UnPost l w (.returned (.tuple #[.int .u8 0, .slice none 0 0, ev])) w' := by
  have hk : unK l = 0 := by rw [unK, if_neg h]
  have hB : unB l = [] := by rw [unB, if_neg h]
  refine ⟨none, 0, ev, by rw [hk, hB]; rfl, by rw [hE]; exact hev, by rw [hB]; exact Sl.nil _ _ _, by rw [hB]; exact ⟨Nat.le_refl _, by omega⟩, hb⟩

end Go.Proofs.YtmonepclhbappaaGreatDoor
/-
  The document's Parcel; chapter 03's alive.
-/
namespace Go.Proofs.YtmonepclhbappaaGreatDoor
open Go.RowKit
set_option maxRecDepth 100000

theorem unK_pack (kd : Int) (l : List Int) (h : l.length < 4294967296) : unK (packL kd l) = kd := by
  rw [unK, if_pos (unW_pack kd l h), List.getD_eq_getElem?_getD, (packL_parts kd l).2.2.2.2.1]; rfl
theorem unB_pack (kd : Int) (l : List Int) (h : l.length < 4294967296) : unB (packL kd l) = l := by
  rw [unB, if_pos (unW_pack kd l h), (packL_parts kd l).2.1, wordN_of h, (packL_parts kd l).2.2.2.2.2]
theorem unE_pack (kd : Int) (l : List Int) (h : l.length < 4294967296) : unE (packL kd l) = .nil := by rw [unE, unW_pack kd l h]; rfl
theorem unE_nil {l : List Int} (h : unE l = .nil) : unW l = 0 := by
  unfold unE at h
  split at h
  · assumption
  all_goals cases h
theorem unE_bad {l : List Int} (h : unW l ≠ 0) : unE l ≠ .nil := fun e => h (unE_nil e)

end Go.Proofs.YtmonepclhbappaaGreatDoor
/-
  Errors and their values, one by one; contract of fault.First.
-/
namespace Go.Proofs.YtmonepclhbappaaGreatDoor
open Go.RowKit

def Err.first : List Err → Err
  | [] => .nil
  | .nil :: l => Err.first l
  | e :: _ => e
theorem Err.first_cons {E : Err} (h : E ≠ .nil) (l : List Err) : Err.first (E :: l) = E := by cases E <;> first | exact absurd rfl h | rfl

/-- Errors and their values, one by one. -/
def Err.AtAll (w : World) : List Err → List Value → Prop
  | [], vs => vs = []
  | E :: Es, vs => ∃ v vs', vs = v :: vs' ∧ E.At w v ∧ Err.AtAll w Es vs'
theorem Err.AtAll.len {w : World} : ∀ {Es : List Err} {vs : List Value}, Err.AtAll w Es vs → vs.length = Es.length
  | [], _, h => by rw [show _ = [] from h]; rfl
  | _ :: _, _, ⟨_, _, h1, _, h3⟩ => by rw [h1, List.length_cons, List.length_cons, h3.len]
theorem Err.AtAll.at_ {w : World} : ∀ {Es : List Err} {vs : List Value}, Err.AtAll w Es vs → ∀ (k : Nat) (E : Err), Es[k]? = some E → ∃ v, vs[k]? = some v ∧ E.At w v
  | [], _, _, k, E, h => by simp at h
  | _ :: _, _, ⟨v, _, h1, h2, _⟩, 0, E, h => by
    simp at h
    subst h
    exact ⟨v, by rw [h1]; rfl, h2⟩
  | _ :: _, _, ⟨_, _, h1, _, h3⟩, k + 1, E, h => by
    obtain ⟨v, hv, hE⟩ := h3.at_ k E (by simpa using h)
    exact ⟨v, by rw [h1]; simpa using hv, hE⟩
theorem Err.AtAll.keep {w w' : World} (hb : Below w.heap.size w w') : ∀ {Es : List Err} {vs : List Value}, Err.AtAll w Es vs → Err.AtAll w' Es vs
  | [], _, h => h
  | _ :: _, _, ⟨v, vs', h1, h2, h3⟩ => ⟨v, vs', h1, h2.keep hb, h3.keep hb⟩

set_option maxHeartbeats 1000000 in
theorem First_any (Es : List Err) (vs : List Value) (A : Option Addr) (n c : Nat) (w : World) (hn : n ≤ 4294967296) (hl : Es.length = n) (hE : Err.AtAll w Es vs) (hs : Sl w 1 A n vs) :
    Calls Tryz.prog 101 #[.slice A n c] w fun e w' => ∃ v', e = .returned v' ∧ (Err.first Es).At w v' ∧ w = w' := by
  go_enter Tryz.func101, Tryz.ntmps101
  go_wp2
  go_loop [7] (fun i => ∃ k : Nat, k ≤ n ∧ i = .int .i64 k ∧ Hid (Err.first Es = Err.first (Es.drop k))) (fun i => n - (intOf i).toNat)
  case atStart => exact ⟨0, Nat.zero_le _, rfl, rfl⟩
  case round =>
    obtain ⟨k, hk, rfl, HF⟩ := hrel
    by_cases hlt : k < n
    · have hl' : k < Es.length := by omega
      obtain ⟨b, off, u, rfl, e1, c1⟩ := hs.one hlt
      obtain ⟨v, e2, hv⟩ := hE.at_ k Es[k] (List.getElem?_eq_getElem hl')
      obtain rfl : u = v := Option.some.inj (e1.symm.trans e2)
      have HD := Lib.hid (List.drop_eq_getElem_cons hl')
      have HV := Lib.hid hv
      clear e1 e2 hE hs hl
      by_cases hz : Es[k] = .nil
      · rw [hz] at hv
        obtain rfl : u = .nilIface := hv
        have HZ := Lib.hid hz
        clear hz
        go_wp2
        go_round
        case rel => exact ⟨k + 1, by omega, by go_num, by show _ = _; rw [HF.out, HD.out, HZ.out]; rfl⟩
        case measure => simp [intOf]; omega
      · obtain ⟨T, x, rfl⟩ := Err.At.iface_ hv hz
        have HZ := Lib.hid hz
        clear hv hz
        go_wp2
        go_ret
        exact ⟨_, rfl, by rw [HF.out, HD.out, Err.first_cons HZ.out]; exact HV.out, rfl⟩
    · have HD := Lib.hid (show Es.drop k = [] from List.drop_eq_nil_of_le (by omega))
      clear hl hE hs
      go_wp2
      go_ret
      exact ⟨_, rfl, by rw [HF.out, HD.out]; rfl, rfl⟩
end Go.Proofs.YtmonepclhbappaaGreatDoor
/-
  Contracts of wire.Writer: Num, Long, Text, List, Bytes, Err.
-/
namespace Go.Proofs.YtmonepclhbappaaGreatDoor
open Go.RowKit
set_option maxRecDepth 100000
set_option linter.unusedVariables false

/-- An error without steps. -/
def Err.flat : Err → Prop
  | .nil => True
  | .flt _ _ _ => True
  | _ => False
theorem Err.At.far {w w' : World} : ∀ {E : Err} {v : Value}, E.flat → E.At w v → (∀ g cs, Blk w g 107 cs → Blk w' g 107 cs) → E.At w' v
  | .nil, _, _, h, _ => h
  | .flt _ _ _, _, _, ⟨g, h1, h2⟩, hk => ⟨g, h1, hk g _ h2⟩
  | .step _ _, _, hf, _, _ => hf.elim
  | .txt _, _, hf, _, _ => hf.elim
theorem Err.first2_flat {c a : Int} {s : ByteArray} : ∀ {E : Err}, E.flat → (Err.first [E, .flt c a s]).flat
  | .nil, _ => trivial
  | .flt _ _ _, _ => trivial
  | .step _ _, h => h.elim
  | .txt _, h => h.elim

theorem Err.first2_ne {c a : Int} {s : ByteArray} : ∀ {E : Err}, Err.first [E, .flt c a s] ≠ .nil
  | .nil => fun h => by cases h
  | .flt _ _ _ => fun h => by cases h
  | .step _ _ => fun h => by cases h
  | .txt _ => fun h => by cases h

def txtNumber : ByteArray := ⟨#[110, 117, 109, 98, 101, 114]⟩
/-- A writer at block g: what it has put, and its first error; its bytes lie in a row of the caller's own. -/
def Wr (w : World) (B g : Nat) (bs : List Int) (E : Err) : Prop :=
  B ≤ g ∧ E.flat ∧ ∃ bv ev, Blk w g 91 #[bv, ev] ∧ w.ownsRow B 5 1 bv bs.length (bs.map (Value.int .u8)) ∧ E.At w ev
theorem own_farBlk {w : World} {B g size n i : Nat} {t e : TypeId} {cs : Array Value} {v : Value} {xs : List Value} (h : w.ownsRow B e size v n xs) (hb : Blk w g t cs) (hne : t ≠ e) (u : Value) : (w.setCell ⟨g, i, none⟩ u).ownsRow B e size v n xs :=
  own_block h fun g' hg' => heap_setCell_other w ⟨g, i, none⟩ g' u (fun e' => own_notBlk h hb hne (by rw [hg', e']))
theorem blk_farBlk {w : World} {g g' i : Nat} {t t' : TypeId} {cs cs' : Array Value} (h : Blk w g' t' cs') (hb : Blk w g t cs) (hne : t ≠ t') (u : Value) : Blk (w.setCell ⟨g, i, none⟩ u) g' t' cs' :=
  h.far (p := ⟨g, i, none⟩) (fun e => by
    have e : g' = g := e
    subst e
    unfold Blk at h hb
    rw [h] at hb
    injection hb with hb
    injection hb with _ h3
    exact hne h3.symm) u
/-- The row is turned into another one that grew out of it. -/
theorem Wr.turn {w w' : World} {B g : Nat} {bs bs' : List Int} {E : Err} {bv bv' ev : Value} (hB : B ≤ g) (hE : E.flat) (hb : Blk w g 91 #[bv, ev]) (hown : w.ownsRow B 5 1 bv bs.length (bs.map (Value.int .u8))) (he : E.At w ev)
    (hg : w.grownBy w' bv.ownBlock) (hown' : w'.ownsRow B 5 1 bv' bs'.length (bs'.map (Value.int .u8))) : Wr (w'.setCell ⟨g, 0, none⟩ bv') B g bs' E := by
  have hb' : Blk w' g 91 #[bv, ev] := hb.others hown hg (by decide)
  refine ⟨hB, hE, bv', ev, ?_, own_farBlk hown' hb' (by decide) _, he.far hE fun g' cs h => blk_farBlk (h.others hown hg (by decide)) hb' (by decide) _⟩
  have := hb'.set_ 0 bv'
  simpa using this
theorem Wr.keep {w w' : World} {B g : Nat} {bs : List Int} {E : Err} (h : Wr w B g bs E) (hb : Below w.heap.size w w') : Wr w' B g bs E := by
  obtain ⟨h1, h2, bv, ev, h3, h4, h5⟩ := h
  exact ⟨h1, h2, bv, ev, h3.keep hb, own_below h4 (fun g hg => (h4.lt g hg).2) hb, h5.keep hb⟩

/-- What is put, and the first error. -/
abbrev St := List Int × Err
def fits (z : Int) : Prop := 0 ≤ z ∧ z ≤ 4294967295
instance (z : Int) : Decidable (fits z) := by unfold fits; exact inferInstance
def pNum (z : Int) (st : St) : St := if fits z then (st.1 ++ wordL z.toNat, st.2) else (st.1 ++ wordL 0, Err.first [st.2, .flt 3 st.1.length txtNumber])
theorem pNum_len (z : Int) (st : St) : (pNum z st).1.length = st.1.length + 4 := by unfold pNum; split <;> simp [wordL]
theorem pNum_flat (z : Int) {st : St} (h : st.2.flat) : (pNum z st).2.flat := by
  unfold pNum; split
  · exact h
  · exact Err.first2_flat h

set_option maxHeartbeats 2000000 in
theorem Num_fits (k : Nat) (hk : k < 4294967296) (g B : Nat) (bs : List Int) (E : Err) (w : World) (hW : Wr w B g bs E) (hl : bs.length ≤ 1099511627776) :
    Calls Tryz.prog 66 #[.pointer (some ⟨g, 0, none⟩), .int .i64 k] w fun e w' => e = .returned (.tuple #[]) ∧ Wr w' B g (bs ++ wordL k) E ∧ Below B w w' := by
  obtain ⟨hBg, hE, bv, ev, hb, hown, he⟩ := hW
  have hBw : B ≤ w.heap.size := Nat.le_trans hBg (Nat.le_of_lt hb.lt)
  have hc0 := hb.cell 0
  simp at hc0
  have HW := Lib.hid (word_own k hk bs bv bs.length B w rfl hown hBw hl)
  have HBk := Lib.hid hb
  have HO := Lib.hid hown
  have HE := Lib.hid he
  clear hb hown he
  go_enter Tryz.func66, Tryz.ntmps66
  go_wp2_with fail
  refine HW.out.mono ?_
  rintro e w1 ⟨v', rfl, hown1, hgr⟩
  obtain ⟨g1, c1, rfl, _⟩ := own_form hown1 (by omega)
  have hb1 := hgr.blkOwn HBk.out HO.out (by decide)
  have hcell := hb1.cell 0
  simp at hcell
  have hfr := hb1.frozen 0
  have HT := Lib.hid (Wr.turn (bs' := bs ++ wordL k) hBg hE HBk.out HO.out HE.out hgr.g (by rw [List.length_append, wordL_len]; exact hown1))
  have HB1 := Lib.hid (hgr.belowOwn hBw HO.out)
  clear hown1 hgr hb1 HW
  go_wp2_with fail
  go_end0
  exact ⟨rfl, HT.out, HB1.out.setCell (p := ⟨g, 0, none⟩) hBg _⟩

end Go.Proofs.YtmonepclhbappaaGreatDoor
/-
  Contracts of wire.Writer: Num, List where all fits: rows of other cells are left be.
-/
namespace Go.Proofs.YtmonepclhbappaaGreatDoor
open Go.RowKit
set_option maxRecDepth 100000
set_option linter.unusedVariables false

/-- All is left be but cells of bytes and of writers. -/
def okO (o : Obj) : Prop := ∀ cs t fr, o = .cells cs t fr → t ≠ 5 ∧ t ≠ 91
def WkT (w w' : World) : Prop := w.heap.size ≤ w'.heap.size ∧ ∀ (k : Nat) (o : Obj), okO o → w.heap[k]? = some o → w'.heap[k]? = some o
theorem WkT.refl (w : World) : WkT w w := ⟨Nat.le_refl _, fun _ _ _ h => h⟩
theorem WkT.trans {a b c : World} (h : WkT a b) (k : WkT b c) : WkT a c := ⟨Nat.le_trans h.1 k.1, fun i o ho hi => k.2 i o ho (h.2 i o ho hi)⟩
theorem WkT.of {w w' : World} (h : Below w.heap.size w w') : WkT w w' := ⟨h.size, fun k o _ hk => (h.block k (Array.getElem?_eq_some_iff.1 hk).1).trans hk⟩
theorem WkT.grown {w w' : World} {B n : Nat} {v : Value} {xs : List Value} (hown : w.ownsRow B 5 1 v n xs) (hg : w.grownBy w' v.ownBlock) : WkT w w' := ⟨hg.size, fun k o ho hk => by
  refine (hg.block k (Array.getElem?_eq_some_iff.1 hk).1 fun e => ?_).trans hk
  rcases hown.2 with ⟨rfl, _⟩ | ⟨g, cap, cur, rfl, _, h2, _⟩
  · simp [Value.ownBlock] at e
  · obtain rfl : k = g := by simpa [Value.ownBlock] using e
    rw [h2] at hk
    cases hk
    exact (ho _ _ _ rfl).1 rfl⟩
theorem WkT.set {w : World} {g i : Nat} {cs : Array Value} (hb : Blk w g 91 cs) (u : Value) : WkT w (w.setCell ⟨g, i, none⟩ u) := ⟨by simp, fun k o ho hk => by
  refine (Below.heap_setCell w ⟨g, i, none⟩ u k fun e => ?_).trans hk
  have e' : k = g := e
  subst e'
  unfold Blk at hb
  rw [hb] at hk
  cases hk
  exact (ho _ _ _ rfl).2 rfl⟩
theorem WkT.own {w w' : World} {B size n : Nat} {e : TypeId} {v : Value} {xs : List Value} (h : w.ownsRow B e size v n xs) (hk : WkT w w') (h1 : e ≠ 5) (h2 : e ≠ 91) : w'.ownsRow B e size v n xs := by
  refine ⟨h.1, ?_⟩
  rcases h.2 with h' | ⟨g, cap, cur, rfl, k1, k2, k3⟩
  · exact .inl h'
  · exact .inr ⟨g, cap, cur, rfl, k1, hk.2 g _ (fun cs t fr e => by cases e; exact ⟨h1, h2⟩) k2, k3⟩

set_option maxHeartbeats 2000000 in
theorem Num_K (k : Nat) (hk : k < 4294967296) (g B : Nat) (bs : List Int) (E : Err) (w : World) (hW : Wr w B g bs E) (hl : bs.length ≤ 1099511627776) :
    Calls Tryz.prog 66 #[.pointer (some ⟨g, 0, none⟩), .int .i64 k] w fun e w' => e = .returned (.tuple #[]) ∧ Wr w' B g (bs ++ wordL k) E ∧ Below B w w' ∧ WkT w w' := by
  obtain ⟨hBg, hE, bv, ev, hb, hown, he⟩ := hW
  have hBw : B ≤ w.heap.size := Nat.le_trans hBg (Nat.le_of_lt hb.lt)
  have hc0 := hb.cell 0
  simp at hc0
  have HW := Lib.hid (word_own k hk bs bv bs.length B w rfl hown hBw hl)
  have HBk := Lib.hid hb
  have HO := Lib.hid hown
  have HE := Lib.hid he
  clear hb hown he
  go_enter Tryz.func66, Tryz.ntmps66
  go_wp2_with fail
  refine HW.out.mono ?_
  rintro e w1 ⟨v', rfl, hown1, hgr⟩
  obtain ⟨g1, c1, rfl, _⟩ := own_form hown1 (by omega)
  have hb1 := hgr.blkOwn HBk.out HO.out (by decide)
  have hcell := hb1.cell 0
  simp at hcell
  have hfr := hb1.frozen 0
  have HT := Lib.hid (Wr.turn (bs' := bs ++ wordL k) hBg hE HBk.out HO.out HE.out hgr.g (by rw [List.length_append, wordL_len]; exact hown1))
  have HB1 := Lib.hid (hgr.belowOwn hBw HO.out)
  have HK1 := Lib.hid ((WkT.grown HO.out hgr.g).trans (WkT.set (i := 0) hb1 (.slice (some ⟨g1, 0, none⟩) (bs.length + 4) c1)))
  clear hown1 hgr hb1 HW
  go_wp2_with fail
  go_end0
  exact ⟨rfl, HT.out, HB1.out.setCell (p := ⟨g, 0, none⟩) hBg _, HK1.out⟩
/-- A list in bytes. -/
def encW (l : List Int) : List Int := wordL l.length ++ l.flatMap fun x => wordL x.toNat
theorem encF_len (l : List Int) : (l.flatMap fun x => wordL x.toNat).length = 4 * l.length := by
  induction l with
  | nil => rfl
  | cons x l ih => rw [List.flatMap_cons, List.length_append, ih, wordL_len, List.length_cons]; omega
theorem encW_len (l : List Int) : (encW l).length = 4 + 4 * l.length := by unfold encW; rw [List.length_append, encF_len, wordL_len]
theorem fits_nat {z : Int} (h : fits z) : ∃ k : Nat, z = (k : Int) ∧ k < 4294967296 := ⟨z.toNat, by have := h.1; omega, by have := h.1; have := h.2; omega⟩

set_option maxHeartbeats 2000000 in
theorem List_K (l : List Int) (hr : ∀ x ∈ l, fits x) (A : Option Addr) (n c : Nat) (hn : n ≤ 268435456) (hln : l.length = n) (g B : Nat) (bs : List Int) (E : Err) (w : World)
    (hsB : ∀ w', Below B w w' → WkT w w' → Sl w' 1 A n (l.map (Value.int .i64))) (hW : Wr w B g bs E) (hl : bs.length ≤ 1099511627) :
    Calls Tryz.prog 51 #[.pointer (some ⟨g, 0, none⟩), .slice A n c] w fun e w' => e = .returned (.tuple #[]) ∧ Wr w' B g (bs ++ encW l) E ∧ Below B w w' ∧ WkT w w' := by
  have HN := Lib.hid (Num_K n (by omega) g B bs E w hW (by omega))
  have HSB := Lib.hid hsB
  have HR := Lib.hid hr
  have HL := Lib.hid hl
  clear hW hsB hr hl
  go_enter Tryz.func51, Tryz.ntmps51
  go_wp2_with fail
  refine HN.out.mono ?_
  rintro e w1 ⟨rfl, hW1, hb1, hk1⟩
  have HW1 := Lib.hid hW1
  have HB1 := Lib.hid hb1
  have HK1 := Lib.hid hk1
  clear hW1 hb1 hk1 HN
  go_wp2_with fail
  go_loopw [12] (fun iv wr => ∃ i : Nat, i ≤ n ∧ iv = .int .i64 i ∧ Hid (Wr wr B g (bs ++ wordL n ++ (l.take i).flatMap fun x => wordL x.toNat) E) ∧ Hid (Below B w wr) ∧ Hid (WkT w wr)) (fun iv _ => n - (intOf iv).toNat)
  case atStart => exact ⟨0, Nat.zero_le _, rfl, Lib.hid (by rw [List.take_zero, List.flatMap_nil, List.append_nil]; exact HW1.out), HB1, HK1⟩
  case round =>
    clear HW1 HB1 HK1
    obtain ⟨i, hi, rfl, HWr, HB, HK⟩ := hrel
    by_cases hlt : i < n
    · have hj : i < l.length := by omega
      obtain ⟨b, off, u, rfl, e1, c1⟩ := (HSB.out wr HB.out HK.out).one hlt
      rw [List.getElem?_map, List.getElem?_eq_getElem hj] at e1
      obtain rfl := Option.some.inj e1
      have HT := Lib.hid (List.take_succ_eq_append_getElem hj)
      have hz := HR.out _ (List.getElem_mem hj)
      generalize l[i] = z at *
      obtain ⟨k, rfl, hk⟩ := fits_nat hz
      have HZ := Lib.hid (Num_K k hk g B _ E wr HWr.out (by
        have h1 := encF_len (l.take i)
        rw [List.length_take] at h1
        rw [List.length_append, List.length_append, h1, wordL_len]
        have := HL.out
        omega))
      clear e1 hz
      go_wp2_with fail
      refine HZ.out.mono ?_
      rintro e w2 ⟨rfl, hW2, hb2, hk2⟩
      have HW2 := Lib.hid hW2
      have HB2 := Lib.hid (HB.out.trans hb2)
      have HK2 := Lib.hid (HK.out.trans hk2)
      clear hW2 hb2 hk2 HZ
      go_wp2_with fail
      go_roundw
      case rel => exact ⟨i + 1, by omega, by go_num, Lib.hid (by rw [HT.out, List.flatMap_append, ← List.append_assoc]; simpa using HW2.out), HB2, HK2⟩
      case measure => simp [intOf]; omega
    · obtain rfl : i = n := by omega
      rw [List.take_of_length_le (by omega)] at HWr
      go_wp2_with fail
      go_end0
      refine ⟨rfl, ?_, HB.out, HK.out⟩
      unfold encW
      rw [hln, ← List.append_assoc]
      exact HWr.out
end Go.Proofs.YtmonepclhbappaaGreatDoor
/-
  Contracts of wire.Reader: NewReader, take, num, Num, Long, Left, End; what nobody answers.
-/
namespace Go.Proofs.YtmonepclhbappaaGreatDoor
open Go.RowKit
set_option maxRecDepth 100000
set_option linter.unusedVariables false

def txtBytes : ByteArray := ⟨#[98, 121, 116, 101, 115]⟩
def txtList : ByteArray := ⟨#[108, 105, 115, 116]⟩
/-- A reader at block g, of the bytes at A; how many are taken; its first error. -/
def Rd (w : World) (B g : Nat) (A : Option Addr) (n c a : Nat) (E : Err) : Prop :=
  B ≤ g ∧ E.flat ∧ a ≤ n ∧ ∃ ev, Blk w g 150 #[.slice A n c, .int .i64 a, ev] ∧ E.At w ev
theorem Rd.keep {w w' : World} {B g : Nat} {A : Option Addr} {n c a : Nat} {E : Err} (h : Rd w B g A n c a E) (hb : Below w.heap.size w w') : Rd w' B g A n c a E := by
  obtain ⟨h1, h2, h3, ev, h4, h5⟩ := h
  exact ⟨h1, h2, h3, ev, h4.keep hb, h5.keep hb⟩

/-- Of what was there nothing but block g has turned. -/
def Asd (g : Nat) (w w' : World) : Prop := w.heap.size ≤ w'.heap.size ∧ ∀ k, k ≠ g → k < w.heap.size → w'.heap[k]? = w.heap[k]?
theorem Asd.of {g : Nat} {w w' : World} (h : Below w.heap.size w w') : Asd g w w' := ⟨h.size, fun k _ hk => h.block k hk⟩
theorem Asd.trans {g : Nat} {a b c : World} (h : Asd g a b) (k : Asd g b c) : Asd g a c := ⟨Nat.le_trans h.1 k.1, fun i hi hl => (k.2 i hi (Nat.lt_of_lt_of_le hl h.1)).trans (h.2 i hi hl)⟩
theorem Asd.setCell {g : Nat} {a w : World} (h : Asd g a w) (i : Nat) (u : Value) : Asd g a (w.setCell ⟨g, i, none⟩ u) :=
  h.trans ⟨by simp [World.setCell], fun k hk _ => Below.heap_setCell _ _ _ _ hk⟩
theorem Asd.cell {g : Nat} {w w' : World} (h : Asd g w w') {p : Addr} {v : Value} (hp : w.cell? p = some v) (hg : p.block ≠ g) : w'.cell? p = some v :=
  (World.cell?_of_block (w := w) (h.2 p.block hg (World.block_lt_of_cell? w _ hp))).trans hp
theorem Asd.froz {g : Nat} {w w' : World} (h : Asd g w w') {p : Addr} {b : Bool} (hl : p.block < w.heap.size) (hp : w.frozen? p = b) (hg : p.block ≠ g) : w'.frozen? p = b :=
  (World.frozen?_of_block (w := w) (h.2 p.block hg hl)).trans hp
theorem NewReader_any (A : Option Addr) (n c : Nat) (w : World) :
    Calls Tryz.prog 53 #[.slice A n c] w fun e w' => ∃ g, e = .returned (.pointer (some ⟨g, 0, none⟩)) ∧ Rd w' w.heap.size g A n c 0 .nil ∧ Below w.heap.size w w' := by
  go_enter Tryz.func53, Tryz.ntmps53
  go_wp2_with fail
  go_ret
  exact ⟨w.heap.size, rfl, ⟨Nat.le_refl _, trivial, Nat.zero_le _, _, Blk.new _ _ _, rfl⟩, bel_al (Below.refl _ _) _⟩

set_option maxHeartbeats 2000000 in
theorem take_err (g B : Nat) (A : Option Addr) (n c a : Nat) (E : Err) (m from_ : Int) (w : World) (hR : Rd w B g A n c a E) (hE : E ≠ .nil) :
    Calls Tryz.prog 93 #[.pointer (some ⟨g, 0, none⟩), .int .i64 m, .int .i64 from_] w fun e w' => e = .returned (.slice none 0 0) ∧ w = w' := by
  obtain ⟨_, hf, _, ev, hb, he⟩ := hR
  obtain ⟨T, x, rfl⟩ := Err.At.iface_ he hE
  have hc2 := hb.cell 2
  simp at hc2
  clear hb he hE
  go_enter Tryz.func93, Tryz.ntmps93
  go_wp2_with fail
  go_ret
  exact ⟨rfl, rfl⟩

set_option maxHeartbeats 4000000 in
theorem take_short (g B : Nat) (A : Option Addr) (n c a m : Nat) (from_ : Nat) (w : World) (hR : Rd w B g A n c a .nil) (hm : n < a + m) (hn : n ≤ 1099511627776) (hm2 : m ≤ 1099511627776) (hfr : from_ ≤ n) :
    Calls Tryz.prog 93 #[.pointer (some ⟨g, 0, none⟩), .int .i64 m, .int .i64 from_] w fun e w' => e = .returned (.slice none 0 0) ∧ Rd w' B g A n c from_ (.flt 9 from_ txtBytes) ∧ Below B w w' := by
  obtain ⟨hBg, hf, han, ev, hb, he⟩ := hR
  obtain rfl : ev = .nilIface := he
  have hc0 := hb.cell 0
  have hc1 := hb.cell 1
  have hc2 := hb.cell 2
  simp at hc0 hc1 hc2
  have HBk := Lib.hid hb
  have hBw : B ≤ w.heap.size := Nat.le_trans hBg (Nat.le_of_lt hb.lt)
  clear hb
  have hd : decide ((n : Int) - (a : Int) < (m : Int)) = true := decide_eq_true (by omega)
  go_enter Tryz.func93, Tryz.ntmps93
  go_wp2_with fail
  go_quiet (fail)
  obtain ⟨w1, hw1⟩ : ∃ w1, w1 = w.drewN nq := ⟨_, rfl⟩
  rw [← hw1]
  have hbw := drew_bel ⟨nq, hw1⟩
  have HBk1 := Lib.hid (HBk.out.keep hbw)
  have HBw := Lib.hid hbw
  clear hw1 hbw hc0 hc1 hc2
  go_wp2_with fail
  refine (New_err 9 from_ txtBytes w1).mono ?_
  rintro e w2 ⟨v, rfl, ⟨gv, rfl, hv⟩, hb2⟩
  have hbk2 := HBk1.out.keep hb2
  have hd1 := hbk2.cell 1
  have hd2 := hbk2.cell 2
  have hf1 := hbk2.frozen 1
  have hf2 := hbk2.frozen 2
  simp at hd1 hd2
  have hgne : gv ≠ g := fun e => by
    subst e
    unfold Blk at hv hbk2
    rw [hv] at hbk2
    injection hbk2 with hbk2
    injection hbk2 with _ h3
    exact absurd h3 (by decide)
  have HT := Lib.hid (show Rd ((w2.setCell ⟨g, 1, none⟩ (.int .i64 from_)).setCell ⟨g, 2, none⟩ (.iface 104 (.pointer (some ⟨gv, 0, none⟩)))) B g A n c from_ (.flt 9 from_ txtBytes) by
    refine ⟨hBg, trivial, hfr, _, ?_, ⟨gv, rfl, ?_⟩⟩
    · have := (hbk2.set_ 1 (.int .i64 from_)).set_ 2 (.iface 104 (.pointer (some ⟨gv, 0, none⟩)))
      simpa using this
    · exact ((hv.far (p := ⟨g, 1, none⟩) hgne _).far (p := ⟨g, 2, none⟩) hgne _))
  have HB2 := Lib.hid (HBw.out.andThen hb2)
  clear hv hbk2 hgne hb2
  go_wp2_with fail
  go_ret
  exact ⟨rfl, HT.out, ((HB2.out.mono hBw).setCell (p := ⟨g, 1, none⟩) hBg _).setCell (p := ⟨g, 2, none⟩) hBg _⟩

set_option maxHeartbeats 4000000 in
theorem take_ok (g B : Nat) (A : Option Addr) (n c a m : Nat) (from_ : Int) (l : List Int) (w : World) (hR : Rd w B g A n c a .nil) (hm : a + m ≤ n) (h0 : 0 < m) (hn : n ≤ 1099511627776) (hnc : n ≤ c) (hc9 : c ≤ 9223372036854775807) (hs : Sl w 1 A n (l.map (Value.int .u8))) (hB : ∀ w', Below B w w' → Sl w' 1 A n (l.map (Value.int .u8))) :
    Calls Tryz.prog 93 #[.pointer (some ⟨g, 0, none⟩), .int .i64 m, .int .i64 from_] w fun e w' => ∃ C k, e = .returned (.slice (some C) m k) ∧ (m ≤ k ∧ k ≤ 9223372036854775807) ∧ (∀ w2, Below B w w2 → Sl w2 1 (some C) m (((l.drop a).take m).map (Value.int .u8))) ∧ Rd w' B g A n c (a + m) .nil ∧ Below B w w' ∧ Asd g w w' := by
  obtain ⟨hBg, hf, han, ev, hb, he⟩ := hR
  obtain rfl : ev = .nilIface := he
  obtain ⟨b, off, rfl, _⟩ := hs.2 (by omega)
  have hc0 := hb.cell 0
  have hc1 := hb.cell 1
  have hc2 := hb.cell 2
  simp at hc0 hc1 hc2
  have HBk := Lib.hid hb
  have hBw : B ≤ w.heap.size := Nat.le_trans hBg (Nat.le_of_lt hb.lt)
  have HX := Lib.hid (fun w2 (h : Below B w w2) => (by
    have h1 := ((hB w2 h).drop (k := a) han).take (k := m) (by omega)
    rwa [← List.map_drop, ← List.map_take] at h1 : Sl w2 1 (some ⟨b, off + a, none⟩) m (((l.drop a).take m).map (Value.int .u8))))
  clear hb hs hB
  have hfr1 := HBk.out.frozen 1
  have hd : decide ((n : Int) - (a : Int) < (m : Int)) = false := decide_eq_false (by omega)
  go_enter Tryz.func93, Tryz.ntmps93
  go_wp2_with fail
  go_quiet (fail)
  have e1 : (0 : Int) ≤ a := by omega
  have e2 : (a : Int) ≤ (a : Int) + (m : Int) := by omega
  have e3 : (a : Int) + (m : Int) ≤ (c : Int) := by omega
  have e4 : ((a : Int) + (m : Int)).toNat = a + m := by omega
  have e5 : ¬ c = a := by omega
  have e6 : a + m - a = m := by omega
  go_wp2_with fail
  go_quiet (fail)
  go_wp2_with fail
  go_ret
  have hcast : ((a + m : Nat) : Int) = (a : Int) + (m : Int) := by omega
  refine ⟨⟨b, off + a, none⟩, c - a, rfl, ⟨by omega, by omega⟩, HX.out, ⟨hBg, trivial, hm, .nilIface, ?_, rfl⟩, ?_, ?_⟩
  · rw [hcast]
    have := fun q => (HBk.out.drewN q).set_ 1 (.int .i64 ((a : Int) + (m : Int)))
    simpa using this _
  · exact ((bel_drewN (Below.refl _ _) _).mono hBw).setCell (p := ⟨g, 1, none⟩) hBg _
  · exact (Asd.of (bel_drewN (Below.refl _ _) _)).setCell _ _

theorem rd_cells {w : World} {B g : Nat} {A : Option Addr} {n c a : Nat} {E : Err} (h : Rd w B g A n c a E) : w.cell? ⟨g, 0, none⟩ = some (.slice A n c) ∧ w.cell? ⟨g, 1, none⟩ = some (.int .i64 a) := by
  obtain ⟨_, _, _, ev, hb, _⟩ := h
  have hc0 := hb.cell 0
  have hc1 := hb.cell 1
  simp at hc0 hc1
  exact ⟨hc0, hc1⟩
theorem nilEq (w : World) (A : Option Addr) (n c : Nat) : (binOp .eql 26 (.slice A n c) (.slice none 0 0)).run Tryz.prog w = .ok (.bool A.isNone) w := Lib.run_eql_slice_nil w _ _ A n c 0 0 Tryz.underlying26

set_option maxHeartbeats 2000000 in
theorem num_err (g B : Nat) (A : Option Addr) (n c a : Nat) (E : Err) (from_ : Int) (w : World) (hR : Rd w B g A n c a E) (hE : E ≠ .nil) :
    Calls Tryz.prog 92 #[.pointer (some ⟨g, 0, none⟩), .int .i64 from_] w fun e w' => e = .returned (.int .i64 0) ∧ w = w' := by
  have HT := Lib.hid (take_err g B A n c a E 4 from_ w hR hE)
  have nn := fun w => nilEq w none 0 0
  clear hR hE
  go_enter Tryz.func92, Tryz.ntmps92
  go_wp2_with fail
  refine HT.out.mono ?_
  rintro e w1 ⟨rfl, rfl⟩
  go_wp2_with fail
  go_ret
  exact ⟨rfl, rfl⟩
theorem Num_err (g B : Nat) (A : Option Addr) (n c a : Nat) (E : Err) (w : World) (hR : Rd w B g A n c a E) (hE : E ≠ .nil) :
    Calls Tryz.prog 63 #[.pointer (some ⟨g, 0, none⟩)] w fun e w' => e = .returned (.int .i64 0) ∧ w = w' := by
  obtain ⟨hc0, hc1⟩ := rd_cells hR
  have HT := Lib.hid (num_err g B A n c a E a w hR hE)
  clear hR hE
  go_enter Tryz.func63, Tryz.ntmps63
  go_wp2_with fail
  refine HT.out.mono ?_
  rintro e w1 ⟨rfl, rfl⟩
  go_wp2_with fail
  go_ret
  exact ⟨rfl, rfl⟩
theorem List_err (g B : Nat) (A : Option Addr) (n c a : Nat) (E : Err) (most : Int) (w : World) (hR : Rd w B g A n c a E) (hE : E ≠ .nil) :
    Calls Tryz.prog 54 #[.pointer (some ⟨g, 0, none⟩), .int .i64 most] w fun e w' => e = .returned (.slice none 0 0) ∧ w = w' := by
  obtain ⟨hc0, hc1⟩ := rd_cells hR
  have HN := Lib.hid (num_err g B A n c a E a w hR hE)
  obtain ⟨_, hf, _, ev, hb, he⟩ := hR
  obtain ⟨T, x, rfl⟩ := Err.At.iface_ he hE
  have hc2 := hb.cell 2
  simp at hc2
  clear hb he hE
  go_enter Tryz.func54, Tryz.ntmps54
  go_wp2_with fail
  refine HN.out.mono ?_
  rintro e w1 ⟨rfl, rfl⟩
  go_wp2_with fail
  go_ret
  exact ⟨rfl, rfl⟩
theorem Left_any (g B : Nat) (A : Option Addr) (n c a : Nat) (E : Err) (w : World) (hR : Rd w B g A n c a E) (hn : n ≤ 1099511627776) :
    Calls Tryz.prog 95 #[.pointer (some ⟨g, 0, none⟩)] w fun e w' => e = .returned (.int .i64 ((n - a : Nat) : Int)) ∧ Below w.heap.size w w' := by
  obtain ⟨hc0, hc1⟩ := rd_cells hR
  have ha := hR.2.2.1
  have hd : (n : Int) - (a : Int) = ((n - a : Nat) : Int) := by omega
  clear hR
  go_enter Tryz.func95, Tryz.ntmps95
  go_wp2_with fail
  go_quiet (fail)
  go_wp2_with fail
  go_ret
  exact ⟨by first | rfl | (rw [hd]), bel_drewN (Below.refl _ _) _⟩
theorem End_err (g B : Nat) (A : Option Addr) (n c a : Nat) (E : Err) (w : World) (hR : Rd w B g A n c a E) (hE : E ≠ .nil) :
    Calls Tryz.prog 55 #[.pointer (some ⟨g, 0, none⟩)] w fun e w' => ∃ T x, e = .returned (.iface T x) ∧ E.At w (.iface T x) ∧ w = w' := by
  obtain ⟨_, hf, _, ev, hb, he⟩ := hR
  obtain ⟨T, x, rfl⟩ := Err.At.iface_ he hE
  have hc2 := hb.cell 2
  simp at hc2
  have HE := Lib.hid he
  clear hb he hE
  go_enter Tryz.func55, Tryz.ntmps55
  go_wp2_with fail
  go_ret
  exact ⟨T, x, rfl, HE.out, rfl⟩
theorem End_ok (g B : Nat) (A : Option Addr) (n c : Nat) (w : World) (hR : Rd w B g A n c n .nil) (hn : n ≤ 1099511627776) :
    Calls Tryz.prog 55 #[.pointer (some ⟨g, 0, none⟩)] w fun e w' => e = .returned .nilIface ∧ Below w.heap.size w w' := by
  have HL := Lib.hid (Left_any g B A n c n .nil w hR hn)
  obtain ⟨_, hf, _, ev, hb, he⟩ := hR
  obtain rfl : ev = .nilIface := he
  have hc2 := hb.cell 2
  simp at hc2
  clear hb
  go_enter Tryz.func55, Tryz.ntmps55
  go_wp2_with fail
  refine HL.out.mono ?_
  rintro e w1 ⟨rfl, hb⟩
  rw [Nat.sub_self]
  go_wp2_with fail
  go_ret
  exact ⟨rfl, hb⟩

set_option maxHeartbeats 2000000 in
theorem num_ok (g B : Nat) (A : Option Addr) (n c a : Nat) (from_ : Int) (l : List Int) (w : World) (hR : Rd w B g A n c a .nil) (hm : a + 4 ≤ n) (hn : n ≤ 1099511627776) (hnc : n ≤ c) (hc9 : c ≤ 9223372036854775807) (hl : l.length = n) (hb : Bys l) (hB : ∀ w', Below B w w' → Sl w' 1 A n (l.map (Value.int .u8))) :
    Calls Tryz.prog 92 #[.pointer (some ⟨g, 0, none⟩), .int .i64 from_] w fun e w' => e = .returned (.int .i64 (wordN (l.drop a) : Nat)) ∧ Rd w' B g A n c (a + 4) .nil ∧ Below B w w' ∧ Asd g w w' := by
  have HT := Lib.hid (take_ok g B A n c a 4 from_ l w hR hm (by omega) hn hnc hc9 (hB w (Below.refl _ _)) hB)
  have nn := fun w (C : Addr) k => nilEq w (some C) 4 k
  have hw : wordN ((l.drop a).take 4) = wordN (l.drop a) := wordN_take (by rw [List.length_drop]; omega)
  have hlt := wordN_lt (hb.drop a)
  have HWL := Lib.hid (fun W (C : Addr) k (h : Sl W 1 (some C) 4 (((l.drop a).take 4).map (Value.int .u8))) => wordAt_any ((l.drop a).take 4) (some C) 4 k W (by rw [List.length_take, List.length_drop]; omega) (by omega) ((hb.drop a).take 4) h)
  rw [hw] at HWL
  clear hR hB hb hw
  generalize wordN (l.drop a) = N at *
  go_enter Tryz.func92, Tryz.ntmps92
  go_wp2_with fail
  refine HT.out.mono ?_
  rintro e w1 ⟨C, k, rfl, hk, hs1, hR1, hb1, ha1⟩
  have HA := Lib.hid (HWL.out w1 C k (hs1 w1 hb1))
  have HR1 := Lib.hid hR1
  have HB1 := Lib.hid hb1
  have HA1 := Lib.hid ha1
  clear hs1 hR1 hb1 ha1 HT
  go_wp2_with fail
  refine HA.out.mono ?_
  rintro e w2 ⟨rfl, hq⟩
  have HQ := Lib.hid (drew_bel hq)
  clear hq
  go_wp2_with fail
  go_ret
  exact ⟨rfl, HR1.out.keep HQ.out, HB1.out.trans (HQ.out.mono (Nat.le_trans HR1.out.1 (Nat.le_of_lt (by obtain ⟨_, _, _, _, h, _⟩ := HR1.out; exact h.lt)))), HA1.out.trans (Asd.of HQ.out)⟩
theorem Num_okA (g B : Nat) (A : Option Addr) (n c a : Nat) (l : List Int) (w : World) (hR : Rd w B g A n c a .nil) (hm : a + 4 ≤ n) (hn : n ≤ 1099511627776) (hnc : n ≤ c) (hc9 : c ≤ 9223372036854775807) (hl : l.length = n) (hb : Bys l) (hB : ∀ w', Below B w w' → Sl w' 1 A n (l.map (Value.int .u8))) :
    Calls Tryz.prog 63 #[.pointer (some ⟨g, 0, none⟩)] w fun e w' => e = .returned (.int .i64 (wordN (l.drop a) : Nat)) ∧ Rd w' B g A n c (a + 4) .nil ∧ Below B w w' ∧ Asd g w w' := by
  obtain ⟨hc0, hc1⟩ := rd_cells hR
  have HT := Lib.hid (num_ok g B A n c a a l w hR hm hn hnc hc9 hl hb hB)
  clear hR hb hB
  generalize wordN (l.drop a) = N at *
  go_enter Tryz.func63, Tryz.ntmps63
  go_wp2_with fail
  refine HT.out.mono ?_
  rintro e w1 ⟨rfl, h1, h2⟩
  have H1 := Lib.hid h1
  clear h1
  go_wp2_with fail
  go_ret
  exact ⟨rfl, H1.out, h2⟩
theorem Num_ok (g B : Nat) (A : Option Addr) (n c a : Nat) (l : List Int) (w : World) (hR : Rd w B g A n c a .nil) (hm : a + 4 ≤ n) (hn : n ≤ 1099511627776) (hnc : n ≤ c) (hc9 : c ≤ 9223372036854775807) (hl : l.length = n) (hb : Bys l) (hB : ∀ w', Below B w w' → Sl w' 1 A n (l.map (Value.int .u8))) :
    Calls Tryz.prog 63 #[.pointer (some ⟨g, 0, none⟩)] w fun e w' => e = .returned (.int .i64 (wordN (l.drop a) : Nat)) ∧ Rd w' B g A n c (a + 4) .nil ∧ Below B w w' :=
  (Num_okA g B A n c a l w hR hm hn hnc hc9 hl hb hB).mono fun e w' ⟨h1, h2, h3, _⟩ => ⟨h1, h2, h3⟩
end Go.Proofs.YtmonepclhbappaaGreatDoor
