/-
  Part 7 of the proof of LoadMore: WireB, WireC, WireD, First.
-/
import Derived.Test.YtbbmgcdocolakaaGreatDoorLoadMoreM6
import Derived.Test.YtbbmgcdocolakaaGreatDoorLoadMoreM2
import Derived.Deep.DeepCutAuto
import Derived.BigQuiet
import Derived.Deep.QuietTactic
import Derived.ArgAppend
import Derived.Lib.SmallJoins
import Derived.Laws.BytesArg
import Derived.Lib.Strings
import Derived.Deep.RegionLaw
set_option linter.unusedVariables false
/-
  Contracts: wire.word, wordAt, Sum; the document's Word, Sum, Same (bytes).
-/
namespace Go.Proofs.YtbbmgcdocolakaaGreatDoor
open Go.RowKit
set_option maxRecDepth 100000

theorem elemByte : Elem Tryz.prog 42 5 (.int .u8 0) 1 1 := ⟨Tryz.underlying42, by kernel_rfl, rfl, by decide⟩
theorem wordL_map (k : Nat) : (wordL k).map (Value.int .u8) = [.int .u8 ((k / 16777216 % 256 : Nat) : Int), .int .u8 ((k / 65536 % 256 : Nat) : Int), .int .u8 ((k / 256 % 256 : Nat) : Int), .int .u8 ((k % 256 : Nat) : Int)] := rfl

theorem or_join (a b s : Nat) (hb : b < 2 ^ s) : (a * 2 ^ s ||| b) = a * 2 ^ s + b := by
  rw [← Nat.shiftLeft_eq, Nat.shiftLeft_add_eq_or_of_lt hb]
theorem bits_or_u32 (a b : Nat) (ha : a < 4294967296) (hb : b < 4294967296) : bits .or .u32 (a : Int) (b : Int) = ((a ||| b : Nat) : Int) := by
  have h1 : (BitVec.ofInt 32 (a : Int) ||| BitVec.ofInt 32 (b : Int)).toNat = a ||| b := by
    rw [BitVec.toNat_or, BitVec.ofInt_natCast, BitVec.ofInt_natCast, BitVec.toNat_ofNat, BitVec.toNat_ofNat, Nat.mod_eq_of_lt (by omega), Nat.mod_eq_of_lt (by omega)]
  have h2 : a ||| b < 2 ^ 32 := Nat.or_lt_two_pow (by omega) (by omega)
  show IntKind.u32.wrap (((BitVec.ofInt 32 (a : Int) ||| BitVec.ofInt 32 (b : Int)).toNat : Nat) : Int) = _
  rw [h1]
  exact IntWalk.u32_in _ (by omega)
theorem or_sum (y x : Nat) (hy : y < 65521) (hx : x < 65521) : bits .or .u32 ((y : Int) * 65536) (x : Int) = ((y * 65536 + x : Nat) : Int) := by
  have := bits_or_u32 (y * 65536) x (by omega) (by omega)
  rw [or_join y x 16 (by omega)] at this
  rw [show (y : Int) * 65536 = ((y * 65536 : Nat) : Int) by omega]
  exact this
theorem or_word (a b c d : Nat) (ha : a < 256) (hb : b < 256) (hc : c < 256) (hd : d < 256) :
    bits .or .u32 (bits .or .u32 (bits .or .u32 ((a : Int) * 16777216) ((b : Int) * 65536)) ((c : Int) * 256)) (d : Int) = ((a * 16777216 + b * 65536 + c * 256 + d : Nat) : Int) := by
  have e1 := bits_or_u32 (a * 16777216) (b * 65536) (by omega) (by omega)
  have o1 := or_join a (b * 65536) 24 (by omega)
  rw [show (2 : Nat) ^ 24 = 16777216 from rfl] at o1
  rw [o1] at e1
  have e2 := bits_or_u32 (a * 16777216 + b * 65536) (c * 256) (by omega) (by omega)
  have o2 := or_join (a * 256 + b) (c * 256) 16 (by omega)
  rw [show (2 : Nat) ^ 16 = 65536 from rfl, show (a * 256 + b) * 65536 = a * 16777216 + b * 65536 by omega] at o2
  rw [o2] at e2
  have e3 := bits_or_u32 (a * 16777216 + b * 65536 + c * 256) d (by omega) (by omega)
  have o3 := or_join (a * 65536 + b * 256 + c) d 8 (by omega)
  rw [show (2 : Nat) ^ 8 = 256 from rfl, show (a * 65536 + b * 256 + c) * 256 = a * 16777216 + b * 65536 + c * 256 by omega] at o3
  rw [o3] at e3
  rw [show (a : Int) * 16777216 = ((a * 16777216 : Nat) : Int) by omega, show (b : Int) * 65536 = ((b * 65536 : Nat) : Int) by omega, show (c : Int) * 256 = ((c * 256 : Nat) : Int) by omega, e1, e2, e3]

set_option maxHeartbeats 1000000 in
theorem word_own (k : Nat) (hk : k < 4294967296) (l : List Int) (v : Value) (n B : Nat) (w : World) (hn : l.length = n) (hown : w.ownsRow B 5 1 v n (l.map (Value.int .u8))) (hB : B ≤ w.heap.size) (hl : n ≤ 1099511627776) :
    Calls Tryz.prog 77 #[v, .int .u32 k] w fun e w' => ∃ v', e = .returned v' ∧ w'.ownsRow B 5 1 v' (n + 4) ((l ++ wordL k).map (Value.int .u8)) ∧ Gr w w' v v' := by
  have hw : [Value.int .u8 ((k : Int) / 16777216), .int .u8 ((k : Int) / 65536 % 256), .int .u8 ((k : Int) / 256 % 256), .int .u8 ((k : Int) % 256)] = (wordL k).map (Value.int .u8) := by
    rw [wordL_map, show ((k / 16777216 % 256 : Nat) : Int) = (k : Int) / 16777216 by omega, show ((k / 65536 % 256 : Nat) : Int) = (k : Int) / 65536 % 256 by omega, show ((k / 256 % 256 : Nat) : Int) = (k : Int) / 256 % 256 by omega, show ((k % 256 : Nat) : Int) = (k : Int) % 256 by omega]
  have HW := Lib.hid hw
  clear hw
  go_enter Tryz.func77, Tryz.ntmps77
  go_wp2_with (at_builtin; refine wpList_cat_at elemByte _ _ rfl rfl (hown.alloc _) (by simp; omega) (Sl.newAt w _ _ 4 rfl) rfl rfl (by simp [Value.oneCell']) (by unfold lim; omega) (by unfold lim; omega) ?_; intro v' w5 hown1 hgr)
  go_ret
  rw [HW.out] at hown1
  exact ⟨v', rfl, by rw [List.map_append]; exact hown1, hgr.after_alloc⟩

set_option maxHeartbeats 1000000 in
theorem wordAt_any (l : List Int) (A : Option Addr) (n c : Nat) (w : World) (hl : l.length = n) (h4 : 4 ≤ n) (hb : Bys l) (hs : Sl w 1 A n (l.map (Value.int .u8))) :
    Calls Tryz.prog 93 #[.slice A n c] w fun e w' => e = .returned (.int .u32 (wordN l : Nat)) ∧ ∃ m, w' = w.drewN m := by
  obtain ⟨a, b, c', d, h4', he⟩ := four (l := l) (by omega)
  obtain ⟨g, off, rfl, hc⟩ := hs.2 (by omega)
  have c0 := hc 0 (.int .u8 a) (by rw [he]; rfl)
  have c1 := hc 1 (.int .u8 b) (by rw [he]; rfl)
  have c2 := hc 2 (.int .u8 c') (by rw [he]; rfl)
  have c3 := hc 3 (.int .u8 d) (by rw [he]; rfl)
  have b0 := hb a (by rw [he]; simp)
  have b1 := hb b (by rw [he]; simp)
  have b2 := hb c' (by rw [he]; simp)
  have b3 := hb d (by rw [he]; simp)
  rw [Nat.add_zero] at c0
  have HW := Lib.hid (show wordN l = a.toNat * 16777216 + b.toNat * 65536 + c'.toNat * 256 + d.toNat by rw [he]; rfl)
  clear hc hs he h4' hb
  obtain ⟨a, rfl⟩ := Int.eq_ofNat_of_zero_le b0.1
  obtain ⟨b, rfl⟩ := Int.eq_ofNat_of_zero_le b1.1
  obtain ⟨c', rfl⟩ := Int.eq_ofNat_of_zero_le b2.1
  obtain ⟨d, rfl⟩ := Int.eq_ofNat_of_zero_le b3.1
  have HO := Lib.hid (or_word a b c' d (by omega) (by omega) (by omega) (by omega))
  have g0 : (0 : Int) < n := by omega
  have g1 : (1 : Int) < n := by omega
  have g2 : (2 : Int) < n := by omega
  have g3 : (3 : Int) < n := by omega
  go_enter Tryz.func93, Tryz.ntmps93
  go_wp2_with fail
  go_quiet (fail)
  go_wp2_with fail
  go_ret
  exact ⟨ret_int (by rw [HO.out, HW.out]; rfl), nq, rfl⟩

set_option maxHeartbeats 1000000 in
theorem Sum_any (l : List Int) (A : Option Addr) (n c : Nat) (w : World) (hl : l.length = n) (hn : n ≤ 1099511627776) (hb : Bys l) (hs : Sl w 1 A n (l.map (Value.int .u8))) :
    Calls Tryz.prog 78 #[.slice A n c] w fun e w' => e = .returned (.int .u32 (sumL l : Nat)) ∧ w = w' := by
  have HS := Lib.hid hs
  have HB := Lib.hid hb
  clear hs hb
  go_enter Tryz.func78, Tryz.ntmps78
  go_wp2_with fail
  go_loop [3, 4, 9] (fun x y i => ∃ k X Y : Nat, k ≤ n ∧ i = .int .i64 k ∧ x = .int .u32 X ∧ y = .int .u32 Y ∧ X < 65521 ∧ Y < 65521 ∧ Hid (sumS (l.take k) = (X, Y))) (fun _ _ i => n - (intOf i).toNat)
  case atStart => exact ⟨0, 1, 0, Nat.zero_le _, rfl, rfl, rfl, by omega, by omega, rfl⟩
  case round =>
    obtain ⟨k, X, Y, hk, rfl, rfl, rfl, hX, hY, HXY⟩ := hrel
    by_cases hlt : k < n
    · have hj : k < l.length := by omega
      obtain ⟨b, off, u, rfl, e1, c1⟩ := HS.out.one hlt
      rw [List.getElem?_map, List.getElem?_eq_getElem hj] at e1
      obtain rfl := Option.some.inj e1
      have HT := Lib.hid (List.take_succ_eq_append_getElem hj)
      have hr := HB.out _ (List.getElem_mem hj)
      generalize l[k] = z at *
      obtain ⟨z, rfl⟩ := Int.eq_ofNat_of_zero_le hr.1
      clear e1
      have HS2 := Lib.hid (show sumS (l.take (k + 1)) = ((X + z) % 65521, (Y + (X + z) % 65521) % 65521) by rw [HT.out, sumS_snoc, HXY.out]; rfl)
      go_wp2_with fail
      go_round
      case rel => exact ⟨k + 1, (X + z) % 65521, (Y + (X + z) % 65521) % 65521, by omega, by go_num, rfl, rfl, Nat.mod_lt _ (by omega), Nat.mod_lt _ (by omega), HS2.out⟩
      case measure => simp [intOf]; omega
    · obtain rfl : k = n := by omega
      have HO := Lib.hid (or_sum Y X hY hX)
      have HL := Lib.hid (show sumL l = Y * 65536 + X by have := HXY.out; rw [List.take_of_length_le (by omega)] at this; rw [sumL, this])
      go_wp2_with fail
      go_ret
      exact ⟨ret_int (by rw [HO.out, HL.out]), rfl⟩

set_option maxHeartbeats 1000000 in
theorem RefWord_any (k : Nat) (hk : k < 4294967296) (w : World) :
    Calls Tryz.prog 52 #[.int .i64 k] w fun e w' => ∃ A c, e = .returned (.slice A 4 c) ∧ Sl w' 1 A 4 ((wordL k).map (Value.int .u8)) ∧ Below w.heap.size w w' := by
  have hw : [Value.int .u8 ((k : Int) / 16777216 % 256), .int .u8 ((k : Int) / 65536 % 256), .int .u8 ((k : Int) / 256 % 256), .int .u8 ((k : Int) % 256)] = (wordL k).map (Value.int .u8) := by
    rw [wordL_map, show ((k / 16777216 % 256 : Nat) : Int) = (k : Int) / 16777216 % 256 by omega, show ((k / 65536 % 256 : Nat) : Int) = (k : Int) / 65536 % 256 by omega, show ((k / 256 % 256 : Nat) : Int) = (k : Int) / 256 % 256 by omega, show ((k % 256 : Nat) : Int) = (k : Int) % 256 by omega]
  have HW := Lib.hid hw
  clear hw
  go_enter Tryz.func52, Tryz.ntmps52
  go_wp2_with fail
  go_ret
  refine ⟨_, _, rfl, ?_, bel_al (Below.refl _ _) _⟩
  rw [← HW.out]
  exact Sl.newAt w _ _ 4 rfl

set_option maxHeartbeats 1000000 in
theorem RefSum_any (l : List Int) (A : Option Addr) (n c : Nat) (w : World) (hl : l.length = n) (hn : n ≤ 1099511627776) (hb : Bys l) (hs : Sl w 1 A n (l.map (Value.int .u8))) :
    Calls Tryz.prog 53 #[.slice A n c] w fun e w' => e = .returned (.int .i64 (sumL l : Nat)) ∧ w = w' := by
  have HS := Lib.hid hs
  have HB := Lib.hid hb
  clear hs hb
  go_enter Tryz.func53, Tryz.ntmps53
  go_wp2_with fail
  go_loop [3, 4, 5] (fun x y i => ∃ k X Y : Nat, k ≤ n ∧ i = .int .i64 k ∧ x = .int .i64 X ∧ y = .int .i64 Y ∧ X < 65521 ∧ Y < 65521 ∧ Hid (sumS (l.take k) = (X, Y))) (fun _ _ i => n - (intOf i).toNat)
  case atStart => exact ⟨0, 1, 0, Nat.zero_le _, rfl, rfl, rfl, by omega, by omega, rfl⟩
  case round =>
    obtain ⟨k, X, Y, hk, rfl, rfl, rfl, hX, hY, HXY⟩ := hrel
    by_cases hlt : k < n
    · have hj : k < l.length := by omega
      obtain ⟨b, off, u, rfl, e1, c1⟩ := HS.out.one hlt
      rw [List.getElem?_map, List.getElem?_eq_getElem hj] at e1
      obtain rfl := Option.some.inj e1
      have HT := Lib.hid (List.take_succ_eq_append_getElem hj)
      have hr := HB.out _ (List.getElem_mem hj)
      generalize l[k] = z at *
      obtain ⟨z, rfl⟩ := Int.eq_ofNat_of_zero_le hr.1
      clear e1
      have HS2 := Lib.hid (show sumS (l.take (k + 1)) = ((X + z) % 65521, (Y + (X + z) % 65521) % 65521) by rw [HT.out, sumS_snoc, HXY.out]; rfl)
      go_wp2_with fail
      go_round
      case rel => exact ⟨k + 1, (X + z) % 65521, (Y + (X + z) % 65521) % 65521, by omega, by go_num, rfl, rfl, Nat.mod_lt _ (by omega), Nat.mod_lt _ (by omega), HS2.out⟩
      case measure => simp [intOf]; omega
    · obtain rfl : k = n := by omega
      have HL := Lib.hid (show sumL l = Y * 65536 + X by have := HXY.out; rw [List.take_of_length_le (by omega)] at this; rw [sumL, this])
      go_wp2_with fail
      go_ret
      exact ⟨ret_int (by rw [HL.out]; omega), rfl⟩

set_option maxHeartbeats 1000000 in
theorem Same_any (p q : List Int) (A B : Option Addr) (n m c d : Nat) (w : World) (hl : p.length = n) (hm : q.length = m) (hs : Sl w 1 A n (p.map (Value.int .u8))) (ht : Sl w 1 B m (q.map (Value.int .u8))) (hn : n ≤ 9223372036854775807) :
    Calls Tryz.prog 24 #[.slice A n c, .slice B m d] w fun e w' => e = .returned (.bool (decide (p = q))) ∧ Below w.heap.size w w' := by
  go_enter Tryz.func24, Tryz.ntmps24
  by_cases hnm : n = m
  · subst hnm
    go_wp2
    go_loopw [5] (fun i wr => ∃ k : Nat, k ≤ n ∧ i = .int .i64 k ∧ p.take k = q.take k ∧ Below w.heap.size w wr) (fun i _ => n - (intOf i).toNat)
    case atStart => exact ⟨0, Nat.zero_le _, rfl, rfl, Below.refl _ _⟩
    case round =>
      obtain ⟨k, hk, rfl, heq, hb⟩ := hrel
      by_cases hlt : k < n
      · have hj : k < p.length := by omega
        have hj' : k < q.length := by omega
        obtain ⟨b, off, u, rfl, e1, c1⟩ := (hs.keep hb).one hlt
        obtain ⟨b', off', u', rfl, e2, c2⟩ := (ht.keep hb).one hlt
        rw [List.getElem?_map, List.getElem?_eq_getElem hj] at e1
        rw [List.getElem?_map, List.getElem?_eq_getElem hj'] at e2
        obtain rfl := Option.some.inj e1
        obtain rfl := Option.some.inj e2
        have HT := Lib.hid (List.take_succ_eq_append_getElem hj)
        have HT' := Lib.hid (List.take_succ_eq_append_getElem hj')
        have HE := Lib.hid heq
        have HP := Lib.hid (fun h : p = q => (by subst h; rfl : p[k] = q[k]))
        generalize p[k] = x at *
        generalize q[k] = y at *
        clear e1 e2 heq hs ht
        by_cases hxy : x = y
        · subst hxy
          go_wp2_with fail
          go_quiet (fail)
          go_wp2_with fail
          go_roundw
          case rel => exact ⟨k + 1, by omega, by go_num, by rw [HT.out, HT'.out, HE.out], bel_drewN hb _⟩
          case measure => simp [intOf]; omega
        · have hb1 : (x == y) = false := by simpa using hxy
          go_wp2_with fail
          go_quiet (fail)
          go_wp2_with fail
          go_ret
          exact ⟨ret_bool (decide_eq_false (fun h => hxy (HP.out h))).symm, bel_drewN hb _⟩
      · obtain rfl : k = n := by omega
        rw [List.take_of_length_le (by omega), List.take_of_length_le (by omega)] at heq
        have HE := Lib.hid heq
        clear heq hs ht
        go_wp2
        go_ret
        exact ⟨ret_bool (decide_eq_true HE.out).symm, hb⟩
  · have hne : p ≠ q := fun h => hnm (by rw [← hl, ← hm, h])
    have HN := Lib.hid hne
    have hb1 : ((n : Int) == (m : Int)) = false := by simp; omega
    clear hne hs ht
    go_wp2
    go_ret
    exact ⟨ret_bool (decide_eq_false HN.out).symm, Below.refl _ _⟩
end Go.Proofs.YtbbmgcdocolakaaGreatDoor
/-
  Contracts: wire.Pack, Unpack; the document's Parcel.
-/
namespace Go.Proofs.YtbbmgcdocolakaaGreatDoor
open Go.RowKit
set_option maxRecDepth 100000

set_option maxHeartbeats 2000000 in
theorem Pack_any (kd : Int) (l : List Int) (A : Option Addr) (n c : Nat) (w : World) (hk : 0 ≤ kd ∧ kd ≤ 255) (hl : l.length = n) (hn : n ≤ 4000000000) (hb : Bys l) (hs : Sl w 1 A n (l.map (Value.int .u8))) :
    Calls Tryz.prog 45 #[.int .u8 kd, .slice A n c] w fun e w' => ∃ C k, e = .returned (.slice C (n + 13) k) ∧ Sl w' 1 C (n + 13) ((packL kd l).map (Value.int .u8)) ∧ (n + 13 ≤ k ∧ k ≤ 9223372036854775807) ∧ Below w.heap.size w w' := by
  have kc := fun (w : World) (C : Array Value) (n c : Nat) => Lib.run_convert_bytes_const (P := Tryz.prog) w 42 5 C n c Tryz.underlying42 Tryz.underlying5
  have HS := Lib.hid hs
  have HB := Lib.hid hb
  clear hs hb
  go_enter Tryz.func45, Tryz.ntmps45
  have h1 := (Sl.newMark w [.int .u8 70, .int .u8 87, .int .u8 82, .int .u8 75] 5 (4, 5) 4 rfl).alloc (.cells #[.int .u8 kd] 5)
  have h2 := Sl.newAt (w.alloc (.cells #[.int .u8 70, .int .u8 87, .int .u8 82, .int .u8 75] 5 (4, 5))) [.int .u8 kd] 5 1 rfl
  rw [World.size_alloc] at h2
  have H1 := Lib.hid h1
  have H2 := Lib.hid h2
  have hb1 := bel_al (bel_al (Below.refl w.heap.size w) (.cells #[.int .u8 70, .int .u8 87, .int .u8 82, .int .u8 75] 5 (4, 5))) (.cells #[.int .u8 kd] 5)
  have HB1 := Lib.hid hb1
  clear h1 h2 hb1
  go_wp2_with (at_builtin; refine wpList_full elemByte _ _ rfl rfl H1.out (by omega) H2.out (by omega) rfl rfl (by simp [Value.oneCell']) (by unfold lim; omega) (by unfold lim; omega) ?_; intro v' w5 hown1 hb5)
  have HB5 := Lib.hid (HB1.out.andThen hb5)
  have HO1 := Lib.hid (own_mono hown1 (show w.heap.size ≤ _ by simp; omega))
  clear hown1 hb5 H1 H2 HB1
  refine (word_own n (by omega) (fwrk ++ [kd]) v' 5 w.heap.size w5 rfl HO1.out HB5.out.size (by omega)).mono ?_
  rintro e w6 ⟨v6, rfl, hown6, hg6⟩
  have HB6 := Lib.hid (HB5.out.trans (hg6.belowOwn HB5.out.size HO1.out))
  have HO6 := Lib.hid hown6
  have HS6 := Lib.hid (HS.out.keep HB6.out)
  clear hown6 hg6 HB5 HO1 HS
  go_wp2_with (at_builtin; refine wpList_cat_at elemByte _ _ rfl rfl HO6.out HB6.out.size HS6.out rfl rfl (one_u8 _) (by unfold lim; omega) (by unfold lim; omega) ?_; intro v7 w7 hown7 hg7)
  have HB7 := Lib.hid (HB6.out.trans (hg7.belowOwn HB6.out.size HO6.out))
  have HO7 := Lib.hid hown7
  clear hown7 hg7 HO6 HB6 HS6
  obtain ⟨g7, c7, rfl, _⟩ := own_form HO7.out (by omega)
  have hpre : List.map (Value.int IntKind.u8) (fwrk ++ [kd] ++ wordL n) ++ List.map (Value.int IntKind.u8) l = (preL kd l).map (Value.int .u8) := by
    rw [← List.map_append, preL, hl]; simp
  rw [hpre] at HO7
  have hpl : (preL kd l).length = 5 + 4 + n := by rw [preL_len, hl]; omega
  have HP := Lib.hid (Sum_any (preL kd l) _ _ c7 w7 hpl (by omega) (preL_bys hk HB.out) (Sl.of_own HO7.out))
  have HW := Lib.hid (word_own (sumL (preL kd l)) (sumL_lt _) (preL kd l) _ _ w.heap.size w7 hpl HO7.out HB7.out.size (by omega))
  clear hpre
  refine HP.out.mono ?_
  rintro e w8 ⟨rfl, rfl⟩
  clear HP
  go_wp2_with fail
  refine HW.out.mono ?_
  rintro e w8 ⟨v8, rfl, hown8, hg8⟩
  have HB8 := Lib.hid (HB7.out.trans (hg8.belowOwn HB7.out.size HO7.out))
  rw [show 5 + 4 + n + 4 = n + 13 by omega] at hown8
  obtain ⟨g8, c8, rfl, _⟩ := own_form hown8 (by omega)
  have HO8 := Lib.hid hown8
  clear hown8 hg8 HO7 HB7 HW
  go_wp2_with fail
  go_ret
  exact ⟨_, _, rfl, Sl.of_own HO8.out, own_cap HO8.out, HB8.out⟩

theorem Sum_q (l : List Int) (A : Option Addr) (n c : Nat) (w : World) (hl : l.length = n) (hn : n ≤ 1099511627776) (hb : Bys l) (hs : Sl w 1 A n (l.map (Value.int .u8))) :
    Calls Tryz.prog 78 #[.slice A n c] w fun e w' => e = .returned (.int .u32 (sumL l : Nat)) ∧ ∃ m, w' = w.drewN m :=
  (Sum_any l A n c w hl hn hb hs).mono fun _ _ h => ⟨h.1, 0, by rw [← h.2]; rfl⟩

def txtMark : ByteArray := ⟨#[109, 97, 114, 107]⟩
def txtParcel : ByteArray := ⟨#[112, 97, 114, 99, 101, 108]⟩
/-- The error that a parcel's fault makes. -/
def unE (l : List Int) : Err := match unW l with
  | 0 => .nil
  | 1 => .flt 2 0 txtMark
  | 4 => .flt 2 0 txtParcel
  | 5 => .flt 8 0 txtParcel
  | _ => .flt 9 0 txtParcel
def unK (l : List Int) : Int := if unW l = 0 then l.getD 4 0 else 0
def unB (l : List Int) : List Int := if unW l = 0 then (l.drop 9).take (wordN (l.drop 5)) else []

theorem mark_test {l : List Int} (hb : Bys l) (h4 : 4 ≤ l.length) : ((strOfNums (l.take 4)).toList == [70, 87, 82, 75]) = decide (l.take 4 = fwrk) := by
  obtain ⟨a, b, c, d, e, he⟩ := four h4
  have h1 := hb a (by rw [he]; simp)
  have h2 := hb b (by rw [he]; simp)
  have h3 := hb c (by rw [he]; simp)
  have h5 := hb d (by rw [he]; simp)
  rw [Lib.toList_data, strOfNums_data, e]
  have hu : ∀ (x : Int) (k : Nat), 0 ≤ x ∧ x ≤ 255 → k < 256 → ((UInt8.ofNat x.toNat = UInt8.ofNat k) ↔ x = k) := by
    intro x k hx hk
    rw [← UInt8.toNat_inj, UInt8.toNat_ofNat', UInt8.toNat_ofNat', Nat.mod_eq_of_lt (by omega), Nat.mod_eq_of_lt (by omega)]
    omega
  have e1 := hu a 70 h1 (by omega)
  have e2 := hu b 87 h2 (by omega)
  have e3 := hu c 82 h3 (by omega)
  have e4 := hu d 75 h5 (by omega)
  rw [show ([70, 87, 82, 75] : List UInt8) = [UInt8.ofNat 70, UInt8.ofNat 87, UInt8.ofNat 82, UInt8.ofNat 75] from rfl]
  rw [Bool.eq_iff_iff, decide_eq_true_iff, beq_iff_eq]
  simp only [List.map_cons, List.map_nil, fwrk, List.cons.injEq, and_true, e1, e2, e3, e4]
  omega

def UnPost (l : List Int) (w : World) (e : Ending) (w' : World) : Prop :=
  ∃ C k ev, e = .returned (.tuple #[.int .u8 (unK l), .slice C (unB l).length k, ev]) ∧ (unE l).At w' ev ∧ Sl w' 1 C (unB l).length ((unB l).map (Value.int .u8)) ∧ ((unB l).length ≤ k ∧ k ≤ 9223372036854775807) ∧ Below w.heap.size w w'
theorem un_bad {l : List Int} {w w' : World} {c : Int} {t : ByteArray} {ev : Value} (h : unW l ≠ 0) (hE : unE l = .flt c 0 t) (hev : (Err.flt c 0 t).At w' ev) (hb : Below w.heap.size w w') : UnPost l w (.returned (.tuple #[.int .u8 0, .slice none 0 0, ev])) w' := by
  have hk : unK l = 0 := by rw [unK, if_neg h]
  have hB : unB l = [] := by rw [unB, if_neg h]
  refine ⟨none, 0, ev, by rw [hk, hB]; rfl, by rw [hE]; exact hev, by rw [hB]; exact Sl.nil _ _ _, by rw [hB]; exact ⟨Nat.le_refl _, by omega⟩, hb⟩

set_option maxHeartbeats 2000000 in
/-- wire.Unpack: its beginning is another one. -/
theorem Unpack_1 (l : List Int) (A : Option Addr) (n c : Nat) (w : World) (hnc : n ≤ c) (hl : l.length = n) (hb : Bys l) (hs : Sl w 1 A n (l.map (Value.int .u8))) (h4 : 4 ≤ n) (hne : l.take 4 ≠ fwrk) :
    Calls Tryz.prog 69 #[.slice A n c] w (UnPost l w) := by
  obtain ⟨g, off, rfl, hc⟩ := hs.2 (by omega)
  have hcv := run_convert_bytes_arg (P := Tryz.prog) w 42 5 Tryz.underlying42 Tryz.underlying5 g off 4 c (l.take 4) (by simp; omega) (fun i hi => hc i _ (by
    rw [List.getElem?_map, List.getD_eq_getElem?_getD, List.getElem?_take, if_pos hi, List.getElem?_eq_getElem (by omega)]; rfl))
  have hcv2 := hcv 9 Tryz.underlying9
  have hmt := mark_test hb (by omega)
  rw [decide_eq_false hne] at hmt
  have hW : unW l = 1 := by unfold unW; rw [if_pos ⟨by omega, hne⟩]
  have HW := Lib.hid hW
  clear hc hs hcv hW
  go_enter Tryz.func69, Tryz.ntmps69
  go_wp2_with fail
  refine (New_err 2 0 txtMark w).mono ?_
  rintro e w1 ⟨v, rfl, hv, hb1⟩
  have HV := Lib.hid hv
  clear hv
  go_wp2_with fail
  go_ret3
  exact un_bad (by rw [HW.out]; omega) (by rw [unE, HW.out]; rfl) HV.out hb1

set_option maxHeartbeats 2000000 in
/-- wire.Unpack: too short for any. -/
theorem Unpack_2 (l : List Int) (A : Option Addr) (n c : Nat) (w : World) (hnc : n ≤ c) (hl : l.length = n) (hb : Bys l) (hs : Sl w 1 A n (l.map (Value.int .u8))) (h13 : n < 13) (hne : 4 ≤ n → l.take 4 = fwrk) :
    Calls Tryz.prog 69 #[.slice A n c] w (UnPost l w) := by
  have hW : unW l = 2 := by unfold unW; rw [if_neg (fun h => h.2 (hne (by omega))), if_pos (by omega)]
  have HW := Lib.hid hW
  clear hW
  by_cases h4 : 4 ≤ n
  · obtain ⟨g, off, rfl, hc⟩ := hs.2 (by omega)
    have hcv := run_convert_bytes_arg (P := Tryz.prog) w 42 5 Tryz.underlying42 Tryz.underlying5 g off 4 c (l.take 4) (by simp; omega) (fun i hi => hc i _ (by
      rw [List.getElem?_map, List.getD_eq_getElem?_getD, List.getElem?_take, if_pos hi, List.getElem?_eq_getElem (by omega)]; rfl))
    have hcv2 := hcv 9 Tryz.underlying9
    have hmt := mark_test hb (by omega)
    rw [decide_eq_true (hne h4)] at hmt
    clear hc hs hcv hne
    go_enter Tryz.func69, Tryz.ntmps69
    go_wp2_with fail
    refine (New_err 9 0 txtParcel w).mono ?_
    rintro e w1 ⟨v, rfl, hv, hb1⟩
    have HV := Lib.hid hv
    clear hv
    go_wp2_with fail
    go_ret3
    exact un_bad (by rw [HW.out]; omega) (by rw [unE, HW.out]; rfl) HV.out hb1
  · clear hs hne
    go_enter Tryz.func69, Tryz.ntmps69
    go_wp2_with fail
    refine (New_err 9 0 txtParcel w).mono ?_
    rintro e w1 ⟨v, rfl, hv, hb1⟩
    have HV := Lib.hid hv
    clear hv
    go_wp2_with fail
    go_ret3
    exact un_bad (by rw [HW.out]; omega) (by rw [unE, HW.out]; rfl) HV.out hb1

set_option maxHeartbeats 4000000 in
/-- wire.Unpack: long enough. -/
theorem Unpack_3 (l : List Int) (A : Option Addr) (n c : Nat) (w : World) (hnc : n ≤ c) (hc9 : c ≤ 9223372036854775807) (hn : n ≤ 1099511627776) (hl : l.length = n) (hb : Bys l) (hs : Sl w 1 A n (l.map (Value.int .u8))) (h13 : 13 ≤ n) (hm : l.take 4 = fwrk) :
    Calls Tryz.prog 69 #[.slice A n c] w (UnPost l w) := by
  obtain ⟨g, off, rfl, hc⟩ := hs.2 (by omega)
  have hcv := run_convert_bytes_arg (P := Tryz.prog) w 42 5 Tryz.underlying42 Tryz.underlying5 g off 4 c (l.take 4) (by simp; omega) (fun i hi => hc i _ (by
    rw [List.getElem?_map, List.getD_eq_getElem?_getD, List.getElem?_take, if_pos hi, List.getElem?_eq_getElem (by omega)]; rfl))
  have hcv2 := hcv 9 Tryz.underlying9
  have hmt := mark_test hb (by omega)
  rw [decide_eq_true hm] at hmt
  have hd5 : ∀ W, Sl W 1 (some ⟨g, off, none⟩) n (l.map (Value.int .u8)) → Sl W 1 (some ⟨g, off + 5, none⟩) (n - 5) ((l.drop 5).map (Value.int .u8)) := fun W h => by rw [List.map_drop]; exact h.drop (by omega)
  have HA := Lib.hid (wordAt_any (l.drop 5) _ (n - 5) (c - 5) w (by rw [List.length_drop]; omega) (by omega) (hb.drop 5) (hd5 w hs))
  have HN := Lib.hid (wordN_lt (hb.drop 5))
  have HS := Lib.hid hs
  have HB := Lib.hid hb
  clear hc hs hcv hd5 hb
  have hW1 : ¬ (4 ≤ l.length ∧ l.take 4 ≠ fwrk) := fun h => h.2 hm
  have HW1 := Lib.hid hW1
  clear hW1 hm
  go_enter Tryz.func69, Tryz.ntmps69
  go_wp2_with fail
  refine HA.out.mono ?_
  rintro e w2 ⟨rfl, hq⟩
  have HQ := Lib.hid (drew_bel hq)
  replace HS := Lib.hid (HS.out.keep HQ.out)
  clear hq
  have hN := HN.out
  by_cases c1 : n - 13 < wordN (l.drop 5)
  · have HW := Lib.hid (show unW l = 3 by unfold unW; rw [if_neg HW1.out, if_neg (by omega), if_pos (by omega)])
    clear HA HN
    generalize wordN (l.drop 5) = N at *
    go_wp2_with fail
    refine (New_err 9 0 txtParcel _).mono ?_
    rintro e w1 ⟨v, rfl, hv, hb1⟩
    have HV := Lib.hid hv
    clear hv
    go_wp2_with fail
    go_ret3
    exact un_bad (by rw [HW.out]; omega) (by rw [unE, HW.out]; rfl) HV.out (HQ.out.andThen hb1)
  · by_cases c2 : wordN (l.drop 5) < n - 13
    · have HW := Lib.hid (show unW l = 4 by unfold unW; rw [if_neg HW1.out, if_neg (by omega), if_neg (by omega), if_pos (by omega)])
      clear HA HN
      generalize wordN (l.drop 5) = N at *
      go_wp2_with fail
      refine (New_err 2 0 txtParcel _).mono ?_
      rintro e w1 ⟨v, rfl, hv, hb1⟩
      have HV := Lib.hid hv
      clear hv
      go_wp2_with fail
      go_ret3
      exact un_bad (by rw [HW.out]; omega) (by rw [unE, HW.out]; rfl) HV.out (HQ.out.andThen hb1)
    · have hNe : wordN (l.drop 5) = n - 13 := by omega
      have HNe := Lib.hid hNe
      have HW5 := Lib.hid (show wordN (l.drop (9 + wordN (l.drop 5))) ≠ sumL (l.take (9 + wordN (l.drop 5))) → unW l = 5 by intro h; unfold unW; rw [if_neg HW1.out, if_neg (by omega), if_neg (by omega), if_neg (by omega), if_pos h])
      have HW0 := Lib.hid (show wordN (l.drop (9 + wordN (l.drop 5))) = sumL (l.take (9 + wordN (l.drop 5))) → unW l = 0 by intro h; unfold unW; rw [if_neg HW1.out, if_neg (by omega), if_neg (by omega), if_neg (by omega), if_neg (fun h' => h' h)])
      clear HA HN hNe
      generalize hNN : wordN (l.drop 5) = N at *
      have HNN := Lib.hid hNN
      clear hNN
      have hN13 : N + 13 = n := by have := HNe.out; omega
      have HA2 := Lib.hid (fun W (h : Sl W 1 (some ⟨g, off, none⟩) n (l.map (Value.int .u8))) => wordAt_any (l.drop (9 + N)) (some ⟨g, off + (9 + N), none⟩) (n - (9 + N)) (c - (9 + N)) W (by rw [List.length_drop]; omega) (by omega) (HB.out.drop _) (by rw [List.map_drop]; exact h.drop (by omega)))
      have HS2 := Lib.hid (fun W (h : Sl W 1 (some ⟨g, off, none⟩) n (l.map (Value.int .u8))) => Sum_q (l.take (9 + N)) (some ⟨g, off, none⟩) (9 + N) c W (by rw [List.length_take]; omega) (by omega) (HB.out.take _) (by rw [List.map_take]; exact h.take (by omega)))
      have hE0 : (0 : Int) ≤ 9 + (N : Int) := by omega
      have hE1 : 9 + (N : Int) ≤ (n : Int) := by omega
      have hE2 : 9 + (N : Int) ≤ (c : Int) := by omega
      have hE3 : ¬ c = 9 + N := by omega
      have hE4 : (9 + (N : Int)).toNat = 9 + N := by omega
      generalize wordN (l.drop (9 + N)) = X at *
      generalize sumL (l.take (9 + N)) = Y at *
      go_wp2_with fail
      go_quiet (first | (go_at_call 93; exact Calls.quiet_of (HA2.out _ HS.out)) | (go_at_call 78; exact Calls.quiet_of (HS2.out _ HS.out)))
      obtain ⟨w3, hw3⟩ : ∃ w3, w3 = w2.drewN nq := ⟨_, rfl⟩
      rw [← hw3]
      have HQ3 := Lib.hid (HQ.out.andThen (drew_bel ⟨nq, hw3⟩))
      have HS3 := Lib.hid (HS.out.keep (drew_bel ⟨nq, hw3⟩))
      clear hw3 HA2 HS2 HS HQ
      by_cases hXY : X = Y
      · subst hXY
        have HW := Lib.hid (HW0.out rfl)
        clear HW0 HW5
        have hk4 : l[4]? = some l[4] := List.getElem?_eq_getElem (by omega)
        have hcell := HS3.out.again (k := 4) (by omega) (u := .int .u8 l[4]) (by rw [List.getElem?_map, hk4]; rfl)
        have HK := Lib.hid (show unK l = l[4] by rw [unK, if_pos HW.out, List.getD_eq_getElem?_getD, hk4]; rfl)
        have HU := Lib.hid (show unB l = (l.drop 9).take N by rw [unB, if_pos HW.out, HNN.out])
        have HSl := Lib.hid (fun W (h : Sl W 1 (some ⟨g, off, none⟩) n (l.map (Value.int .u8))) => (by
          have h1 := (h.drop (k := 9) (by omega)).take (k := N) (by omega)
          rwa [← List.map_drop, ← List.map_take] at h1 : Sl W 1 (some ⟨g, off + 9, none⟩) N (((l.drop 9).take N).map (Value.int .u8))))
        have HK4 := Lib.hid hk4
        clear hk4
        generalize l[4] = k4 at *
        have hE5 : ¬ c = 9 := by omega
        have hE7 : (4 : Int) < (n : Int) := by omega
        have hE6 : (9 : Int) ≤ 9 + (N : Int) := by omega
        go_wp2_with fail
        have HB1 := Lib.hid (show w3.heap.size ≤ (w3.alloc (.cells #[] 5)).drew.heap.size by simp)
        have HO1 := Lib.hid (show (w3.alloc (.cells #[] 5)).drew.ownsRow w3.heap.size 5 1 (.slice (some ⟨w3.heap.size, 0, none⟩) 0 0) 0 [] from World.ownsRow_made w3 #[] 0 (Nat.le_refl _) (Nat.zero_le _) rfl)
        have HL1 := Lib.hid (show (0 + N) * 1 ≤ lim by unfold lim; omega)
        have HL2 := Lib.hid (show 0 + N ≤ lim by unfold lim; omega)
        have HCell := Lib.hid (fun W (h : Below w3.heap.size w3 W) => (HS3.out.keep h).again (k := 4) (by omega) (u := .int .u8 k4) (by rw [List.getElem?_map, HK4.out]; rfl))
        have hcell2 := HCell.out (w3.alloc (.cells #[] 5)) (bel_al (Below.refl _ _) _)
        have HGB := Lib.hid (fun v' w' (h : Gr (w3.alloc (.cells #[] 5)).drew w' (.slice (some ⟨w3.heap.size, 0, none⟩) 0 0) v') => (show Below w3.heap.size w3 (w3.alloc (.cells #[] 5)).drew from bel_drewN (bel_al (Below.refl _ _) _) 1).trans (h.belowOwn HB1.out HO1.out))
        go_region_law (refine step_cat_at elemByte (.tmp 55) (.tmp 58) rfl rfl HO1.out HB1.out (c := c - 9) (HSl.out _ (HS3.out.alloc _)) rfl rfl (one_u8 _) HL1.out HL2.out ?_; intro v' w' hown' hgr'; have hbw := HGB.out v' w' hgr'; have hcw := HCell.out w' hbw)
        all_goals
          go_wp2_with fail
          go_ret3
          rw [List.nil_append, Nat.zero_add] at hown'
          obtain ⟨C, k, hv', hsl⟩ := Sl.own hown'
          have hlu : (unB l).length = N := by rw [HU.out, List.length_take, List.length_drop]; omega
          refine ⟨C, k, .nilIface, by rw [HK.out, hlu, ← hv']; rfl, by rw [unE, HW.out]; rfl, by rw [hlu, HU.out]; exact hsl, ?_, HQ3.out.andThen hbw⟩
          rw [hv'] at hown'
          rw [hlu]
          exact own_cap hown'
      · have HW := Lib.hid (HW5.out hXY)
        clear HW0 HW5
        have hXY' : ((X : Int) != (Y : Int)) = true := by simp; omega
        go_wp2_with fail
        refine (New_err 8 0 txtParcel _).mono ?_
        rintro e w1 ⟨v, rfl, hv, hb1⟩
        have HV := Lib.hid hv
        clear hv
        go_wp2_with fail
        go_ret3
        exact un_bad (by rw [HW.out]; omega) (by rw [unE, HW.out]; rfl) HV.out (HQ3.out.andThen hb1)

/-- wire.Unpack. -/
theorem Unpack_any (l : List Int) (A : Option Addr) (n c : Nat) (w : World) (hnc : n ≤ c) (hc9 : c ≤ 9223372036854775807) (hn : n ≤ 1099511627776) (hl : l.length = n) (hb : Bys l) (hs : Sl w 1 A n (l.map (Value.int .u8))) :
    Calls Tryz.prog 69 #[.slice A n c] w (UnPost l w) := by
  by_cases h4 : 4 ≤ n
  · by_cases hm : l.take 4 = fwrk
    · by_cases h13 : n < 13
      · exact Unpack_2 l A n c w hnc hl hb hs h13 fun _ => hm
      · exact Unpack_3 l A n c w hnc hc9 hn hl hb hs (by omega) hm
    · exact Unpack_1 l A n c w hnc hl hb hs h4 hm
  · exact Unpack_2 l A n c w hnc hl hb hs (by omega) fun h => absurd h h4
end Go.Proofs.YtbbmgcdocolakaaGreatDoor
/-
  The document's Parcel; chapter 03's alive.
-/
namespace Go.Proofs.YtbbmgcdocolakaaGreatDoor
open Go.RowKit
set_option maxRecDepth 100000

theorem unK_pack (kd : Int) (l : List Int) (h : l.length < 4294967296) : unK (packL kd l) = kd := by
  rw [unK, if_pos (unW_pack kd l h), List.getD_eq_getElem?_getD, (packL_parts kd l).2.2.2.2.1]; rfl
theorem unB_pack (kd : Int) (l : List Int) (h : l.length < 4294967296) : unB (packL kd l) = l := by
  rw [unB, if_pos (unW_pack kd l h), (packL_parts kd l).2.1, wordN_of h, (packL_parts kd l).2.2.2.2.2]
theorem unE_pack (kd : Int) (l : List Int) (h : l.length < 4294967296) : unE (packL kd l) = .nil := by rw [unE, unW_pack kd l h]; rfl
theorem unE_nil {l : List Int} (h : unE l = .nil) : unW l = 0 := by
  unfold unE at h
  split at h
  · assumption
  all_goals cases h
theorem unE_bad {l : List Int} (h : unW l ≠ 0) : unE l ≠ .nil := fun e => h (unE_nil e)

set_option maxHeartbeats 2000000 in
theorem Parcel_any (kd : Int) (l : List Int) (A : Option Addr) (n c : Nat) (w : World) (hk : 0 ≤ kd ∧ kd ≤ 255) (hl : l.length = n) (hn : n ≤ 4000000000) (hb : Bys l) (hs : Sl w 1 A n (l.map (Value.int .u8))) :
    Calls Tryz.prog 22 #[.int .u8 kd, .slice A n c] w fun e w' => ∃ C k, e = .returned (.slice C (n + 13) k) ∧ Sl w' 1 C (n + 13) ((packL kd l).map (Value.int .u8)) ∧ Below w.heap.size w w' := by
  have kc := fun (w : World) (C : Array Value) (n c : Nat) => Lib.run_convert_bytes_const (P := Tryz.prog) w 42 5 C n c Tryz.underlying42 Tryz.underlying5
  have HS := Lib.hid hs
  have HB := Lib.hid hb
  clear hs hb
  go_enter Tryz.func22, Tryz.ntmps22
  have h1 := (Sl.newMark w [.int .u8 70, .int .u8 87, .int .u8 82, .int .u8 75] 5 (4, 5) 4 rfl).alloc (.cells #[.int .u8 kd] 5)
  have h2 := Sl.newAt (w.alloc (.cells #[.int .u8 70, .int .u8 87, .int .u8 82, .int .u8 75] 5 (4, 5))) [.int .u8 kd] 5 1 rfl
  rw [World.size_alloc] at h2
  have H1 := Lib.hid h1
  have H2 := Lib.hid h2
  have hb1 := bel_al (bel_al (Below.refl w.heap.size w) (.cells #[.int .u8 70, .int .u8 87, .int .u8 82, .int .u8 75] 5 (4, 5))) (.cells #[.int .u8 kd] 5)
  have HB1 := Lib.hid hb1
  clear h1 h2 hb1
  go_wp2_with (at_builtin; refine wpList_full elemByte _ _ rfl rfl H1.out (by omega) H2.out (by omega) rfl rfl (by simp [Value.oneCell']) (by unfold lim; omega) (by unfold lim; omega) ?_; intro v' w5 hown1 hb5)
  have HB5 := Lib.hid (HB1.out.andThen hb5)
  have HO1 := Lib.hid (own_mono hown1 (show w.heap.size ≤ _ by simp; omega))
  clear hown1 hb5 H1 H2 HB1
  refine (RefWord_any n (by omega) w5).mono ?_
  rintro e w6 ⟨A6, c6, rfl, hs6, hb6⟩
  have HB6 := Lib.hid (HB5.out.andThen hb6)
  have HO6 := Lib.hid (own_below HO1.out (fun g hg => (HO1.out.lt g hg).2) hb6)
  have HW6 := Lib.hid hs6
  clear hs6 hb6 HB5 HO1
  go_wp2_with (first
    | (at_builtin; refine wpList_cat_at elemByte _ _ rfl rfl HO6.out HB6.out.size HW6.out rfl rfl (one_u8 _) (by unfold lim; omega) (by unfold lim; omega) ?_; intro v7 w7 hown7 hg7; have HB7 := Lib.hid (HB6.out.trans (hg7.belowOwn HB6.out.size HO6.out)); have HO7 := Lib.hid hown7; have HS7 := Lib.hid (HS.out.keep HB7.out); clear hown7 hg7 HO6 HB6 HW6 HS)
    | (at_builtin; refine wpList_cat_at elemByte _ _ rfl rfl HO7.out HB7.out.size HS7.out rfl rfl (one_u8 _) (by unfold lim; omega) (by unfold lim; omega) ?_; intro v8 w8 hown8 hg8; have HB8 := Lib.hid (HB7.out.trans (hg8.belowOwn HB7.out.size HO7.out)); have HO8 := Lib.hid hown8; clear hown8 hg8 HO7 HB7 HS7))
  obtain ⟨g8, c8, rfl, _⟩ := own_form HO8.out (by omega)
  have hpre : [Value.int .u8 70, .int .u8 87, .int .u8 82, .int .u8 75] ++ [Value.int .u8 kd] ++ (wordL n).map (Value.int .u8) ++ l.map (Value.int .u8) = (preL kd l).map (Value.int .u8) := by
    rw [preL, hl]; simp [fwrk]
  rw [hpre] at HO8
  have hpl : (preL kd l).length = 4 + 1 + 4 + n := by rw [preL_len, hl]; omega
  have HP := Lib.hid (RefSum_any (preL kd l) _ _ c8 w8 hpl (by omega) (preL_bys hk HB.out) (Sl.of_own HO8.out))
  clear hpre
  refine HP.out.mono ?_
  rintro e w9 ⟨rfl, rfl⟩
  clear HP
  have hsl := sumL_lt (preL kd l)
  go_wp2_with fail
  refine (RefWord_any (sumL (preL kd l)) hsl w8).mono ?_
  rintro e w9 ⟨A9, c9, rfl, hs9, hb9⟩
  have HB9 := Lib.hid (HB8.out.andThen hb9)
  have HO9 := Lib.hid (own_below HO8.out (fun g hg => (HO8.out.lt g hg).2) hb9)
  have HW9 := Lib.hid hs9
  clear hs9 hb9 HB8 HO8
  go_wp2_with (at_builtin; refine wpList_cat_at elemByte _ _ rfl rfl HO9.out HB9.out.size HW9.out rfl rfl (one_u8 _) (by unfold lim; omega) (by unfold lim; omega) ?_; intro v10 w10 hown10 hg10)
  have hb10 := HB9.out.trans (hg10.belowOwn HB9.out.size HO9.out)
  rw [← List.map_append, show 4 + 1 + 4 + n + 4 = n + 13 by omega] at hown10
  obtain ⟨C, k, rfl, hsl10⟩ := Sl.own hown10
  have HX := Lib.hid hsl10
  clear hsl10 hown10 hg10
  go_wp2_with fail
  go_ret
  exact ⟨_, _, rfl, HX.out, hb10⟩

theorem Unpack_pack (kd : Int) (l : List Int) (A : Option Addr) (n c : Nat) (w : World) (hk : 0 ≤ kd ∧ kd ≤ 255) (hnc : n + 13 ≤ c) (hc9 : c ≤ 9223372036854775807) (hn : n ≤ 4000000000) (hl : l.length = n) (hb : Bys l) (hs : Sl w 1 A (n + 13) ((packL kd l).map (Value.int .u8))) :
    Calls Tryz.prog 69 #[.slice A (n + 13) c] w fun e w' => ∃ D k, e = .returned (.tuple #[.int .u8 kd, .slice D n k, .nilIface]) ∧ Sl w' 1 D n (l.map (Value.int .u8)) ∧ (n ≤ k ∧ k ≤ 9223372036854775807) ∧ Below w.heap.size w w' := by
  refine (Unpack_any (packL kd l) A (n + 13) c w hnc hc9 (by omega) (by rw [packL_len, hl]) (packL_bys hk hb) hs).mono ?_
  rintro e w3 ⟨D, k3, ev, rfl, hev, hs3, hk3, hb3⟩
  have hl2 : l.length < 4294967296 := by omega
  rw [unE_pack _ _ hl2] at hev
  obtain rfl : ev = .nilIface := hev
  rw [unB_pack _ _ hl2, hl] at hs3 hk3
  exact ⟨D, k3, by rw [unK_pack _ _ hl2, unB_pack _ _ hl2, hl], hs3, hk3, hb3⟩

end Go.Proofs.YtbbmgcdocolakaaGreatDoor
/-
  Errors and their values, one by one; contract of fault.First.
-/
namespace Go.Proofs.YtbbmgcdocolakaaGreatDoor
open Go.RowKit

def Err.first : List Err → Err
  | [] => .nil
  | .nil :: l => Err.first l
  | e :: _ => e
theorem Err.first_cons {E : Err} (h : E ≠ .nil) (l : List Err) : Err.first (E :: l) = E := by cases E <;> first | exact absurd rfl h | rfl

/-- Errors and their values, one by one. -/
def Err.AtAll (w : World) : List Err → List Value → Prop
  | [], vs => vs = []
  | E :: Es, vs => ∃ v vs', vs = v :: vs' ∧ E.At w v ∧ Err.AtAll w Es vs'
theorem Err.AtAll.len {w : World} : ∀ {Es : List Err} {vs : List Value}, Err.AtAll w Es vs → vs.length = Es.length
  | [], _, h => by rw [show _ = [] from h]; rfl
  | _ :: _, _, ⟨_, _, h1, _, h3⟩ => by rw [h1, List.length_cons, List.length_cons, h3.len]
theorem Err.AtAll.at_ {w : World} : ∀ {Es : List Err} {vs : List Value}, Err.AtAll w Es vs → ∀ (k : Nat) (E : Err), Es[k]? = some E → ∃ v, vs[k]? = some v ∧ E.At w v
  | [], _, _, k, E, h => by simp at h
  | _ :: _, _, ⟨v, _, h1, h2, _⟩, 0, E, h => by
    simp at h
    subst h
    exact ⟨v, by rw [h1]; rfl, h2⟩
  | _ :: _, _, ⟨_, _, h1, _, h3⟩, k + 1, E, h => by
    obtain ⟨v, hv, hE⟩ := h3.at_ k E (by simpa using h)
    exact ⟨v, by rw [h1]; simpa using hv, hE⟩
theorem Err.AtAll.keep {w w' : World} (hb : Below w.heap.size w w') : ∀ {Es : List Err} {vs : List Value}, Err.AtAll w Es vs → Err.AtAll w' Es vs
  | [], _, h => h
  | _ :: _, _, ⟨v, vs', h1, h2, h3⟩ => ⟨v, vs', h1, h2.keep hb, h3.keep hb⟩

set_option maxHeartbeats 1000000 in
theorem First_any (Es : List Err) (vs : List Value) (A : Option Addr) (n c : Nat) (w : World) (hn : n ≤ 4294967296) (hl : Es.length = n) (hE : Err.AtAll w Es vs) (hs : Sl w 1 A n vs) :
    Calls Tryz.prog 97 #[.slice A n c] w fun e w' => ∃ v', e = .returned v' ∧ (Err.first Es).At w v' ∧ w = w' := by
  go_enter Tryz.func97, Tryz.ntmps97
  go_wp2
  go_loop [7] (fun i => ∃ k : Nat, k ≤ n ∧ i = .int .i64 k ∧ Hid (Err.first Es = Err.first (Es.drop k))) (fun i => n - (intOf i).toNat)
  case atStart => exact ⟨0, Nat.zero_le _, rfl, rfl⟩
  case round =>
    obtain ⟨k, hk, rfl, HF⟩ := hrel
    by_cases hlt : k < n
    · have hl' : k < Es.length := by omega
      obtain ⟨b, off, u, rfl, e1, c1⟩ := hs.one hlt
      obtain ⟨v, e2, hv⟩ := hE.at_ k Es[k] (List.getElem?_eq_getElem hl')
      obtain rfl : u = v := Option.some.inj (e1.symm.trans e2)
      have HD := Lib.hid (List.drop_eq_getElem_cons hl')
      have HV := Lib.hid hv
      clear e1 e2 hE hs hl
      by_cases hz : Es[k] = .nil
      · rw [hz] at hv
        obtain rfl : u = .nilIface := hv
        have HZ := Lib.hid hz
        clear hz
        go_wp2
        go_round
        case rel => exact ⟨k + 1, by omega, by go_num, by show _ = _; rw [HF.out, HD.out, HZ.out]; rfl⟩
        case measure => simp [intOf]; omega
      · obtain ⟨T, x, rfl⟩ := Err.At.iface_ hv hz
        have HZ := Lib.hid hz
        clear hv hz
        go_wp2
        go_ret
        exact ⟨_, rfl, by rw [HF.out, HD.out, Err.first_cons HZ.out]; exact HV.out, rfl⟩
    · have HD := Lib.hid (show Es.drop k = [] from List.drop_eq_nil_of_le (by omega))
      clear hl hE hs
      go_wp2
      go_ret
      exact ⟨_, rfl, by rw [HF.out, HD.out]; rfl, rfl⟩
end Go.Proofs.YtbbmgcdocolakaaGreatDoor
