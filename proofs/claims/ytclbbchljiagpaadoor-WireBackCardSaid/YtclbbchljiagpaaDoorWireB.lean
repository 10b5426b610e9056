/-
  Contracts: wire.word, wordAt, Sum; the document's Word, Sum, Same (bytes).
-/
import Derived.Test.YtclbbchljiagpaaDoorChain2
import Derived.Test.YtclbbchljiagpaaDoorWireA
import Derived.Test.YtclbbchljiagpaaDoorWords3
import Derived.Deep.DeepCutAuto
import Derived.BigQuiet
import Derived.Deep.QuietTactic
namespace Go.Proofs.YtclbbchljiagpaaDoor
open Go.RowKit
set_option maxRecDepth 100000

theorem elemByte : Elem Tryd.prog 22 5 (.int .u8 0) 1 1 := ⟨Tryd.underlying22, by kernel_rfl, rfl, by decide⟩
theorem wordL_map (k : Nat) : (wordL k).map (Value.int .u8) = [.int .u8 ((k / 16777216 % 256 : Nat) : Int), .int .u8 ((k / 65536 % 256 : Nat) : Int), .int .u8 ((k / 256 % 256 : Nat) : Int), .int .u8 ((k % 256 : Nat) : Int)] := rfl

theorem or_join (a b s : Nat) (hb : b < 2 ^ s) : (a * 2 ^ s ||| b) = a * 2 ^ s + b := by
  rw [← Nat.shiftLeft_eq, Nat.shiftLeft_add_eq_or_of_lt hb]
theorem bits_or_u32 (a b : Nat) (ha : a < 4294967296) (hb : b < 4294967296) : bits .or .u32 (a : Int) (b : Int) = ((a ||| b : Nat) : Int) := by
  have h1 : (BitVec.ofInt 32 (a : Int) ||| BitVec.ofInt 32 (b : Int)).toNat = a ||| b := by
    rw [BitVec.toNat_or, BitVec.ofInt_natCast, BitVec.ofInt_natCast, BitVec.toNat_ofNat, BitVec.toNat_ofNat, Nat.mod_eq_of_lt (by omega), Nat.mod_eq_of_lt (by omega)]
  have h2 : a ||| b < 2 ^ 32 := Nat.or_lt_two_pow (by omega) (by omega)
  show IntKind.u32.wrap (((BitVec.ofInt 32 (a : Int) ||| BitVec.ofInt 32 (b : Int)).toNat : Nat) : Int) = _
  rw [h1]
  exact IntWalk.u32_in _ (by omega)
theorem or_sum (y x : Nat) (hy : y < 65521) (hx : x < 65521) : bits .or .u32 ((y : Int) * 65536) (x : Int) = ((y * 65536 + x : Nat) : Int) := by
  have := bits_or_u32 (y * 65536) x (by omega) (by omega)
  rw [or_join y x 16 (by omega)] at this
  rw [show (y : Int) * 65536 = ((y * 65536 : Nat) : Int) by omega]
  exact this
theorem or_word (a b c d : Nat) (ha : a < 256) (hb : b < 256) (hc : c < 256) (hd : d < 256) :
    bits .or .u32 (bits .or .u32 (bits .or .u32 ((a : Int) * 16777216) ((b : Int) * 65536)) ((c : Int) * 256)) (d : Int) = ((a * 16777216 + b * 65536 + c * 256 + d : Nat) : Int) := by
  have e1 := bits_or_u32 (a * 16777216) (b * 65536) (by omega) (by omega)
  have o1 := or_join a (b * 65536) 24 (by omega)
  rw [show (2 : Nat) ^ 24 = 16777216 from rfl] at o1
  rw [o1] at e1
  have e2 := bits_or_u32 (a * 16777216 + b * 65536) (c * 256) (by omega) (by omega)
  have o2 := or_join (a * 256 + b) (c * 256) 16 (by omega)
  rw [show (2 : Nat) ^ 16 = 65536 from rfl, show (a * 256 + b) * 65536 = a * 16777216 + b * 65536 by omega] at o2
  rw [o2] at e2
  have e3 := bits_or_u32 (a * 16777216 + b * 65536 + c * 256) d (by omega) (by omega)
  have o3 := or_join (a * 65536 + b * 256 + c) d 8 (by omega)
  rw [show (2 : Nat) ^ 8 = 256 from rfl, show (a * 65536 + b * 256 + c) * 256 = a * 16777216 + b * 65536 + c * 256 by omega] at o3
  rw [o3] at e3
  rw [show (a : Int) * 16777216 = ((a * 16777216 : Nat) : Int) by omega, show (b : Int) * 65536 = ((b * 65536 : Nat) : Int) by omega, show (c : Int) * 256 = ((c * 256 : Nat) : Int) by omega, e1, e2, e3]

set_option maxHeartbeats 1000000 in
theorem word_own (k : Nat) (hk : k < 4294967296) (l : List Int) (v : Value) (n B : Nat) (w : World) (hn : l.length = n) (hown : w.ownsRow B 5 1 v n (l.map (Value.int .u8))) (hB : B ≤ w.heap.size) (hl : n ≤ 1099511627776) :
    Calls Tryd.prog 63 #[v, .int .u32 k] w fun e w' => ∃ v', e = .returned v' ∧ w'.ownsRow B 5 1 v' (n + 4) ((l ++ wordL k).map (Value.int .u8)) ∧ Gr w w' v v' := by
  have hw : [Value.int .u8 ((k : Int) / 16777216), .int .u8 ((k : Int) / 65536 % 256), .int .u8 ((k : Int) / 256 % 256), .int .u8 ((k : Int) % 256)] = (wordL k).map (Value.int .u8) := by
    rw [wordL_map, show ((k / 16777216 % 256 : Nat) : Int) = (k : Int) / 16777216 by omega, show ((k / 65536 % 256 : Nat) : Int) = (k : Int) / 65536 % 256 by omega, show ((k / 256 % 256 : Nat) : Int) = (k : Int) / 256 % 256 by omega, show ((k % 256 : Nat) : Int) = (k : Int) % 256 by omega]
  have HW := Lib.hid hw
  clear hw
  go_enter Tryd.func63, Tryd.ntmps63
  go_wp2_with (at_builtin; refine wpList_cat_at elemByte _ _ rfl rfl (hown.alloc _) (by simp; omega) (Sl.newAt w _ _ 4 rfl) rfl rfl (by simp [Value.oneCell']) (by unfold lim; omega) (by unfold lim; omega) ?_; intro v' w5 hown1 hgr)
  go_ret
  rw [HW.out] at hown1
  exact ⟨v', rfl, by rw [List.map_append]; exact hown1, hgr.after_alloc⟩

set_option maxHeartbeats 1000000 in
theorem wordAt_any (l : List Int) (A : Option Addr) (n c : Nat) (w : World) (hl : l.length = n) (h4 : 4 ≤ n) (hb : Bys l) (hs : Sl w 1 A n (l.map (Value.int .u8))) :
    Calls Tryd.prog 65 #[.slice A n c] w fun e w' => e = .returned (.int .u32 (wordN l : Nat)) ∧ ∃ m, w' = w.drewN m := by
  obtain ⟨a, b, c', d, h4', he⟩ := four (l := l) (by omega)
  obtain ⟨g, off, rfl, hc⟩ := hs.2 (by omega)
  have c0 := hc 0 (.int .u8 a) (by rw [he]; rfl)
  have c1 := hc 1 (.int .u8 b) (by rw [he]; rfl)
  have c2 := hc 2 (.int .u8 c') (by rw [he]; rfl)
  have c3 := hc 3 (.int .u8 d) (by rw [he]; rfl)
  have b0 := hb a (by rw [he]; simp)
  have b1 := hb b (by rw [he]; simp)
  have b2 := hb c' (by rw [he]; simp)
  have b3 := hb d (by rw [he]; simp)
  rw [Nat.add_zero] at c0
  have HW := Lib.hid (show wordN l = a.toNat * 16777216 + b.toNat * 65536 + c'.toNat * 256 + d.toNat by rw [he]; rfl)
  clear hc hs he h4' hb
  obtain ⟨a, rfl⟩ := Int.eq_ofNat_of_zero_le b0.1
  obtain ⟨b, rfl⟩ := Int.eq_ofNat_of_zero_le b1.1
  obtain ⟨c', rfl⟩ := Int.eq_ofNat_of_zero_le b2.1
  obtain ⟨d, rfl⟩ := Int.eq_ofNat_of_zero_le b3.1
  have HO := Lib.hid (or_word a b c' d (by omega) (by omega) (by omega) (by omega))
  have g0 : (0 : Int) < n := by omega
  have g1 : (1 : Int) < n := by omega
  have g2 : (2 : Int) < n := by omega
  have g3 : (3 : Int) < n := by omega
  go_enter Tryd.func65, Tryd.ntmps65
  go_wp2_with fail
  go_quiet (fail)
  go_wp2_with fail
  go_ret
  exact ⟨ret_int (by rw [HO.out, HW.out]; rfl), nq, rfl⟩

set_option maxHeartbeats 1000000 in
theorem Sum_any (l : List Int) (A : Option Addr) (n c : Nat) (w : World) (hl : l.length = n) (hn : n ≤ 1099511627776) (hb : Bys l) (hs : Sl w 1 A n (l.map (Value.int .u8))) :
    Calls Tryd.prog 20 #[.slice A n c] w fun e w' => e = .returned (.int .u32 (sumL l : Nat)) ∧ w = w' := by
  have HS := Lib.hid hs
  have HB := Lib.hid hb
  clear hs hb
  go_enter Tryd.func20, Tryd.ntmps20
  go_wp2_with fail
  go_loop [3, 4, 9] (fun x y i => ∃ k X Y : Nat, k ≤ n ∧ i = .int .i64 k ∧ x = .int .u32 X ∧ y = .int .u32 Y ∧ X < 65521 ∧ Y < 65521 ∧ Hid (sumS (l.take k) = (X, Y))) (fun _ _ i => n - (intOf i).toNat)
  case atStart => exact ⟨0, 1, 0, Nat.zero_le _, rfl, rfl, rfl, by omega, by omega, rfl⟩
  case round =>
    obtain ⟨k, X, Y, hk, rfl, rfl, rfl, hX, hY, HXY⟩ := hrel
    by_cases hlt : k < n
    · have hj : k < l.length := by omega
      obtain ⟨b, off, u, rfl, e1, c1⟩ := HS.out.one hlt
      rw [List.getElem?_map, List.getElem?_eq_getElem hj] at e1
      obtain rfl := Option.some.inj e1
      have HT := Lib.hid (List.take_succ_eq_append_getElem hj)
      have hr := HB.out _ (List.getElem_mem hj)
      generalize l[k] = z at *
      obtain ⟨z, rfl⟩ := Int.eq_ofNat_of_zero_le hr.1
      clear e1
      have HS2 := Lib.hid (show sumS (l.take (k + 1)) = ((X + z) % 65521, (Y + (X + z) % 65521) % 65521) by rw [HT.out, sumS_snoc, HXY.out]; rfl)
      go_wp2_with fail
      go_round
      case rel => exact ⟨k + 1, (X + z) % 65521, (Y + (X + z) % 65521) % 65521, by omega, by go_num, rfl, rfl, Nat.mod_lt _ (by omega), Nat.mod_lt _ (by omega), HS2.out⟩
      case measure => simp [intOf]; omega
    · obtain rfl : k = n := by omega
      have HO := Lib.hid (or_sum Y X hY hX)
      have HL := Lib.hid (show sumL l = Y * 65536 + X by have := HXY.out; rw [List.take_of_length_le (by omega)] at this; rw [sumL, this])
      go_wp2_with fail
      go_ret
      exact ⟨ret_int (by rw [HO.out, HL.out]), rfl⟩

set_option maxHeartbeats 1000000 in
theorem RefWord_any (k : Nat) (hk : k < 4294967296) (w : World) :
    Calls Tryd.prog 66 #[.int .i64 k] w fun e w' => ∃ A c, e = .returned (.slice A 4 c) ∧ Sl w' 1 A 4 ((wordL k).map (Value.int .u8)) ∧ Below w.heap.size w w' := by
  have hw : [Value.int .u8 ((k : Int) / 16777216 % 256), .int .u8 ((k : Int) / 65536 % 256), .int .u8 ((k : Int) / 256 % 256), .int .u8 ((k : Int) % 256)] = (wordL k).map (Value.int .u8) := by
    rw [wordL_map, show ((k / 16777216 % 256 : Nat) : Int) = (k : Int) / 16777216 % 256 by omega, show ((k / 65536 % 256 : Nat) : Int) = (k : Int) / 65536 % 256 by omega, show ((k / 256 % 256 : Nat) : Int) = (k : Int) / 256 % 256 by omega, show ((k % 256 : Nat) : Int) = (k : Int) % 256 by omega]
  have HW := Lib.hid hw
  clear hw
  go_enter Tryd.func66, Tryd.ntmps66
  go_wp2_with fail
  go_ret
  refine ⟨_, _, rfl, ?_, bel_al (Below.refl _ _) _⟩
  rw [← HW.out]
  exact Sl.newAt w _ _ 4 rfl

set_option maxHeartbeats 1000000 in
theorem RefSum_any (l : List Int) (A : Option Addr) (n c : Nat) (w : World) (hl : l.length = n) (hn : n ≤ 1099511627776) (hb : Bys l) (hs : Sl w 1 A n (l.map (Value.int .u8))) :
    Calls Tryd.prog 21 #[.slice A n c] w fun e w' => e = .returned (.int .i64 (sumL l : Nat)) ∧ w = w' := by
  have HS := Lib.hid hs
  have HB := Lib.hid hb
  clear hs hb
  go_enter Tryd.func21, Tryd.ntmps21
  go_wp2_with fail
  go_loop [3, 4, 5] (fun x y i => ∃ k X Y : Nat, k ≤ n ∧ i = .int .i64 k ∧ x = .int .i64 X ∧ y = .int .i64 Y ∧ X < 65521 ∧ Y < 65521 ∧ Hid (sumS (l.take k) = (X, Y))) (fun _ _ i => n - (intOf i).toNat)
  case atStart => exact ⟨0, 1, 0, Nat.zero_le _, rfl, rfl, rfl, by omega, by omega, rfl⟩
  case round =>
    obtain ⟨k, X, Y, hk, rfl, rfl, rfl, hX, hY, HXY⟩ := hrel
    by_cases hlt : k < n
    · have hj : k < l.length := by omega
      obtain ⟨b, off, u, rfl, e1, c1⟩ := HS.out.one hlt
      rw [List.getElem?_map, List.getElem?_eq_getElem hj] at e1
      obtain rfl := Option.some.inj e1
      have HT := Lib.hid (List.take_succ_eq_append_getElem hj)
      have hr := HB.out _ (List.getElem_mem hj)
      generalize l[k] = z at *
      obtain ⟨z, rfl⟩ := Int.eq_ofNat_of_zero_le hr.1
      clear e1
      have HS2 := Lib.hid (show sumS (l.take (k + 1)) = ((X + z) % 65521, (Y + (X + z) % 65521) % 65521) by rw [HT.out, sumS_snoc, HXY.out]; rfl)
      go_wp2_with fail
      go_round
      case rel => exact ⟨k + 1, (X + z) % 65521, (Y + (X + z) % 65521) % 65521, by omega, by go_num, rfl, rfl, Nat.mod_lt _ (by omega), Nat.mod_lt _ (by omega), HS2.out⟩
      case measure => simp [intOf]; omega
    · obtain rfl : k = n := by omega
      have HL := Lib.hid (show sumL l = Y * 65536 + X by have := HXY.out; rw [List.take_of_length_le (by omega)] at this; rw [sumL, this])
      go_wp2_with fail
      go_ret
      exact ⟨ret_int (by rw [HL.out]; omega), rfl⟩

set_option maxHeartbeats 1000000 in
theorem Same_any (p q : List Int) (A B : Option Addr) (n m c d : Nat) (w : World) (hl : p.length = n) (hm : q.length = m) (hs : Sl w 1 A n (p.map (Value.int .u8))) (ht : Sl w 1 B m (q.map (Value.int .u8))) (hn : n ≤ 9223372036854775807) :
    Calls Tryd.prog 18 #[.slice A n c, .slice B m d] w fun e w' => e = .returned (.bool (decide (p = q))) ∧ Below w.heap.size w w' := by
  go_enter Tryd.func18, Tryd.ntmps18
  by_cases hnm : n = m
  · subst hnm
    go_wp2
    go_loopw [5] (fun i wr => ∃ k : Nat, k ≤ n ∧ i = .int .i64 k ∧ p.take k = q.take k ∧ Below w.heap.size w wr) (fun i _ => n - (intOf i).toNat)
    case atStart => exact ⟨0, Nat.zero_le _, rfl, rfl, Below.refl _ _⟩
    case round =>
      obtain ⟨k, hk, rfl, heq, hb⟩ := hrel
      by_cases hlt : k < n
      · have hj : k < p.length := by omega
        have hj' : k < q.length := by omega
        obtain ⟨b, off, u, rfl, e1, c1⟩ := (hs.keep hb).one hlt
        obtain ⟨b', off', u', rfl, e2, c2⟩ := (ht.keep hb).one hlt
        rw [List.getElem?_map, List.getElem?_eq_getElem hj] at e1
        rw [List.getElem?_map, List.getElem?_eq_getElem hj'] at e2
        obtain rfl := Option.some.inj e1
        obtain rfl := Option.some.inj e2
        have HT := Lib.hid (List.take_succ_eq_append_getElem hj)
        have HT' := Lib.hid (List.take_succ_eq_append_getElem hj')
        have HE := Lib.hid heq
        have HP := Lib.hid (fun h : p = q => (by subst h; rfl : p[k] = q[k]))
        generalize p[k] = x at *
        generalize q[k] = y at *
        clear e1 e2 heq hs ht
        by_cases hxy : x = y
        · subst hxy
          go_wp2_with fail
          go_quiet (fail)
          go_wp2_with fail
          go_roundw
          case rel => exact ⟨k + 1, by omega, by go_num, by rw [HT.out, HT'.out, HE.out], bel_drewN hb _⟩
          case measure => simp [intOf]; omega
        · have hb1 : (x == y) = false := by simpa using hxy
          go_wp2_with fail
          go_quiet (fail)
          go_wp2_with fail
          go_ret
          exact ⟨ret_bool (decide_eq_false (fun h => hxy (HP.out h))).symm, bel_drewN hb _⟩
      · obtain rfl : k = n := by omega
        rw [List.take_of_length_le (by omega), List.take_of_length_le (by omega)] at heq
        have HE := Lib.hid heq
        clear heq hs ht
        go_wp2
        go_ret
        exact ⟨ret_bool (decide_eq_true HE.out).symm, hb⟩
  · have hne : p ≠ q := fun h => hnm (by rw [← hl, ← hm, h])
    have HN := Lib.hid hne
    have hb1 : ((n : Int) == (m : Int)) = false := by simp; omega
    clear hne hs ht
    go_wp2
    go_ret
    exact ⟨ret_bool (decide_eq_false HN.out).symm, Below.refl _ _⟩
end Go.Proofs.YtclbbchljiagpaaDoor
