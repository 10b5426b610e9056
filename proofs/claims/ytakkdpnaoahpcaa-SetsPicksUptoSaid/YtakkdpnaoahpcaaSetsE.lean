/-
  sets.Has, Add, Less, Both, But, Within, Union; the document's Those.
-/
import Derived.Shelf.Slices.SearchI
import Derived.Deep.RegionLaw
import Derived.Test.YtakkdpnaoahpcaaSetsOf
import Derived.Test.YtakkdpnaoahpcaaSetsD
namespace Go.Proofs.Ytakkdpnaoahpcaa
open Go.RowKit Go.Shelf
set_option maxRecDepth 100000
set_option linter.unusedVariables false

def bs_ren : Go.Shelf.Ren := ⟨fun | 25 => 32 | 31 => 46 | 32 => 47 | 37 => 57 | n => n, fun | 0 => 0 | 3 => 3 | 4 => 4 | 22 => 22 | 40 => 52 | n => n, fun | n => n⟩
theorem bs_lays : Go.Proofs.Lays2.n25 Try.prog bs_ren := {
  mixed := by kernel_rfl
  f25 := Try.func32.trans (congrArg some (by kernel_rfl))
  f31 := Try.func46.trans (congrArg some (by kernel_rfl))
  f32 := Try.func47.trans (congrArg some (by kernel_rfl))
  f37 := Try.func57.trans (congrArg some (by kernel_rfl))
  t0 := Try.underlying0
  a0 := Try.isAgg0
  z0 := Try.sizeOf0
  v0 := Try.zeroValue0
  t3 := Try.underlying3
  a3 := Try.isAgg3
  z3 := Try.sizeOf3
  v3 := Try.zeroValue3
  t4 := Try.underlying4
  a4 := Try.isAgg4
  z4 := Try.sizeOf4
  v4 := Try.zeroValue4
  t22 := Try.underlying22
  a22 := Try.isAgg22
  z22 := Try.sizeOf22
  v22 := Try.zeroValue22
  t40 := Try.underlying52
  a40 := Try.isAgg52
  z40 := Try.sizeOf52
  v40 := Try.zeroValue52 }

theorem sl_lt {w : World} {A : Option Addr} {n : Nat} {xs : List Value} (h : Sl w 1 A n xs) (hn : 0 < n) : ∀ x : Addr, A = some x → x.block < w.heap.size := by
  intro x hx
  obtain ⟨b, off, u, rfl, _, hc⟩ := h.one hn
  cases hx
  by_cases hb : b < w.heap.size
  · exact hb
  · exfalso
    have : w.heap[b]? = none := Array.getElem?_eq_none (by omega)
    simp [World.cell?, this] at hc
theorem rise_count : ∀ (l : List Int) (x : Int), Inc l → rise x l = l.countP (· < x)
  | [], x, _ => rfl
  | y :: l, x, h => by
    have h1 := (List.pairwise_cons.1 h).1
    rw [rise]
    by_cases hy : y < x
    · rw [if_pos hy, List.countP_cons_of_pos (by simpa using hy), rise_count l x (List.pairwise_cons.1 h).2]
    · rw [if_neg hy, List.countP_eq_zero.2]
      intro z hz
      rcases List.mem_cons.1 hz with rfl | hz
      · simpa using hy
      · have := h1 z hz
        simp
        omega

set_option maxHeartbeats 2000000 in
theorem BS_any (l : List Int) (x : Int) (A : Option Addr) (n c : Nat) (w : World) (hl : l.length = n) (hn : n ≤ 1000000) (hI : Inc l) (hs : Sl w 1 A n (l.map (Value.int .i64))) :
    Calls Try.prog 32 #[.slice A n c, .int .i64 x] w fun e w' => e = .returned (.tuple #[.int .i64 ((rise x l : Nat) : Int), .bool (decide (x ∈ l))]) ∧ Below w.heap.size w w' := by
  rcases A with _ | A
  · have hn0 : n = 0 := by
      rcases Nat.eq_zero_or_pos n with h | h
      · exact h
      · obtain ⟨_, _, h, _⟩ := hs.2 h; cases h
    subst hn0
    obtain rfl := List.eq_nil_of_length_eq_zero hl
    have HR := Lib.hid (show Ending.returned (.tuple #[.int .i64 0, .bool false]) = .returned (.tuple #[.int .i64 ((rise x [] : Nat) : Int), .bool (decide (x ∈ ([] : List Int)))]) by simp [rise])
    clear hs hI
    go_enter Try.func32, Try.ntmps32
    go_wp2_with fail
    go_loopw [7, 8] (fun i j wr => i = .int .i64 0 ∧ j = .int .i64 0 ∧ wr = w) (fun _ _ _ => 0)
    case atStart => exact ⟨rfl, rfl, rfl⟩
    case round =>
      obtain ⟨rfl, rfl, rfl⟩ := hrel
      go_wp2_with fail
      go_ret2
      exact ⟨HR.out, Below.refl _ _⟩
  · have hex : ∃ b off, some A = some (⟨b, off, none⟩ : Addr) ∨ n = 0 := by
      rcases Nat.eq_zero_or_pos n with h | h
      · exact ⟨0, 0, .inr h⟩
      · obtain ⟨b, off, h, _⟩ := hs.2 h
        exact ⟨b, off, .inl h⟩
    have fin : ∀ b off, A = ⟨b, off, none⟩ → Calls Try.prog 32 #[.slice (some A) n c, .int .i64 x] w fun e w' => e = .returned (.tuple #[.int .i64 ((rise x l : Nat) : Int), .bool (decide (x ∈ l))]) ∧ Below w.heap.size w w' := by
      rintro b off rfl
      refine (Go.Proofs.Any.slices_BinarySearch_int bs_lays b off n c l x w (by omega) (by omega) (fun j hj => ?_) ?_).mono ?_
      · refine hs.again (k := j) (by omega) ?_
        rw [List.getElem?_map, List.getElem?_eq_getElem hj, List.getD_eq_getElem?_getD, List.getElem?_eq_getElem hj]; rfl
      · rw [List.take_of_length_le (by omega)]
        exact hI.imp fun h => Int.le_of_lt h
      · rintro e w' ⟨rfl, q, rfl⟩
        rw [List.take_of_length_le (by omega), ← rise_count l x hI]
        refine ⟨?_, bel_drewN (Below.refl _ _) q⟩
        congr 4
        rw [List.contains_eq_mem]
    obtain ⟨b, off, h | h⟩ := hex
    · cases h
      exact fin b off rfl
    · subst h
      obtain rfl := List.eq_nil_of_length_eq_zero hl
      have HR := Lib.hid (show Ending.returned (.tuple #[.int .i64 0, .bool false]) = .returned (.tuple #[.int .i64 ((rise x [] : Nat) : Int), .bool (decide (x ∈ ([] : List Int)))]) by simp [rise])
      clear hs hI fin
      go_enter Try.func32, Try.ntmps32
      go_wp2_with fail
      go_loopw [7, 8] (fun i j wr => i = .int .i64 0 ∧ j = .int .i64 0 ∧ wr = w) (fun _ _ _ => 0)
      case atStart => exact ⟨rfl, rfl, rfl⟩
      case round =>
        obtain ⟨rfl, rfl, rfl⟩ := hrel
        go_wp2_with fail
        go_ret2
        exact ⟨HR.out, Below.refl _ _⟩

theorem HasS_any (l : List Int) (x : Int) (A : Option Addr) (n c : Nat) (w : World) (hl : l.length = n) (hn : n ≤ 1000000) (hI : Inc l) (hs : Sl w 1 A n (l.map (Value.int .i64))) :
    Calls Try.prog 16 #[.slice A n c, .int .i64 x] w fun e w' => e = .returned (.bool (decide (x ∈ l))) ∧ Below w.heap.size w w' := by
  have HB := Lib.hid (BS_any l x A n c w hl hn hI hs)
  generalize decide (x ∈ l) = q at *
  generalize rise x l = r at *
  clear hl hI hs
  go_enter Try.func16, Try.ntmps16
  go_wp2_with fail
  refine HB.out.mono ?_
  rintro e w' ⟨rfl, hb⟩
  go_wp2_with fail
  go_ret
  exact ⟨rfl, hb⟩

set_option maxHeartbeats 4000000 in
theorem AddS_any (l : List Int) (x : Int) (A : Option Addr) (n c : Nat) (w : World) (hl : l.length = n) (hn : n ≤ 100000) (hc : n ≤ c ∧ c ≤ 9223372036854775807) (hA0 : (A = none ∧ c = 0) ∨ ∃ b off, A = some (⟨b, off, none⟩ : Addr)) (hI : Inc l) (hs : Sl w 1 A n (l.map (Value.int .i64))) :
    Calls Try.prog 18 #[.slice A n c, .int .i64 x] w fun e w' => ∃ v, e = .returned v ∧ w'.ownsRow w.heap.size 3 1 v (addL l x).length ((addL l x).map (Value.int .i64)) ∧ Below w.heap.size w w' := by
  have HB := Lib.hid (BS_any l x A n c w hl (by omega) hI hs)
  by_cases hx : x ∈ l
  · rw [decide_eq_true hx] at HB
    have hA : addL l x = l := if_pos hx
    rw [hA]
    have HC := Lib.hid (fun w' (hb : Below w.heap.size w w') => CloneI_own l A n c w' hl (by omega) (hs.keep hb))
    have HL := Lib.hid hl
    generalize rise x l = r at *
    clear hl hI hs hA hA0 hx
    go_enter Try.func18, Try.ntmps18
    go_wp2_with fail
    refine HB.out.mono ?_
    rintro e w' ⟨rfl, hb⟩
    have HB1 := Lib.hid hb
    clear hb
    go_wp2_with fail
    refine (HC.out _ HB1.out).mono ?_
    rintro e w2 ⟨v, rfl, hown, hb2⟩
    have HO := Lib.hid (own_mono hown HB1.out.size)
    have HB2 := Lib.hid (HB1.out.andThen hb2)
    clear hown hb2
    go_wp2_with fail
    go_ret
    exact ⟨v, rfl, by rw [HL.out]; exact HO.out, HB2.out⟩
  · rw [decide_eq_false hx] at HB
    have hA : addL l x = flat [(A, c, l.take (rise x l)), ((some ⟨0, 0, none⟩ : Option Addr), 1, [x]), (A, c - rise x l, l.drop (rise x l))] := by
      rw [addL, if_neg hx]; simp [flat]
    have hr := rise_le x l
    rw [hl] at hr
    have HLen := Lib.hid (addL_len l x)
    have HI := Lib.hid hA
    generalize rise x l = r at *
    have HL := Lib.hid hl
    have HS := Lib.hid hs
    have HCc := Lib.hid hc
    clear hl hI hs hA hx
    have hrn : (r : Int) ≤ (n : Int) := by omega
    have hnc : (n : Int) ≤ (c : Int) := by omega
    have hrc : (r : Int) ≤ (c : Int) := by omega
    have h0r : (0 : Int) ≤ (r : Int) := by omega
    have hmr : (n : Int) - (r : Int) = ((n - r : Nat) : Int) := by omega
    have hmc : (c : Int) - (r : Int) = ((c - r : Nat) : Int) := by omega
    rcases hA0 with ⟨rfl, hc0⟩ | ⟨b, off, rfl⟩
    · skip
      have hn0 : n = 0 := by omega
      subst hc0 hn0
      obtain rfl : r = 0 := by omega
      have hl0 : l = [] := List.eq_nil_of_length_eq_zero HL.out
      subst hl0
      go_enter Try.func18, Try.ntmps18
      go_wp2_with fail
      refine HB.out.mono ?_
      rintro e w' ⟨rfl, hb⟩
      have HB1 := Lib.hid hb
      clear hb
      have HD := Lib.hid (show Below w'.heap.size w' w'.drew from bel_drewN (Below.refl _ _) 1)
      go_upto_region 4 with (fail)
      go_region_law (go_simp; go_at_call 34
                     refine (Concat_any [((none : Option Addr), 0, []), ((some ⟨w'.heap.size, 0, none⟩ : Option Addr), 1, [x]), ((none : Option Addr), 0, [])] _ 3 3 _ rfl (by omega) (by first | exact Sl.newAt1 _ _ [_, _, _] _ 3 rfl | exact (Sl.newAt1 _ _ [_, _, _] _ 3 rfl).drew) (fun t ht => ?_) (by simp [flat])).mono ?_
                     · rcases List.mem_cons.1 ht with rfl | ht
                       · exact ⟨Sl.nil _ _ _, Nat.le_refl _, by simp⟩
                       · rcases List.mem_cons.1 ht with rfl | ht
                         · exact ⟨by first | exact (Sl.newAt _ [.int .i64 x] _ 1 rfl).alloc _ | exact ((Sl.newAt _ [.int .i64 x] _ 1 rfl).alloc _).drew, Nat.le_refl _, by simp⟩
                         · obtain rfl := List.mem_singleton.1 ht
                           exact ⟨Sl.nil _ _ _, Nat.le_refl _, by simp⟩
                     rintro e w4 ⟨v4, rfl, hown4, hb4⟩
                     have HO4 := Lib.hid hown4
                     have HB4 := Lib.hid (show Below w.heap.size w w4 from by first | exact HB1.out.andThen ((bel_al (bel_al HD.out _) _).andThen hb4) | exact HB1.out.andThen ((bel_al (bel_al (Below.refl _ _) _) _).andThen hb4))
                     clear hown4 hb4)
      all_goals (
        go_wp2_with fail
        go_ret
        exact ⟨_, rfl, by rw [HI.out]; exact own_mono HO4.out (Nat.le_trans HB1.out.size (by simp; omega)), HB4.out⟩)
    · obtain ⟨A2, hA2⟩ : ∃ A2 : Option Addr, A2 = if c = r then some ⟨b, off, none⟩ else some ⟨b, off + r, none⟩ := ⟨_, rfl⟩
      have HA2 := Lib.hid hA2
      have HI2 := Lib.hid (show addL l x = flat [((some ⟨b, off, none⟩ : Option Addr), c, l.take r), ((some ⟨0, 0, none⟩ : Option Addr), 1, [x]), (A2, c - r, l.drop r)] from by rw [HI.out]; rfl)
      have h1 : (l.take r).length = r := by rw [List.length_take, HL.out]; omega
      have h2 : (l.drop r).length = n - r := by rw [List.length_drop, HL.out]
      have HLr := Lib.hid (show ∀ g : Nat, [((some ⟨b, off, none⟩ : Option Addr), c, l.take r), ((some ⟨g, 0, none⟩ : Option Addr), 1, [x]), (A2, c - r, l.drop r)].map rv = [.slice (some ⟨b, off, none⟩) r c, .slice (some ⟨g, 0, none⟩) 1 1, .slice A2 (n - r) (c - r)] from fun g => by
        simp only [List.map_cons, List.map_nil, rv, h1, h2, List.length_cons, List.length_nil])
      have HAll := Lib.hid (show ∀ (W2 : World) (g : Nat), Below w.heap.size w W2 → Sl W2 1 (some ⟨g, 0, none⟩) 1 [.int .i64 x] → AllRows W2 [((some ⟨b, off, none⟩ : Option Addr), c, l.take r), ((some ⟨g, 0, none⟩ : Option Addr), 1, [x]), (A2, c - r, l.drop r)] from fun W2 g hb2 hsx t ht => by
        have hS := HS.out.keep hb2
        rcases List.mem_cons.1 ht with rfl | ht
        · refine ⟨?_, by show (l.take r).length ≤ c; omega, HCc.out.2⟩
          show Sl W2 1 _ (l.take r).length ((l.take r).map _)
          rw [h1, List.map_take]
          exact hS.take (by omega)
        · rcases List.mem_cons.1 ht with rfl | ht
          · exact ⟨hsx, Nat.le_refl _, by show (1 : Nat) ≤ _; omega⟩
          · obtain rfl : t = (A2, c - r, l.drop r) := by simpa using ht
            have hc2 := HCc.out.2
            refine ⟨?_, by show (l.drop r).length ≤ c - r; omega, by show c - r ≤ _; omega⟩
            show Sl W2 1 A2 (l.drop r).length ((l.drop r).map _)
            rw [h2, List.map_drop, HA2.out]
            by_cases hbi : c = r
            · rw [if_pos hbi]
              obtain rfl : n = r := by omega
              rw [Nat.sub_self, List.drop_of_length_le (by rw [List.length_map, HL.out]; exact Nat.le_refl _)]
              exact Sl.nil _ _ _
            · rw [if_neg hbi]
              exact hS.drop (by omega))
      have HFl := Lib.hid (show ∀ g : Nat, flat [((some ⟨b, off, none⟩ : Option Addr), c, l.take r), ((some ⟨g, 0, none⟩ : Option Addr), 1, [x]), (A2, c - r, l.drop r)] = addL l x from fun g => by rw [HI2.out]; rfl)
      clear h1 h2
      go_enter Try.func18, Try.ntmps18
      go_wp2_with fail
      refine HB.out.mono ?_
      rintro e w' ⟨rfl, hb⟩
      have HB1 := Lib.hid hb
      clear hb
      have HD := Lib.hid (show Below w'.heap.size w' w'.drew from bel_drewN (Below.refl _ _) 1)
      go_upto_region 4 with (fail)
      go_region_law (go_simp; go_at_call 34
                     rw [← hA2]
                     refine (Concat_any [((some ⟨b, off, none⟩ : Option Addr), c, l.take r), ((some ⟨w'.heap.size, 0, none⟩ : Option Addr), 1, [x]), (A2, c - r, l.drop r)] _ 3 3 _ rfl (by omega) (by rw [HLr.out]; first | exact Sl.newAt1 _ _ [_, _, _] _ 3 rfl | exact (Sl.newAt1 _ _ [_, _, _] _ 3 rfl).drew) (HAll.out _ _ (HB1.out.andThen (by first | exact bel_al (bel_al HD.out _) _ | exact bel_al (bel_al (Below.refl _ _) _) _)) (by first | exact (Sl.newAt _ [.int .i64 x] _ 1 rfl).alloc _ | exact ((Sl.newAt _ [.int .i64 x] _ 1 rfl).alloc _).drew)) (by rw [HFl.out]; have := HLen.out; have := HL.out; omega)).mono ?_
                     rw [HFl.out]
                     rintro e w4 ⟨v4, rfl, hown4, hb4⟩
                     have HO4 := Lib.hid hown4
                     have HB4 := Lib.hid (show Below w.heap.size w w4 from by first | exact HB1.out.andThen ((bel_al (bel_al HD.out _) _).andThen hb4) | exact HB1.out.andThen ((bel_al (bel_al (Below.refl _ _) _) _).andThen hb4))
                     clear hown4 hb4)
      all_goals (
        try rw [← hA2]
        clear hA2
        go_wp2_with fail
        go_ret
        exact ⟨_, rfl, own_mono HO4.out (Nat.le_trans HB1.out.size (by simp; omega)), HB4.out⟩)

set_option maxHeartbeats 2000000 in
theorem kept_Less (x : Int) (l : List Int) (A : Option Addr) (n c B : Nat) (w : World) (hl : l.length = n) (hn : n ≤ 1000000) (hs : Sl w 1 A n (l.map (Value.int .i64)))
    (hf : ∀ (y : Int) W, Below w.heap.size w W → Calls Try.prog 36 #[.int .i64 y, .pointer (some ⟨B, 0, none⟩)] W fun e w' => e = .returned (.bool (y != x)) ∧ Below W.heap.size W w') :
    Calls Try.prog 35 #[.slice A n c, .func (.func 36) #[] #[.pointer (some ⟨B, 0, none⟩)]] w fun e w' => ∃ v, e = .returned v ∧ w'.ownsRow w.heap.size 3 1 v (l.filter fun y => y != x).length ((l.filter fun y => y != x).map (Value.int .i64)) ∧ Below w.heap.size w w' := by
  have HS := Lib.hid hs
  have HL := Lib.hid hl
  have HF := Lib.hid hf
  clear hs hl hf
  go_enter Try.func35, Try.ntmps35
  go_wp2_with fail
  go_loopw [5, 10] (fun ov iv wr => ∃ k : Nat, k ≤ n ∧ iv = .int .i64 (k : Int) ∧ wr.ownsRow w.heap.size 3 1 ov ((l.take k).filter fun y => y != x).length (((l.take k).filter fun y => y != x).map (Value.int .i64)) ∧ Below w.heap.size w wr) (fun _ iv _ => n - (intOf iv).toNat)
  case atStart => exact ⟨0, Nat.zero_le _, rfl, World.ownsRow_nil _ _ _ _, Below.refl _ _⟩
  case round =>
    obtain ⟨k, hk, rfl, hown, hb⟩ := hrel
    have HO := Lib.hid hown
    have HB := Lib.hid hb
    clear hown hb
    by_cases hlt : k < n
    · have hlt' : (k : Int) < (n : Int) := by omega
      obtain ⟨y, hy⟩ : ∃ y, l[k]? = some y := ⟨_, List.getElem?_eq_getElem (by rw [HL.out]; exact hlt)⟩
      obtain ⟨b1, off1, rfl, _⟩ := HS.out.at_ (show 0 < n by omega)
      have c1 := (HS.out.keep HB.out).again hlt (show (l.map (Value.int .i64))[k]? = some (.int .i64 y) by rw [List.getElem?_map, hy]; rfl)
      have hT : l.take (k + 1) = l.take k ++ [y] := by
        obtain ⟨h1, h2⟩ := List.getElem?_eq_some_iff.1 hy
        rw [List.take_succ_eq_append_getElem h1, h2]
      have hlen : ((l.take k).filter fun y => y != x).length ≤ k := Nat.le_trans (List.length_filter_le _ _) (by rw [List.length_take]; omega)
      have HT := Lib.hid hT
      have HLn := Lib.hid hlen
      clear hT hlen hy
      have HC := Lib.hid (HF.out y _ HB.out)
      by_cases hp : (y != x) = true
      · rw [hp] at HC
        have HFl := Lib.hid (show (l.take (k + 1)).filter (fun y => y != x) = (l.take k).filter (fun y => y != x) ++ [y] by rw [HT.out, List.filter_append]; congr 1; rw [List.filter_cons, if_pos hp]; rfl)
        clear hp
        go_wp2_with fail
        refine HC.out.mono ?_
        rintro e w2 ⟨rfl, hb2⟩
        have HO9 := Lib.hid (own_below HO.out (fun g hg => (HO.out.lt g hg).2) hb2)
        have HB2 := Lib.hid (HB.out.andThen hb2)
        clear hb2
        go_wp2_with (at_builtin; refine wpList_push elemInt _ _ rfl rfl HO9.out HB2.out (Nat.le_refl _) rfl rfl rfl (by simp [Value.oneCell']) (by unfold lim; have := HLn.out; omega) (by unfold lim; have := HLn.out; omega) ?_; intro v8 w8 hown8 hb8; have HO8 := Lib.hid hown8; have HB8 := Lib.hid hb8; clear hown8 hb8)
        go_roundw
        case rel => exact ⟨k + 1, by omega, by go_num, by rw [HFl.out, List.length_append, List.map_append]; exact HO8.out, HB8.out⟩
        case measure => simp [intOf]; omega
      · have hp' : (y != x) = false := Bool.eq_false_iff.2 hp
        rw [hp'] at HC
        have HFl := Lib.hid (show (l.take (k + 1)).filter (fun y => y != x) = (l.take k).filter (fun y => y != x) by rw [HT.out, List.filter_append, List.filter_cons, if_neg hp]; simp)
        clear hp hp'
        go_wp2_with fail
        refine HC.out.mono ?_
        rintro e w2 ⟨rfl, hb2⟩
        have HO9 := Lib.hid (own_below HO.out (fun g hg => (HO.out.lt g hg).2) hb2)
        have HB2 := Lib.hid (HB.out.andThen hb2)
        clear hb2
        go_wp2_with fail
        go_roundw
        case rel => exact ⟨k + 1, by omega, by go_num, by rw [HFl.out]; exact HO9.out, HB2.out⟩
        case measure => simp [intOf]; omega
    · obtain rfl : k = n := by omega
      have hlt' : ¬ (k : Int) < (k : Int) := by omega
      rw [List.take_of_length_le (by rw [HL.out]; exact Nat.le_refl _)] at HO
      go_wp2_with fail
      go_ret
      exact ⟨_, rfl, HO.out, HB.out⟩

set_option maxHeartbeats 2000000 in
theorem kept_Both (b : List Int) (l : List Int) (A : Option Addr) (n c B : Nat) (w : World) (hl : l.length = n) (hn : n ≤ 1000000) (hs : Sl w 1 A n (l.map (Value.int .i64)))
    (hf : ∀ (y : Int) W, Below w.heap.size w W → Calls Try.prog 37 #[.int .i64 y, .pointer (some ⟨B, 0, none⟩)] W fun e w' => e = .returned (.bool (decide (y ∈ b))) ∧ Below W.heap.size W w') :
    Calls Try.prog 35 #[.slice A n c, .func (.func 37) #[] #[.pointer (some ⟨B, 0, none⟩)]] w fun e w' => ∃ v, e = .returned v ∧ w'.ownsRow w.heap.size 3 1 v (l.filter fun y => decide (y ∈ b)).length ((l.filter fun y => decide (y ∈ b)).map (Value.int .i64)) ∧ Below w.heap.size w w' := by
  have HS := Lib.hid hs
  have HL := Lib.hid hl
  have HF := Lib.hid hf
  clear hs hl hf
  go_enter Try.func35, Try.ntmps35
  go_wp2_with fail
  go_loopw [5, 10] (fun ov iv wr => ∃ k : Nat, k ≤ n ∧ iv = .int .i64 (k : Int) ∧ wr.ownsRow w.heap.size 3 1 ov ((l.take k).filter fun y => decide (y ∈ b)).length (((l.take k).filter fun y => decide (y ∈ b)).map (Value.int .i64)) ∧ Below w.heap.size w wr) (fun _ iv _ => n - (intOf iv).toNat)
  case atStart => exact ⟨0, Nat.zero_le _, rfl, World.ownsRow_nil _ _ _ _, Below.refl _ _⟩
  case round =>
    obtain ⟨k, hk, rfl, hown, hb⟩ := hrel
    have HO := Lib.hid hown
    have HB := Lib.hid hb
    clear hown hb
    by_cases hlt : k < n
    · have hlt' : (k : Int) < (n : Int) := by omega
      obtain ⟨y, hy⟩ : ∃ y, l[k]? = some y := ⟨_, List.getElem?_eq_getElem (by rw [HL.out]; exact hlt)⟩
      obtain ⟨b1, off1, rfl, _⟩ := HS.out.at_ (show 0 < n by omega)
      have c1 := (HS.out.keep HB.out).again hlt (show (l.map (Value.int .i64))[k]? = some (.int .i64 y) by rw [List.getElem?_map, hy]; rfl)
      have hT : l.take (k + 1) = l.take k ++ [y] := by
        obtain ⟨h1, h2⟩ := List.getElem?_eq_some_iff.1 hy
        rw [List.take_succ_eq_append_getElem h1, h2]
      have hlen : ((l.take k).filter fun y => decide (y ∈ b)).length ≤ k := Nat.le_trans (List.length_filter_le _ _) (by rw [List.length_take]; omega)
      have HT := Lib.hid hT
      have HLn := Lib.hid hlen
      clear hT hlen hy
      have HC := Lib.hid (HF.out y _ HB.out)
      by_cases hp : (decide (y ∈ b)) = true
      · rw [hp] at HC
        have HFl := Lib.hid (show (l.take (k + 1)).filter (fun y => decide (y ∈ b)) = (l.take k).filter (fun y => decide (y ∈ b)) ++ [y] by rw [HT.out, List.filter_append]; congr 1; rw [List.filter_cons, if_pos hp]; rfl)
        clear hp
        go_wp2_with fail
        refine HC.out.mono ?_
        rintro e w2 ⟨rfl, hb2⟩
        have HO9 := Lib.hid (own_below HO.out (fun g hg => (HO.out.lt g hg).2) hb2)
        have HB2 := Lib.hid (HB.out.andThen hb2)
        clear hb2
        go_wp2_with (at_builtin; refine wpList_push elemInt _ _ rfl rfl HO9.out HB2.out (Nat.le_refl _) rfl rfl rfl (by simp [Value.oneCell']) (by unfold lim; have := HLn.out; omega) (by unfold lim; have := HLn.out; omega) ?_; intro v8 w8 hown8 hb8; have HO8 := Lib.hid hown8; have HB8 := Lib.hid hb8; clear hown8 hb8)
        go_roundw
        case rel => exact ⟨k + 1, by omega, by go_num, by rw [HFl.out, List.length_append, List.map_append]; exact HO8.out, HB8.out⟩
        case measure => simp [intOf]; omega
      · have hp' : (decide (y ∈ b)) = false := Bool.eq_false_iff.2 hp
        rw [hp'] at HC
        have HFl := Lib.hid (show (l.take (k + 1)).filter (fun y => decide (y ∈ b)) = (l.take k).filter (fun y => decide (y ∈ b)) by rw [HT.out, List.filter_append, List.filter_cons, if_neg hp]; simp)
        clear hp hp'
        go_wp2_with fail
        refine HC.out.mono ?_
        rintro e w2 ⟨rfl, hb2⟩
        have HO9 := Lib.hid (own_below HO.out (fun g hg => (HO.out.lt g hg).2) hb2)
        have HB2 := Lib.hid (HB.out.andThen hb2)
        clear hb2
        go_wp2_with fail
        go_roundw
        case rel => exact ⟨k + 1, by omega, by go_num, by rw [HFl.out]; exact HO9.out, HB2.out⟩
        case measure => simp [intOf]; omega
    · obtain rfl : k = n := by omega
      have hlt' : ¬ (k : Int) < (k : Int) := by omega
      rw [List.take_of_length_le (by rw [HL.out]; exact Nat.le_refl _)] at HO
      go_wp2_with fail
      go_ret
      exact ⟨_, rfl, HO.out, HB.out⟩

set_option maxHeartbeats 2000000 in
theorem kept_But (b : List Int) (l : List Int) (A : Option Addr) (n c B : Nat) (w : World) (hl : l.length = n) (hn : n ≤ 1000000) (hs : Sl w 1 A n (l.map (Value.int .i64)))
    (hf : ∀ (y : Int) W, Below w.heap.size w W → Calls Try.prog 38 #[.int .i64 y, .pointer (some ⟨B, 0, none⟩)] W fun e w' => e = .returned (.bool (!decide (y ∈ b))) ∧ Below W.heap.size W w') :
    Calls Try.prog 35 #[.slice A n c, .func (.func 38) #[] #[.pointer (some ⟨B, 0, none⟩)]] w fun e w' => ∃ v, e = .returned v ∧ w'.ownsRow w.heap.size 3 1 v (l.filter fun y => !decide (y ∈ b)).length ((l.filter fun y => !decide (y ∈ b)).map (Value.int .i64)) ∧ Below w.heap.size w w' := by
  have HS := Lib.hid hs
  have HL := Lib.hid hl
  have HF := Lib.hid hf
  clear hs hl hf
  go_enter Try.func35, Try.ntmps35
  go_wp2_with fail
  go_loopw [5, 10] (fun ov iv wr => ∃ k : Nat, k ≤ n ∧ iv = .int .i64 (k : Int) ∧ wr.ownsRow w.heap.size 3 1 ov ((l.take k).filter fun y => !decide (y ∈ b)).length (((l.take k).filter fun y => !decide (y ∈ b)).map (Value.int .i64)) ∧ Below w.heap.size w wr) (fun _ iv _ => n - (intOf iv).toNat)
  case atStart => exact ⟨0, Nat.zero_le _, rfl, World.ownsRow_nil _ _ _ _, Below.refl _ _⟩
  case round =>
    obtain ⟨k, hk, rfl, hown, hb⟩ := hrel
    have HO := Lib.hid hown
    have HB := Lib.hid hb
    clear hown hb
    by_cases hlt : k < n
    · have hlt' : (k : Int) < (n : Int) := by omega
      obtain ⟨y, hy⟩ : ∃ y, l[k]? = some y := ⟨_, List.getElem?_eq_getElem (by rw [HL.out]; exact hlt)⟩
      obtain ⟨b1, off1, rfl, _⟩ := HS.out.at_ (show 0 < n by omega)
      have c1 := (HS.out.keep HB.out).again hlt (show (l.map (Value.int .i64))[k]? = some (.int .i64 y) by rw [List.getElem?_map, hy]; rfl)
      have hT : l.take (k + 1) = l.take k ++ [y] := by
        obtain ⟨h1, h2⟩ := List.getElem?_eq_some_iff.1 hy
        rw [List.take_succ_eq_append_getElem h1, h2]
      have hlen : ((l.take k).filter fun y => !decide (y ∈ b)).length ≤ k := Nat.le_trans (List.length_filter_le _ _) (by rw [List.length_take]; omega)
      have HT := Lib.hid hT
      have HLn := Lib.hid hlen
      clear hT hlen hy
      have HC := Lib.hid (HF.out y _ HB.out)
      by_cases hp : (!decide (y ∈ b)) = true
      · rw [hp] at HC
        have HFl := Lib.hid (show (l.take (k + 1)).filter (fun y => !decide (y ∈ b)) = (l.take k).filter (fun y => !decide (y ∈ b)) ++ [y] by rw [HT.out, List.filter_append]; congr 1; rw [List.filter_cons, if_pos hp]; rfl)
        clear hp
        go_wp2_with fail
        refine HC.out.mono ?_
        rintro e w2 ⟨rfl, hb2⟩
        have HO9 := Lib.hid (own_below HO.out (fun g hg => (HO.out.lt g hg).2) hb2)
        have HB2 := Lib.hid (HB.out.andThen hb2)
        clear hb2
        go_wp2_with (at_builtin; refine wpList_push elemInt _ _ rfl rfl HO9.out HB2.out (Nat.le_refl _) rfl rfl rfl (by simp [Value.oneCell']) (by unfold lim; have := HLn.out; omega) (by unfold lim; have := HLn.out; omega) ?_; intro v8 w8 hown8 hb8; have HO8 := Lib.hid hown8; have HB8 := Lib.hid hb8; clear hown8 hb8)
        go_roundw
        case rel => exact ⟨k + 1, by omega, by go_num, by rw [HFl.out, List.length_append, List.map_append]; exact HO8.out, HB8.out⟩
        case measure => simp [intOf]; omega
      · have hp' : (!decide (y ∈ b)) = false := Bool.eq_false_iff.2 hp
        rw [hp'] at HC
        have HFl := Lib.hid (show (l.take (k + 1)).filter (fun y => !decide (y ∈ b)) = (l.take k).filter (fun y => !decide (y ∈ b)) by rw [HT.out, List.filter_append, List.filter_cons, if_neg hp]; simp)
        clear hp hp'
        go_wp2_with fail
        refine HC.out.mono ?_
        rintro e w2 ⟨rfl, hb2⟩
        have HO9 := Lib.hid (own_below HO.out (fun g hg => (HO.out.lt g hg).2) hb2)
        have HB2 := Lib.hid (HB.out.andThen hb2)
        clear hb2
        go_wp2_with fail
        go_roundw
        case rel => exact ⟨k + 1, by omega, by go_num, by rw [HFl.out]; exact HO9.out, HB2.out⟩
        case measure => simp [intOf]; omega
    · obtain rfl : k = n := by omega
      have hlt' : ¬ (k : Int) < (k : Int) := by omega
      rw [List.take_of_length_le (by rw [HL.out]; exact Nat.le_refl _)] at HO
      go_wp2_with fail
      go_ret
      exact ⟨_, rfl, HO.out, HB.out⟩

set_option maxHeartbeats 2000000 in
theorem Less_any (l : List Int) (x : Int) (A : Option Addr) (n c : Nat) (w : World) (hl : l.length = n) (hn : n ≤ 1000000) (hs : Sl w 1 A n (l.map (Value.int .i64))) :
    Calls Try.prog 20 #[.slice A n c, .int .i64 x] w fun e w' => ∃ v, e = .returned v ∧ w'.ownsRow w.heap.size 3 1 v (l.filter fun y => y != x).length ((l.filter fun y => y != x).map (Value.int .i64)) ∧ Below w.heap.size w w' := by
  have hb0 := bel_al (Below.refl w.heap.size w) (.cells #[.int .i64 x] 3)
  have hbx := Boxed.new w 3 (.int .i64 x)
  have hsz : (w.alloc (.cells #[.int .i64 x] 3)).heap.size = w.heap.size + 1 := by simp
  have HK := Lib.hid (kept_Less x l A n c w.heap.size _ hl hn (hs.keep hb0) (fun y W hW => by
    have cx := (boxed_keep hbx hW).cell
    go_enter Try.func36, Try.ntmps36
    go_wp2_with fail
    go_ret
    exact ⟨rfl, Below.refl _ _⟩))
  have HB := Lib.hid hb0
  have HZ := Lib.hid hsz
  clear hs hb0 hbx hsz
  go_enter Try.func20, Try.ntmps20
  go_wp2_with fail
  refine HK.out.mono ?_
  rintro e w2 ⟨v, rfl, hown, hb⟩
  have HO := Lib.hid (own_mono hown (show w.heap.size ≤ _ from by rw [HZ.out]; omega))
  have HB2 := Lib.hid (HB.out.andThen hb)
  clear hown hb
  go_wp2_with fail
  go_ret
  exact ⟨_, rfl, HO.out, HB2.out⟩

set_option maxHeartbeats 2000000 in
theorem Both_any (l b : List Int) (A B : Option Addr) (n c m d : Nat) (w : World) (hl : l.length = n) (hn : n ≤ 1000000) (hs : Sl w 1 A n (l.map (Value.int .i64))) (hm : b.length = m) (hmn : m ≤ 1000000) (hI : Inc b) (ht : Sl w 1 B m (b.map (Value.int .i64))) :
    Calls Try.prog 22 #[.slice A n c, .slice B m d] w fun e w' => ∃ v, e = .returned v ∧ w'.ownsRow w.heap.size 3 1 v (l.filter fun y => decide (y ∈ b)).length ((l.filter fun y => decide (y ∈ b)).map (Value.int .i64)) ∧ Below w.heap.size w w' := by
  have hb0 := bel_al (Below.refl w.heap.size w) (.cells #[.slice B m d] 22)
  have hbx := Boxed.new w 22 (.slice B m d)
  have hsz : (w.alloc (.cells #[.slice B m d] 22)).heap.size = w.heap.size + 1 := by simp
  have HK := Lib.hid (kept_Both b l A n c w.heap.size _ hl hn (hs.keep hb0) (fun y W hW => by
    have cx := (boxed_keep hbx hW).cell
    have HH := Lib.hid (HasS_any b y B m d W hm hmn hI ((ht.keep hb0).keep hW))
    generalize decide (y ∈ b) = q at *
    clear hbx hs ht hI
    go_enter Try.func37, Try.ntmps37
    go_wp2_with fail
    refine HH.out.mono ?_
    rintro e w' ⟨rfl, hb⟩
    go_wp2_with fail
    go_ret
    exact ⟨rfl, hb⟩))
  have HB := Lib.hid hb0
  have HZ := Lib.hid hsz
  clear hs ht hb0 hbx hsz hI
  go_enter Try.func22, Try.ntmps22
  go_wp2_with fail
  refine HK.out.mono ?_
  rintro e w2 ⟨v, rfl, hown, hb⟩
  have HO := Lib.hid (own_mono hown (show w.heap.size ≤ _ from by rw [HZ.out]; omega))
  have HB2 := Lib.hid (HB.out.andThen hb)
  clear hown hb
  go_wp2_with fail
  go_ret
  exact ⟨_, rfl, HO.out, HB2.out⟩

set_option maxHeartbeats 2000000 in
theorem But_any (l b : List Int) (A B : Option Addr) (n c m d : Nat) (w : World) (hl : l.length = n) (hn : n ≤ 1000000) (hs : Sl w 1 A n (l.map (Value.int .i64))) (hm : b.length = m) (hmn : m ≤ 1000000) (hI : Inc b) (ht : Sl w 1 B m (b.map (Value.int .i64))) :
    Calls Try.prog 23 #[.slice A n c, .slice B m d] w fun e w' => ∃ v, e = .returned v ∧ w'.ownsRow w.heap.size 3 1 v (l.filter fun y => !decide (y ∈ b)).length ((l.filter fun y => !decide (y ∈ b)).map (Value.int .i64)) ∧ Below w.heap.size w w' := by
  have hb0 := bel_al (Below.refl w.heap.size w) (.cells #[.slice B m d] 22)
  have hbx := Boxed.new w 22 (.slice B m d)
  have hsz : (w.alloc (.cells #[.slice B m d] 22)).heap.size = w.heap.size + 1 := by simp
  have HK := Lib.hid (kept_But b l A n c w.heap.size _ hl hn (hs.keep hb0) (fun y W hW => by
    have cx := (boxed_keep hbx hW).cell
    have HH := Lib.hid (HasS_any b y B m d W hm hmn hI ((ht.keep hb0).keep hW))
    generalize decide (y ∈ b) = q at *
    clear hbx hs ht hI
    go_enter Try.func38, Try.ntmps38
    go_wp2_with fail
    refine HH.out.mono ?_
    rintro e w' ⟨rfl, hb⟩
    go_wp2_with fail
    go_ret
    exact ⟨rfl, hb⟩))
  have HB := Lib.hid hb0
  have HZ := Lib.hid hsz
  clear hs ht hb0 hbx hsz hI
  go_enter Try.func23, Try.ntmps23
  go_wp2_with fail
  refine HK.out.mono ?_
  rintro e w2 ⟨v, rfl, hown, hb⟩
  have HO := Lib.hid (own_mono hown (show w.heap.size ≤ _ from by rw [HZ.out]; omega))
  have HB2 := Lib.hid (HB.out.andThen hb)
  clear hown hb
  go_wp2_with fail
  go_ret
  exact ⟨_, rfl, HO.out, HB2.out⟩

set_option maxHeartbeats 2000000 in
theorem Within_any (l b : List Int) (A B : Option Addr) (n c m d : Nat) (w : World) (hl : l.length = n) (hn : n ≤ 1000000) (hs : Sl w 1 A n (l.map (Value.int .i64))) (hm : b.length = m) (hmn : m ≤ 1000000) (hI : Inc b) (ht : Sl w 1 B m (b.map (Value.int .i64))) :
    Calls Try.prog 24 #[.slice A n c, .slice B m d] w fun e w' => e = .returned (.bool (decide (∀ y ∈ l, y ∈ b))) ∧ Below w.heap.size w w' := by
  have HC := Lib.hid (But_any l b A B n c m d w hl hn hs hm hmn hI ht)
  have HE := Lib.hid (show (((l.filter fun y => !decide (y ∈ b)).length : Int) == 0) = decide (∀ y ∈ l, y ∈ b) from by
    by_cases h : ∀ y ∈ l, y ∈ b
    · rw [decide_eq_true h, List.filter_eq_nil_iff.2 (fun y hy => by simp [h y hy])]; rfl
    · rw [decide_eq_false h, beq_eq_false_iff_ne]
      intro h0
      refine h fun y hy => ?_
      have h1 : (l.filter fun y => !decide (y ∈ b)) = [] := List.eq_nil_of_length_eq_zero (by omega)
      have := List.filter_eq_nil_iff.1 h1 y hy
      simpa using this)
  generalize (l.filter fun y => !decide (y ∈ b)) = F at *
  clear hs ht hI
  go_enter Try.func24, Try.ntmps24
  go_wp2_with fail
  refine HC.out.mono ?_
  rintro e w2 ⟨v, rfl, hown, hb⟩
  obtain ⟨C, k, rfl, _⟩ := Sl.own hown
  clear hown
  go_wp2_with fail
  go_ret
  exact ⟨ret_bool HE.out, hb⟩

set_option maxHeartbeats 2000000 in
theorem Union_any (a b : List Int) (A B : Option Addr) (n c m d : Nat) (w : World) (ha : a.length = n) (hn : n ≤ 100000) (hc : n ≤ c ∧ c ≤ 9223372036854775807) (hs : Sl w 1 A n (a.map (Value.int .i64))) (hm : b.length = m) (hmn : m ≤ 100000) (hd : m ≤ d ∧ d ≤ 9223372036854775807) (ht : Sl w 1 B m (b.map (Value.int .i64))) :
    Calls Try.prog 21 #[.slice A n c, .slice B m d] w fun e w' => ∃ v, e = .returned v ∧ w'.ownsRow w.heap.size 3 1 v (setL (a ++ b)).length ((setL (a ++ b)).map (Value.int .i64)) ∧ Below w.heap.size w w' := by
  have hb0 := bel_al (Below.refl w.heap.size w) (.cells #[.slice A n c, .slice B m d] 22)
  have hlr : [(A, c, a), (B, d, b)].map rv = [.slice A n c, .slice B m d] := by simp only [List.map_cons, List.map_nil, rv, ha, hm]
  have hfl : flat [(A, c, a), (B, d, b)] = a ++ b := by simp [flat]
  have hb0 := bel_al (Below.refl w.heap.size w) (.cells #[.slice A n c, .slice B m d] 22)
  have HK := Lib.hid (Concat_any [(A, c, a), (B, d, b)] (some ⟨w.heap.size, 0, none⟩) 2 2 _ rfl (by omega) (by rw [hlr]; exact Sl.newAt w [_, _] 22 2 rfl) (fun t ht' => by
    rcases List.mem_cons.1 ht' with rfl | ht'
    · exact ⟨by show Sl _ 1 A a.length _; rw [ha]; exact hs.keep hb0, by show a.length ≤ c; omega, hc.2⟩
    · obtain rfl := List.mem_singleton.1 ht'
      exact ⟨by show Sl _ 1 B b.length _; rw [hm]; exact ht.keep hb0, by show b.length ≤ d; omega, hd.2⟩) (by rw [hfl, List.length_append]; omega))
  rw [hfl] at HK
  have HB := Lib.hid hb0
  have HLn := Lib.hid (show (a ++ b).length ≤ 1048576 from by rw [List.length_append]; omega)
  have HOf := Lib.hid (fun (C : Option Addr) (k : Nat) w' (hs2 : Sl w' 1 C (a ++ b).length ((a ++ b).map (Value.int .i64))) (h : 0 < (a ++ b).length → ∀ x : Addr, C = some x → x.block < w'.heap.size) => Of_any (a ++ b) C (a ++ b).length k w' rfl HLn.out hs2 h)
  generalize setL (a ++ b) = U at *
  generalize (a ++ b) = ab at *
  clear hs ht hlr hfl hb0
  go_enter Try.func21, Try.ntmps21
  go_wp2_with fail
  refine HK.out.mono ?_
  rintro e w2 ⟨v, rfl, hown, hb⟩
  have HB2 := Lib.hid (HB.out.andThen hb)
  obtain ⟨C, k, rfl, hs2⟩ := Sl.own hown
  have HO := Lib.hid (HOf.out C k w2 hs2 (fun _ x hx => by subst hx; exact (hown.lt _ rfl).2))
  clear hown hb hs2
  go_wp2_with fail
  refine HO.out.mono ?_
  rintro e w3 ⟨v3, rfl, hown3, hb3⟩
  have HO3 := Lib.hid (own_mono hown3 HB2.out.size)
  have HB3 := Lib.hid (HB2.out.andThen hb3)
  clear hown3 hb3
  go_wp2_with fail
  go_ret
  exact ⟨_, rfl, HO3.out, HB3.out⟩

set_option maxHeartbeats 4000000 in
theorem Those_any (l b : List Int) (inn : Bool) (A B : Option Addr) (n c m d : Nat) (w : World) (hl : l.length = n) (hn : n ≤ 1000000) (hs : Sl w 1 A n (l.map (Value.int .i64))) (hm : b.length = m) (hmn : m ≤ 1000000) (ht : Sl w 1 B m (b.map (Value.int .i64))) :
    Calls Try.prog 15 #[.slice A n c, .slice B m d, .bool inn] w fun e w' => ∃ v, e = .returned v ∧ w'.ownsRow w.heap.size 3 1 v (l.filter fun y => decide (y ∈ b) == inn).length ((l.filter fun y => decide (y ∈ b) == inn).map (Value.int .i64)) ∧ Below w.heap.size w w' := by
  have HS := Lib.hid hs
  have HL := Lib.hid hl
  have HF := Lib.hid (fun (y : Int) W (hb : Below w.heap.size w W) => Has_any b y B m d W (by omega) hm (ht.keep hb))
  clear hs hl ht
  go_enter Try.func15, Try.ntmps15
  go_wp2_with fail
  go_loopw [7, 8] (fun ov iv wr => ∃ k : Nat, k ≤ n ∧ iv = .int .i64 (k : Int) ∧ wr.ownsRow w.heap.size 3 1 ov ((l.take k).filter fun y => decide (y ∈ b) == inn).length (((l.take k).filter fun y => decide (y ∈ b) == inn).map (Value.int .i64)) ∧ Below w.heap.size w wr) (fun _ iv _ => n - (intOf iv).toNat)
  case atStart => exact ⟨0, Nat.zero_le _, rfl, World.ownsRow_nil _ _ _ _, Below.refl _ _⟩
  case round =>
    obtain ⟨k, hk, rfl, hown, hb⟩ := hrel
    have HO := Lib.hid hown
    have HB := Lib.hid hb
    clear hown hb
    by_cases hlt : k < n
    · have hlt' : (k : Int) < (n : Int) := by omega
      obtain ⟨y, hy⟩ : ∃ y, l[k]? = some y := ⟨_, List.getElem?_eq_getElem (by rw [HL.out]; exact hlt)⟩
      obtain ⟨b1, off1, rfl, _⟩ := HS.out.at_ (show 0 < n by omega)
      have c1 := (HS.out.keep HB.out).again hlt (show (l.map (Value.int .i64))[k]? = some (.int .i64 y) by rw [List.getElem?_map, hy]; rfl)
      have hT : l.take (k + 1) = l.take k ++ [y] := by
        obtain ⟨h1, h2⟩ := List.getElem?_eq_some_iff.1 hy
        rw [List.take_succ_eq_append_getElem h1, h2]
      have hlen : ((l.take k).filter fun y => decide (y ∈ b) == inn).length ≤ k := Nat.le_trans (List.length_filter_le _ _) (by rw [List.length_take]; omega)
      have HT := Lib.hid hT
      have HLn := Lib.hid hlen
      clear hT hlen hy
      have HC := Lib.hid (HF.out y _ HB.out)
      by_cases hp : (decide (y ∈ b) == inn) = true
      · have HFl := Lib.hid (show (l.take (k + 1)).filter (fun y => decide (y ∈ b) == inn) = (l.take k).filter (fun y => decide (y ∈ b) == inn) ++ [y] by rw [HT.out, List.filter_append]; congr 1; rw [List.filter_cons, if_pos hp]; rfl)
        generalize decide (y ∈ b) = q at hp HC
        have hq : q = inn := by simpa using hp
        subst hq
        clear hp
        go_wp2_with fail
        refine HC.out.mono ?_
        rintro e w2 ⟨rfl, rfl⟩
        go_wp2_with (at_builtin; refine wpList_push elemInt _ _ rfl rfl HO.out HB.out (Nat.le_refl _) rfl rfl rfl (by simp [Value.oneCell']) (by unfold lim; have := HLn.out; omega) (by unfold lim; have := HLn.out; omega) ?_; intro v8 w8 hown8 hb8; have HO8 := Lib.hid hown8; have HB8 := Lib.hid hb8; clear hown8 hb8)
        go_roundw
        case rel => exact ⟨k + 1, by omega, by go_num, by rw [HFl.out, List.length_append, List.map_append]; exact HO8.out, HB8.out⟩
        case measure => simp [intOf]; omega
      · have HFl := Lib.hid (show (l.take (k + 1)).filter (fun y => decide (y ∈ b) == inn) = (l.take k).filter (fun y => decide (y ∈ b) == inn) by rw [HT.out, List.filter_append, List.filter_cons, if_neg hp]; simp)
        generalize decide (y ∈ b) = q at hp HC
        have hq : (q == inn) = false := Bool.eq_false_iff.2 hp
        clear hp
        go_wp2_with fail
        refine HC.out.mono ?_
        rintro e w2 ⟨rfl, rfl⟩
        go_wp2_with fail
        go_roundw
        case rel => exact ⟨k + 1, by omega, by go_num, by rw [HFl.out]; exact HO.out, HB.out⟩
        case measure => simp [intOf]; omega
    · obtain rfl : k = n := by omega
      have hlt' : ¬ (k : Int) < (k : Int) := by omega
      rw [List.take_of_length_le (by rw [HL.out]; exact Nat.le_refl _)] at HO
      go_wp2_with fail
      go_ret
      exact ⟨_, rfl, HO.out, HB.out⟩
end Go.Proofs.Ytakkdpnaoahpcaa

