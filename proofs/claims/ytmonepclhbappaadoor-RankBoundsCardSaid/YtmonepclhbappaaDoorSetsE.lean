/-
  sets.Has, Add, Less, Both, But, Within, Union; the document's Those.
-/
import Derived.Shelf.Slices.SearchI
import Derived.Deep.RegionLaw
import Derived.Test.YtmonepclhbappaaDoorSetsOf
import Derived.Test.YtmonepclhbappaaDoorSetsD
namespace Go.Proofs.YtmonepclhbappaaDoor
open Go.RowKit Go.Shelf
set_option maxRecDepth 100000
set_option linter.unusedVariables false

def bs_ren : Go.Shelf.Ren := ⟨fun | 25 => 96 | 31 => 112 | 32 => 113 | 37 => 80 | n => n, fun | 0 => 0 | 3 => 3 | 4 => 4 | 22 => 22 | 40 => 151 | n => n, fun | n => n⟩
theorem bs_lays : Go.Proofs.Lays2.n25 Tryd.prog bs_ren := {
  mixed := by kernel_rfl
  f25 := Tryd.func96.trans (congrArg some (by kernel_rfl))
  f31 := Tryd.func112.trans (congrArg some (by kernel_rfl))
  f32 := Tryd.func113.trans (congrArg some (by kernel_rfl))
  f37 := Tryd.func80.trans (congrArg some (by kernel_rfl))
  t0 := Tryd.underlying0
  a0 := Tryd.isAgg0
  z0 := Tryd.sizeOf0
  v0 := Tryd.zeroValue0
  t3 := Tryd.underlying3
  a3 := Tryd.isAgg3
  z3 := Tryd.sizeOf3
  v3 := Tryd.zeroValue3
  t4 := Tryd.underlying4
  a4 := Tryd.isAgg4
  z4 := Tryd.sizeOf4
  v4 := Tryd.zeroValue4
  t22 := Tryd.underlying22
  a22 := Tryd.isAgg22
  z22 := Tryd.sizeOf22
  v22 := Tryd.zeroValue22
  t40 := Tryd.underlying151
  a40 := Tryd.isAgg151
  z40 := Tryd.sizeOf151
  v40 := Tryd.zeroValue151 }

theorem sl_lt {w : World} {A : Option Addr} {n : Nat} {xs : List Value} (h : Sl w 1 A n xs) (hn : 0 < n) : ∀ x : Addr, A = some x → x.block < w.heap.size := by
  intro x hx
  obtain ⟨b, off, u, rfl, _, hc⟩ := h.one hn
  cases hx
  by_cases hb : b < w.heap.size
  · exact hb
  · exfalso
    have : w.heap[b]? = none := Array.getElem?_eq_none (by omega)
    simp [World.cell?, this] at hc
theorem rise_count : ∀ (l : List Int) (x : Int), Inc l → rise x l = l.countP (· < x)
  | [], x, _ => rfl
  | y :: l, x, h => by
    have h1 := (List.pairwise_cons.1 h).1
    rw [rise]
    by_cases hy : y < x
    · rw [if_pos hy, List.countP_cons_of_pos (by simpa using hy), rise_count l x (List.pairwise_cons.1 h).2]
    · rw [if_neg hy, List.countP_eq_zero.2]
      intro z hz
      rcases List.mem_cons.1 hz with rfl | hz
      · simpa using hy
      · have := h1 z hz
        simp
        omega

set_option maxHeartbeats 2000000 in
theorem BS_any (l : List Int) (x : Int) (A : Option Addr) (n c : Nat) (w : World) (hl : l.length = n) (hn : n ≤ 1000000) (hI : Inc l) (hs : Sl w 1 A n (l.map (Value.int .i64))) :
    Calls Tryd.prog 96 #[.slice A n c, .int .i64 x] w fun e w' => e = .returned (.tuple #[.int .i64 ((rise x l : Nat) : Int), .bool (decide (x ∈ l))]) ∧ Below w.heap.size w w' := by
  rcases A with _ | A
  · have hn0 : n = 0 := by
      rcases Nat.eq_zero_or_pos n with h | h
      · exact h
      · obtain ⟨_, _, h, _⟩ := hs.2 h; cases h
    subst hn0
    obtain rfl := List.eq_nil_of_length_eq_zero hl
    have HR := Lib.hid (show Ending.returned (.tuple #[.int .i64 0, .bool false]) = .returned (.tuple #[.int .i64 ((rise x [] : Nat) : Int), .bool (decide (x ∈ ([] : List Int)))]) by simp [rise])
    clear hs hI
    go_enter Tryd.func96, Tryd.ntmps96
    go_wp2_with fail
    go_loopw [7, 8] (fun i j wr => i = .int .i64 0 ∧ j = .int .i64 0 ∧ wr = w) (fun _ _ _ => 0)
    case atStart => exact ⟨rfl, rfl, rfl⟩
    case round =>
      obtain ⟨rfl, rfl, rfl⟩ := hrel
      go_wp2_with fail
      go_ret2
      exact ⟨HR.out, Below.refl _ _⟩
  · have hex : ∃ b off, some A = some (⟨b, off, none⟩ : Addr) ∨ n = 0 := by
      rcases Nat.eq_zero_or_pos n with h | h
      · exact ⟨0, 0, .inr h⟩
      · obtain ⟨b, off, h, _⟩ := hs.2 h
        exact ⟨b, off, .inl h⟩
    have fin : ∀ b off, A = ⟨b, off, none⟩ → Calls Tryd.prog 96 #[.slice (some A) n c, .int .i64 x] w fun e w' => e = .returned (.tuple #[.int .i64 ((rise x l : Nat) : Int), .bool (decide (x ∈ l))]) ∧ Below w.heap.size w w' := by
      rintro b off rfl
      refine (Go.Proofs.Any.slices_BinarySearch_int bs_lays b off n c l x w (by omega) (by omega) (fun j hj => ?_) ?_).mono ?_
      · refine hs.again (k := j) (by omega) ?_
        rw [List.getElem?_map, List.getElem?_eq_getElem hj, List.getD_eq_getElem?_getD, List.getElem?_eq_getElem hj]; rfl
      · rw [List.take_of_length_le (by omega)]
        exact hI.imp fun h => Int.le_of_lt h
      · rintro e w' ⟨rfl, q, rfl⟩
        rw [List.take_of_length_le (by omega), ← rise_count l x hI]
        refine ⟨?_, bel_drewN (Below.refl _ _) q⟩
        congr 4
        rw [List.contains_eq_mem]
    obtain ⟨b, off, h | h⟩ := hex
    · cases h
      exact fin b off rfl
    · subst h
      obtain rfl := List.eq_nil_of_length_eq_zero hl
      have HR := Lib.hid (show Ending.returned (.tuple #[.int .i64 0, .bool false]) = .returned (.tuple #[.int .i64 ((rise x [] : Nat) : Int), .bool (decide (x ∈ ([] : List Int)))]) by simp [rise])
      clear hs hI fin
      go_enter Tryd.func96, Tryd.ntmps96
      go_wp2_with fail
      go_loopw [7, 8] (fun i j wr => i = .int .i64 0 ∧ j = .int .i64 0 ∧ wr = w) (fun _ _ _ => 0)
      case atStart => exact ⟨rfl, rfl, rfl⟩
      case round =>
        obtain ⟨rfl, rfl, rfl⟩ := hrel
        go_wp2_with fail
        go_ret2
        exact ⟨HR.out, Below.refl _ _⟩

theorem HasS_any (l : List Int) (x : Int) (A : Option Addr) (n c : Nat) (w : World) (hl : l.length = n) (hn : n ≤ 1000000) (hI : Inc l) (hs : Sl w 1 A n (l.map (Value.int .i64))) :
    Calls Tryd.prog 74 #[.slice A n c, .int .i64 x] w fun e w' => e = .returned (.bool (decide (x ∈ l))) ∧ Below w.heap.size w w' := by
  have HB := Lib.hid (BS_any l x A n c w hl hn hI hs)
  generalize decide (x ∈ l) = q at *
  generalize rise x l = r at *
  clear hl hI hs
  go_enter Tryd.func74, Tryd.ntmps74
  go_wp2_with fail
  refine HB.out.mono ?_
  rintro e w' ⟨rfl, hb⟩
  go_wp2_with fail
  go_ret
  exact ⟨rfl, hb⟩

set_option maxHeartbeats 2000000 in
theorem Union_any (a b : List Int) (A B : Option Addr) (n c m d : Nat) (w : World) (ha : a.length = n) (hn : n ≤ 100000) (hc : n ≤ c ∧ c ≤ 9223372036854775807) (hs : Sl w 1 A n (a.map (Value.int .i64))) (hm : b.length = m) (hmn : m ≤ 100000) (hd : m ≤ d ∧ d ≤ 9223372036854775807) (ht : Sl w 1 B m (b.map (Value.int .i64))) :
    Calls Tryd.prog 86 #[.slice A n c, .slice B m d] w fun e w' => ∃ v, e = .returned v ∧ w'.ownsRow w.heap.size 3 1 v (setL (a ++ b)).length ((setL (a ++ b)).map (Value.int .i64)) ∧ Below w.heap.size w w' := by
  have hb0 := bel_al (Below.refl w.heap.size w) (.cells #[.slice A n c, .slice B m d] 22)
  have hlr : [(A, c, a), (B, d, b)].map rv = [.slice A n c, .slice B m d] := by simp only [List.map_cons, List.map_nil, rv, ha, hm]
  have hfl : flat [(A, c, a), (B, d, b)] = a ++ b := by simp [flat]
  have hb0 := bel_al (Below.refl w.heap.size w) (.cells #[.slice A n c, .slice B m d] 22)
  have HK := Lib.hid (Concat_any [(A, c, a), (B, d, b)] (some ⟨w.heap.size, 0, none⟩) 2 2 _ rfl (by omega) (by rw [hlr]; exact Sl.newAt w [_, _] 22 2 rfl) (fun t ht' => by
    rcases List.mem_cons.1 ht' with rfl | ht'
    · exact ⟨by show Sl _ 1 A a.length _; rw [ha]; exact hs.keep hb0, by show a.length ≤ c; omega, hc.2⟩
    · obtain rfl := List.mem_singleton.1 ht'
      exact ⟨by show Sl _ 1 B b.length _; rw [hm]; exact ht.keep hb0, by show b.length ≤ d; omega, hd.2⟩) (by rw [hfl, List.length_append]; omega))
  rw [hfl] at HK
  have HB := Lib.hid hb0
  have HLn := Lib.hid (show (a ++ b).length ≤ 1048576 from by rw [List.length_append]; omega)
  have HOf := Lib.hid (fun (C : Option Addr) (k : Nat) w' (hs2 : Sl w' 1 C (a ++ b).length ((a ++ b).map (Value.int .i64))) (h : 0 < (a ++ b).length → ∀ x : Addr, C = some x → x.block < w'.heap.size) => Of_any (a ++ b) C (a ++ b).length k w' rfl HLn.out hs2 h)
  generalize setL (a ++ b) = U at *
  generalize (a ++ b) = ab at *
  clear hs ht hlr hfl hb0
  go_enter Tryd.func86, Tryd.ntmps86
  go_wp2_with fail
  refine HK.out.mono ?_
  rintro e w2 ⟨v, rfl, hown, hb⟩
  have HB2 := Lib.hid (HB.out.andThen hb)
  obtain ⟨C, k, rfl, hs2⟩ := Sl.own hown
  have HO := Lib.hid (HOf.out C k w2 hs2 (fun _ x hx => by subst hx; exact (hown.lt _ rfl).2))
  clear hown hb hs2
  go_wp2_with fail
  refine HO.out.mono ?_
  rintro e w3 ⟨v3, rfl, hown3, hb3⟩
  have HO3 := Lib.hid (own_mono hown3 HB2.out.size)
  have HB3 := Lib.hid (HB2.out.andThen hb3)
  clear hown3 hb3
  go_wp2_with fail
  go_ret
  exact ⟨_, rfl, HO3.out, HB3.out⟩

end Go.Proofs.YtmonepclhbappaaDoor

