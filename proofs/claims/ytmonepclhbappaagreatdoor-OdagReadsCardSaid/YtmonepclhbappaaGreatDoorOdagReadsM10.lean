/-
  Part 10 of the proof of OdagReads: OdK, OdL, NumS, NumP, NumT, RankN, RankO, RankT, RankQ.
-/
import Derived.Shelf.SlIterI.Sorted
import Derived.Test.YtmonepclhbappaaGreatDoorOdagReadsM9
import Derived.Test.YtmonepclhbappaaGreatDoorOdagReadsM3
import Derived.Test.YtmonepclhbappaaGreatDoorOdagReadsM6
import Derived.Lib.Mul64
import Derived.Shelf.Bits.Mul64
import Derived.Test.YtmonepclhbappaaGreatDoorOdagReadsM1
import Derived.Laws.Externs
import Derived.Deep.RegionHeld3
/-
  Odags: the contracts of Row and Links.
-/
namespace Go.Proofs.YtmonepclhbappaaGreatDoor
open Go.RowKit Go.Maps Go.Sort Go.Shelf
set_option maxRecDepth 100000
set_option linter.unusedVariables false

def keysR_ren : Go.Shelf.Ren := ⟨fun | 7 => 80 | 10 => 112 | n => n, fun | 0 => 0 | 3 => 22 | 4 => 4 | 23 => 114 | 26 => 3 | 27 => 134 | 28 => 135 | 33 => 120 | n => n, fun | n => n⟩
theorem keysR_lays : Go.Proofs.SlLaysZI.n7 Tryz.prog keysR_ren := {
  mixed := by kernel_rfl
  f7 := ⟨Tryz.f80.name, by kernel_rfl, Tryz.func80.trans (congrArg some (by kernel_rfl))⟩
  f10 := ⟨Tryz.f112.name, by kernel_rfl, Tryz.func112.trans (congrArg some (by kernel_rfl))⟩
  t0 := Tryz.underlying0
  a0 := Tryz.isAgg0
  z0 := Tryz.sizeOf0
  v0 := Tryz.zeroValue0
  t4 := Tryz.underlying4
  a4 := Tryz.isAgg4
  z4 := Tryz.sizeOf4
  v4 := Tryz.zeroValue4
  t23 := Tryz.underlying114
  a23 := Tryz.isAgg114
  z23 := Tryz.sizeOf114
  v23 := Tryz.zeroValue114
  t26 := Tryz.underlying3
  a26 := Tryz.isAgg3
  z26 := Tryz.sizeOf3
  v26 := Tryz.zeroValue3
  t27 := Tryz.underlying134
  a27 := Tryz.isAgg134
  z27 := Tryz.sizeOf134
  v27 := Tryz.zeroValue134
  t28 := Tryz.underlying135
  a28 := Tryz.isAgg135
  z28 := Tryz.sizeOf135
  v28 := Tryz.zeroValue135
  t33 := Tryz.underlying120
  a33 := Tryz.isAgg120
  z33 := Tryz.sizeOf120
  v33 := Tryz.zeroValue120 }

def sortedR_ren : Go.Shelf.Ren := ⟨fun | 6 => 79 | 8 => 110 | 9 => 111 | 11 => 126 | n => n, fun | 0 => 0 | 24 => 22 | 26 => 3 | 28 => 135 | 33 => 120 | n => n, fun | n => n⟩
theorem sortedR_lays : Go.Proofs.SlLaysZI.n6 Tryz.prog sortedR_ren := {
  mixed := by kernel_rfl
  f6 := ⟨Tryz.f79.name, by kernel_rfl, Tryz.func79.trans (congrArg some (by kernel_rfl))⟩
  f8 := ⟨Tryz.f110.name, by kernel_rfl, Tryz.func110.trans (congrArg some (by kernel_rfl))⟩
  f11 := ⟨Tryz.f126.name, by kernel_rfl, Tryz.func126.trans (congrArg some (by kernel_rfl))⟩
  t0 := Tryz.underlying0
  a0 := Tryz.isAgg0
  z0 := Tryz.sizeOf0
  v0 := Tryz.zeroValue0
  t24 := Tryz.underlying22
  a24 := Tryz.isAgg22
  z24 := Tryz.sizeOf22
  v24 := Tryz.zeroValue22
  t26 := Tryz.underlying3
  a26 := Tryz.isAgg3
  z26 := Tryz.sizeOf3
  v26 := Tryz.zeroValue3
  t28 := Tryz.underlying135
  a28 := Tryz.isAgg135
  z28 := Tryz.sizeOf135
  v28 := Tryz.zeroValue135
  i26 := by kernel_rfl }

theorem sorts_in (m : Nat) : AnyZI.SortsIn Tryz.prog sortedR_ren Fence.wide m :=
  ⟨fun blk off cap ss W hH hblk hsz => callsIn_wide.2 (Any.slices_Sort_int sort_lays blk off cap ss W hH hblk hsz),
   fun p cap W => callsIn_wide.2 ((Any.slices_Sort_int_none sort_lays p cap W).mono fun e w' h => ⟨h.1, h.2⟩)⟩
theorem keys_asD (es : List (Int × Value)) : intKeys (asD es) = es.map (·.1) := by
  show (es.map enK).map (fun p => Go.intOf p.1) = _
  rw [List.map_map]
  rfl
theorem sort_of_perm {ss l : List Int} (hp : ss.Perm l) (hl : l.Pairwise (· < ·)) : (ss.mergeSort fun x y => decide (x ≤ y)) = l := by
  have h1 : (ss.mergeSort fun x y => decide (x ≤ y)).Pairwise (fun x y => decide (x ≤ y) = true) := List.pairwise_mergeSort (fun a b c => by simp; omega) (fun a b => by simp; omega) ss
  have h2 : (ss.mergeSort fun x y => decide (x ≤ y)).Perm l := (List.mergeSort_perm ss _).trans hp
  have h3 : l.Nodup := hl.imp fun {a b} h e => by subst e; omega
  have h4 := h2.nodup_iff.2 h3
  refine inc_ext ?_ hl (fun y => h2.mem_iff)
  refine (h1.and h4).imp fun {a b} h => ?_
  have h5 : a ≤ b := of_decide_eq_true h.1
  have h6 : a ≠ b := h.2
  omega
set_option maxHeartbeats 1000000 in
theorem SortedKeys_any (b : Nat) (r : Rw) (w : World) (hr : MRow w b r) (hrl : r.length ≤ 1000000) :
    Calls Tryz.prog 79 #[.func (.func 112) #[] #[.pointer (some ⟨w.heap.size, 0, none⟩)]] (w.alloc (.cells #[.map (some b)] 114)) fun e w' => ∃ v, e = .returned v ∧ w'.ownsRow w.heap.size 3 1 v r.length ((r.map (·.1)).map (Value.int .i64)) ∧ Below w.heap.size w w' := by
  have hal := bel_al (Below.refl w.heap.size w) (.cells #[.map (some b)] 114)
  have hr1 := hr.keep hal
  have hinc := hr.incr
  obtain ⟨m, rfl, hM, _⟩ := hr1
  have hinc' : ((m.map pl).map (·.1)).Pairwise (· < ·) := List.pairwise_map.2 hinc
  have hkeys : intKeys (asD (m.map mv)) = (m.map pl).map (·.1) := by
    rw [keys_asD, List.map_map, List.map_map]
    rfl
  have hsz : Maps.size (asD (m.map mv)) = m.length := by unfold asD; rw [Maps.size_eq, List.length_map, List.length_map]
  rw [List.length_map] at hrl
  have hseq : SeqGives Fence.wide 2 Tryz.prog 112 #[.pointer (some ⟨w.heap.size, 0, none⟩)] encZ (fun ss => ss.Perm (intKeys (asD (m.map mv)))) (Maps.size (asD (m.map mv))) (w.alloc (.cells #[.map (some b)] 114)) :=
    AnyZI.keys_gives (ρ := keysR_ren) { keysR_lays with } Fence.wide _ trivial rfl (by omega) w.heap.size b _ _ _ (by simp) (by simp) hM
  have cS := AnyZI.sorted_in sortedR_lays Fence.wide 5 trivial trivial trivial trivial rfl (by omega) (sorts_in _) (enters_of Tryz.func111 (by kernel_rfl) rfl) 112 #[.pointer (some ⟨w.heap.size, 0, none⟩)] trivial (enters_of Tryz.func112 (by kernel_rfl) rfl) _ _ (by rw [hsz]; unfold maxLen; omega) (by rw [hsz]; omega) _ hseq
  refine ((callsIn_wide (n := 5)).1 cS).mono fun e w' ⟨v, ss, h1, h2, h3, _, h5⟩ => ⟨v, h1, ?_, hal.andThen h5⟩
  rw [hkeys] at h2
  rw [sort_of_perm h2 hinc', h2.length_eq, List.length_map] at h3
  exact own_mono h3 (by simp)
theorem Keys_any (b : Nat) (W : World) : Calls Tryz.prog 80 #[.map (some b)] W fun e w' => e = .returned (.func (.func 112) #[] #[.pointer (some ⟨W.heap.size, 0, none⟩)]) ∧ w' = W.alloc (.cells #[.map (some b)] 114) :=
  (callsIn_wide (n := 5)).1 (AnyZI.keys_in keysR_lays Fence.wide 5 trivial rfl (some b) W)

def keysAt (od : List Rw) (i : Int) : List Int := if 0 ≤ i ∧ i < (od.length : Int) then (od.getD i.toNat []).map (·.1) else []
def linksAt (od : List Rw) (i a : Int) : List Int := if 0 ≤ i ∧ i < (od.length : Int) then lkR (od.getD i.toNat []) a else []
theorem OdM.row {w : World} {p : Nat} {od : List Rw} (h : OdM w p od) {i : Nat} (hi : i < od.length) : ∃ (rb ro n c b : Nat), n = od.length ∧ w.cell? ⟨p, 0, none⟩ = some (.slice (some ⟨rb, ro, none⟩) n c) ∧ n ≤ c ∧ w.cell? ⟨rb, ro + i, none⟩ = some (.map (some b)) ∧ MRow w b (od.getD i []) := by
  obtain ⟨R, n, c, bs, h1, h2, h3, h4, h5, h6, h7⟩ := h
  obtain ⟨rb, ro, rfl, _⟩ := h5.at_ (show 0 < n by omega)
  obtain ⟨b, hb⟩ : ∃ b, bs[i]? = some b := ⟨_, List.getElem?_eq_getElem (by omega)⟩
  have c0 := h1.cell 0
  simp at c0
  refine ⟨rb, ro, n, c, b, h2.symm, c0, h4, h5.again (by omega) (show (bs.map fun b => Value.map (some b))[i]? = some (.map (some b)) by rw [List.getElem?_map, hb]; rfl), ?_⟩
  rw [List.getD_eq_getElem?_getD, List.getElem?_eq_getElem hi]
  exact h7 i b _ hb (List.getElem?_eq_getElem hi)

set_option maxHeartbeats 4000000 in
theorem OdRow_any (p : Nat) (od : List Rw) (i : Int) (w : World) (h : OdM w p od) (hB : OdB 1000000 od) (h8 : od.length ≤ 100) : Calls Tryz.prog 34 #[.pointer (some ⟨p, 0, none⟩), .int .i64 i] w fun e w' => ∃ v, e = .returned v ∧ w'.ownsRow w.heap.size 3 1 v (keysAt od i).length ((keysAt od i).map (Value.int .i64)) ∧ Below w.heap.size w w' := by
  have HLn := Lib.hid (OdLen_any p od w h)
  by_cases hi0 : i < 0
  · have HE := Lib.hid (show keysAt od i = [] from if_neg (by omega))
    rw [HE.out]
    clear h hB
    go_enter Tryz.func34, Tryz.ntmps34
    go_wp2_with fail
    go_ret
    exact ⟨_, rfl, World.ownsRow_nil _ _ _ _, Below.refl _ _⟩
  · by_cases hin : i < (od.length : Int)
    · obtain ⟨k, rfl⟩ : ∃ k : Nat, i = (k : Int) := ⟨i.toNat, by omega⟩
      have hk : k < od.length := by omega
      obtain ⟨rb, ro, n, c, b, hn, c0, hnc, c1, hrow⟩ := h.row hk
      have hE : keysAt od (k : Int) = (od.getD k []).map (·.1) := if_pos (by omega)
      have hrB : (od.getD k []).length ≤ 1000000 := (hB _ (by rw [List.getD_eq_getElem?_getD, List.getElem?_eq_getElem hk]; exact List.getElem_mem hk)).1
      rw [hE]
      have HSo := Lib.hid (SortedKeys_any b (od.getD k []) w hrow hrB)
      obtain ⟨ks, hks⟩ : ∃ ks, ks = (od.getD k []).map (·.1) := ⟨_, rfl⟩
      have hkl : ks.length = (od.getD k []).length := by rw [hks, List.length_map]
      rw [← hks, ← hkl] at HSo
      rw [← hks]
      rw [← hn] at HLn
      have hkn : (k : Int) < (n : Int) := by omega
      have hkn' : ¬ (n : Int) ≤ (k : Int) := by omega
      clear h hB hrow hE hrB hks hkl hn hin hi0 hk
      go_enter Tryz.func34, Tryz.ntmps34
      go_wp2_with (first
        | (go_at_call 32; refine HLn.out.mono ?_; rintro e w' ⟨rfl, rfl⟩)
        | (go_at_call 80; refine (Keys_any b _).mono ?_; rintro e w1 ⟨rfl, rfl⟩)
        | (go_at_call 79; refine HSo.out.mono ?_; rintro e w2 ⟨v, rfl, hown, hb⟩; have HO := Lib.hid hown; have HB := Lib.hid hb; clear hown hb))
      go_ret
      exact ⟨_, rfl, HO.out, HB.out⟩
    · have HE := Lib.hid (show keysAt od i = [] from if_neg (by omega))
      rw [HE.out]
      obtain ⟨n, hn⟩ : ∃ n, n = od.length := ⟨_, rfl⟩
      rw [← hn] at HLn hin
      have hin' : (n : Int) ≤ i := by omega
      clear h hB hn hin
      go_enter Tryz.func34, Tryz.ntmps34
      go_wp2_with (go_at_call 32; refine HLn.out.mono ?_; rintro e w' ⟨rfl, rfl⟩)
      go_ret
      exact ⟨_, rfl, World.ownsRow_nil _ _ _ _, Below.refl _ _⟩
end Go.Proofs.YtmonepclhbappaaGreatDoor
/-
  Odags: the contract of Links; no odag at all.
-/
namespace Go.Proofs.YtmonepclhbappaaGreatDoor
open Go.RowKit Go.Maps
set_option maxRecDepth 100000
set_option linter.unusedVariables false

set_option maxHeartbeats 4000000 in
theorem OdLinks_any (p : Nat) (od : List Rw) (i a : Int) (w : World) (h : OdM w p od) (hB : OdB 1000000 od) (h8 : od.length ≤ 100) (ha : -9223372036854775808 ≤ a ∧ a ≤ 9223372036854775807) : Calls Tryz.prog 35 #[.pointer (some ⟨p, 0, none⟩), .int .i64 i, .int .i64 a] w fun e w' => ∃ v, e = .returned v ∧ w'.ownsRow w.heap.size 3 1 v (linksAt od i a).length ((linksAt od i a).map (Value.int .i64)) ∧ Below w.heap.size w w' := by
  have HLn := Lib.hid (OdLen_any p od w h)
  by_cases hi0 : i < 0
  · have HE := Lib.hid (show linksAt od i a = [] from if_neg (by omega))
    rw [HE.out]
    clear h hB
    go_enter Tryz.func35, Tryz.ntmps35
    go_wp2_with fail
    go_ret
    exact ⟨_, rfl, World.ownsRow_nil _ _ _ _, Below.refl _ _⟩
  · by_cases hin : i < (od.length : Int)
    · obtain ⟨k, rfl⟩ : ∃ k : Nat, i = (k : Int) := ⟨i.toNat, by omega⟩
      have hk : k < od.length := by omega
      obtain ⟨rb, ro, n, c, b, hn, c0, hnc, c1, hrow⟩ := h.row hk
      have hE : linksAt od (k : Int) a = lkR (od.getD k []) a := if_pos (by omega)
      have hrB := hB _ (show od.getD k [] ∈ od by rw [List.getD_eq_getElem?_getD, List.getElem?_eq_getElem hk]; exact List.getElem_mem hk)
      rw [hE]
      have HLB := Lib.hid (lkR_B hrB a)
      have HRow := Lib.hid hrow
      have HA := Lib.hid ha
      rw [← hn] at HLn
      have hkn : (k : Int) < (n : Int) := by omega
      have hkn' : ¬ (n : Int) ≤ (k : Int) := by omega
      clear h hB hrow hE hrB hn hin hi0 hk ha
      go_enter Tryz.func35, Tryz.ntmps35
      go_wp2_with (first
        | (go_at_call 32; refine HLn.out.mono ?_; rintro e w' ⟨rfl, rfl⟩)
        | (go_at_call 81; refine HCl.out.mono ?_; rintro e w2 ⟨v, rfl, hown, hb⟩; have HO := Lib.hid hown; have HB := Lib.hid hb; clear hown hb)
        | (refine wpList_lookR _ rfl _ _ rfl b _ (by go_simp) HRow.out a (by go_simp) HA.out.1 HA.out.2 ?_; intro A c' l hrl hl; have HCl := Lib.hid (CloneI_own l A l.length c' _ rfl (by rw [hl]; exact Nat.le_trans HLB.out (by decide)) hrl.1); have HL := Lib.hid hl; clear hrl hl))
      go_ret
      rw [← HL.out]
      exact ⟨_, rfl, HO.out, HB.out⟩
    · have HE := Lib.hid (show linksAt od i a = [] from if_neg (by omega))
      rw [HE.out]
      obtain ⟨n, hn⟩ : ∃ n, n = od.length := ⟨_, rfl⟩
      rw [← hn] at HLn hin
      have hin' : (n : Int) ≤ i := by omega
      clear h hB hn hin
      go_enter Tryz.func35, Tryz.ntmps35
      go_wp2_with (go_at_call 32; refine HLn.out.mono ?_; rintro e w' ⟨rfl, rfl⟩)
      go_ret
      exact ⟨_, rfl, World.ownsRow_nil _ _ _ _, Below.refl _ _⟩
end Go.Proofs.YtmonepclhbappaaGreatDoor
/-
  Contracts: nums.Add, size, signed, over, Mul, small, Pow; bits.Mul64.
-/
namespace Go.Proofs.YtmonepclhbappaaGreatDoor
open Go.RowKit Go.Lib
set_option maxRecDepth 100000
set_option linter.unusedVariables false

/-- Does it lie from -2^63 to 2^63 - 1? -/
def fitB (z : Int) : Bool := decide (-9223372036854775808 ≤ z ∧ z ≤ 9223372036854775807)
/-- What is told of a number: itself, or nothing. -/
def tn (z : Int) : Int := if fitB z then z else 0
def te (t : ByteArray) (z : Int) : Err := if fitB z then .nil else .flt 7 0 t
theorem fitB_true {z : Int} (h : -9223372036854775808 ≤ z ∧ z ≤ 9223372036854775807) : fitB z = true := decide_eq_true h
theorem fitB_false {z : Int} (h : ¬ (-9223372036854775808 ≤ z ∧ z ≤ 9223372036854775807)) : fitB z = false := decide_eq_false h
theorem fitB_iff {z : Int} : fitB z = true ↔ -9223372036854775808 ≤ z ∧ z ≤ 9223372036854775807 := by unfold fitB; simp
theorem tn_fit {z : Int} (h : fitB z = true) : tn z = z := by rw [tn, h]; rfl
theorem tn_not {z : Int} (h : fitB z = false) : tn z = 0 := by rw [tn, h]; rfl
theorem te_fit {t : ByteArray} {z : Int} (h : fitB z = true) : te t z = .nil := by rw [te, h]; rfl
theorem te_not {t : ByteArray} {z : Int} (h : fitB z = false) : te t z = .flt 7 0 t := by rw [te, h]; rfl
theorem tn_in (z : Int) : -9223372036854775808 ≤ tn z ∧ tn z ≤ 9223372036854775807 := by
  unfold tn
  split
  · rename_i h; exact fitB_iff.1 h
  · omega
theorem te_code (t : ByteArray) (z : Int) : (te t z).code = if fitB z then 0 else 7 := by
  unfold te; split <;> rfl
def txtSum : ByteArray := ⟨#[115, 117, 109]⟩
def txtProduct : ByteArray := ⟨#[112, 114, 111, 100, 117, 99, 116]⟩
def txtPower : ByteArray := ⟨#[112, 111, 119, 101, 114]⟩
def txtChoice : ByteArray := ⟨#[99, 104, 111, 105, 99, 101]⟩

theorem Over_any (t : ByteArray) (w : World) :
    Calls Tryz.prog 106 #[.string t] w fun e w' => ∃ ev, e = .returned (.tuple #[.int .i64 0, ev]) ∧ (Err.flt 7 0 t).At w' ev ∧ Below w.heap.size w w' := by
  go_enter Tryz.func106, Tryz.ntmps106
  go_wp2_with fail
  refine (New_err 7 0 t w).mono ?_
  rintro e w1 ⟨v, rfl, hv, hb1⟩
  have HV := Lib.hid hv
  clear hv
  go_wp2_with fail
  go_ret2
  exact ⟨v, rfl, HV.out, hb1⟩

/-- Of a size and a sign: the number, and whether it fits. -/
def SgP (z : Int) (w : World) (e : Ending) (w' : World) : Prop := ∃ p : Int, e = .returned (.tuple #[.int .i64 p, .bool (fitB z)]) ∧ (fitB z = true → p = z) ∧ w' = w
theorem prod_abs (a b : Int) : (if (decide (a < 0) != decide (b < 0)) = true then -((a.natAbs * b.natAbs : Nat) : Int) else ((a.natAbs * b.natAbs : Nat) : Int)) = a * b := by
  rw [← Int.natAbs_mul]
  by_cases h1 : a < 0 <;> by_cases h2 : b < 0
  · have := Int.mul_pos_of_neg_of_neg h1 h2
    simp [h1, h2]; omega
  · have := Int.mul_nonpos_of_nonpos_of_nonneg (a := a) (b := b) (by omega) (by omega)
    simp [h1, h2]; omega
  · have := Int.mul_nonpos_of_nonneg_of_nonpos (a := a) (b := b) (by omega) (by omega)
    simp [h1, h2]; omega
  · have := Int.mul_nonneg (a := a) (b := b) (by omega) (by omega)
    simp [h1, h2]; omega

end Go.Proofs.YtmonepclhbappaaGreatDoor
/-
  Plainly: choices (Pascal's row), powers that are too great, sums of lists.
-/
namespace Go.Proofs.YtmonepclhbappaaGreatDoor
set_option linter.unusedVariables false

/-- How many sets of k of n. -/
def ch : Nat → Nat → Nat
  | _, 0 => 1
  | 0, _ + 1 => 0
  | n + 1, k + 1 => ch n k + ch n (k + 1)
theorem ch_zero (n : Nat) : ch n 0 = 1 := by cases n <;> rfl
theorem ch_succ (n k : Nat) : ch (n + 1) (k + 1) = ch n k + ch n (k + 1) := rfl
theorem ch_out : ∀ {n k : Nat}, n < k → ch n k = 0
  | 0, k + 1, _ => rfl
  | n + 1, k + 1, h => by rw [ch_succ, ch_out (show n < k by omega), ch_out (show n < k + 1 by omega)]
theorem ch_self (n : Nat) : ch n n = 1 := by
  induction n with
  | zero => rfl
  | succ n ih => rw [ch_succ, ih, ch_out (Nat.lt_succ_self n)]
theorem ch_pos : ∀ {n k : Nat}, k ≤ n → 1 ≤ ch n k
  | n, 0, _ => by rw [ch_zero]; omega
  | n + 1, k + 1, h => by rw [ch_succ]; have := ch_pos (show k ≤ n by omega); omega
theorem ch_step : ∀ (n k : Nat), (k + 1) * ch (n + 1) (k + 1) = (n + 1) * ch n k
  | 0, 0 => rfl
  | 0, k + 1 => by
    rw [ch_succ, show ch 0 (k + 1) = 0 from rfl, show ch 0 (k + 1 + 1) = 0 from rfl]; simp
  | n + 1, 0 => by
    have := ch_step n 0
    rw [ch_zero] at this ⊢
    rw [ch_succ (n + 1) 0, ch_zero]
    omega
  | n + 1, k + 1 => by
    have h1 := ch_step n (k + 1)
    have h2 := ch_step n k
    have e1 : (k + 1 + 1) * ch (n + 1 + 1) (k + 1 + 1) = (k + 1) * ch (n + 1) (k + 1) + ch (n + 1) (k + 1) + (k + 1 + 1) * ch (n + 1) (k + 1 + 1) := by
      rw [ch_succ (n + 1) (k + 1), Nat.mul_add, Nat.add_mul (k + 1) 1]; omega
    have e2 : (n + 1 + 1) * ch (n + 1) (k + 1) = (n + 1) * ch (n + 1) (k + 1) + ch (n + 1) (k + 1) := by rw [Nat.add_mul (n + 1) 1]; omega
    have e3 : (n + 1) * ch (n + 1) (k + 1) = (n + 1) * ch n k + (n + 1) * ch n (k + 1) := by rw [ch_succ n k, Nat.mul_add]
    rw [e1, h1, h2, e2, e3]; omega
theorem ch_symm : ∀ (a b : Nat), ch (a + b) a = ch (a + b) b
  | 0, b => by rw [Nat.zero_add, ch_zero, ch_self]
  | a + 1, 0 => by rw [Nat.add_zero, ch_zero, ch_self]
  | a + 1, b + 1 => by
    have h1 := ch_symm a (b + 1)
    have h2 := ch_symm (a + 1) b
    rw [show a + 1 + (b + 1) = (a + b + 1) + 1 by omega, ch_succ (a + b + 1) a, ch_succ (a + b + 1) b]
    rw [show a + (b + 1) = a + b + 1 by omega] at h1
    rw [show a + 1 + b = a + b + 1 by omega] at h2
    omega
theorem ch_symm' {n k : Nat} (h : k ≤ n) : ch n (n - k) = ch n k := by
  have := ch_symm (n - k) k
  rwa [Nat.sub_add_cancel h] at this
theorem ch_min {n k : Nat} (h : k ≤ n) : ch n (min k (n - k)) = ch n k := by
  rcases Nat.le_total k (n - k) with h1 | h1
  · rw [Nat.min_eq_left h1]
  · rw [Nat.min_eq_right h1, ch_symm' h]
theorem ch_mono (m : Nat) {i k : Nat} (h : i ≤ k) : ch (m + i) i ≤ ch (m + k) k := by
  induction k with
  | zero => obtain rfl : i = 0 := by omega
            exact Nat.le_refl _
  | succ k ih =>
    rcases Nat.eq_or_lt_of_le h with rfl | h1
    · exact Nat.le_refl _
    · refine Nat.le_trans (ih (by omega)) ?_
      rw [← Nat.add_assoc, ch_succ]; omega
theorem ch_ge (m : Nat) : ∀ {i : Nat}, i ≤ m → 2 ^ i ≤ ch (m + i) i
  | 0, _ => by rw [ch_zero]; exact Nat.le_refl _
  | i + 1, h => by
    have h1 := ch_ge m (i := i) (by omega)
    have h2 := ch_step (m + i) i
    rw [show m + (i + 1) = m + i + 1 by omega]
    have h3 : 2 * (i + 1) * ch (m + i) i ≤ (m + i + 1) * ch (m + i) i := Nat.mul_le_mul_right _ (by omega)
    rw [← h2, Nat.mul_comm 2 (i + 1), Nat.mul_assoc] at h3
    have h4 := Nat.le_of_mul_le_mul_left h3 (by omega)
    rw [Nat.pow_succ]; omega
/-- From one choice to the next: no rest. -/
theorem ch_next (m i : Nat) : ch (m + i) i * (m + (i + 1)) / (i + 1) = ch (m + (i + 1)) (i + 1) := by
  have h := ch_step (m + i) i
  rw [show m + (i + 1) = m + i + 1 by omega, Nat.mul_comm, ← h, Nat.mul_div_cancel_left _ (by omega)]
/-- A row's first choices, added up. -/
def rowS (n : Nat) : Nat → Nat
  | 0 => 0
  | k + 1 => rowS n k + ch n k
theorem rowS_succ (n : Nat) : ∀ k, rowS (n + 1) (k + 1) = rowS n (k + 1) + rowS n k
  | 0 => by simp [rowS, ch_zero]
  | k + 1 => by
    have h := rowS_succ n k
    have e1 : rowS (n + 1) (k + 1 + 1) = rowS (n + 1) (k + 1) + ch (n + 1) (k + 1) := rfl
    have e2 : rowS n (k + 1 + 1) = rowS n (k + 1) + ch n (k + 1) := rfl
    have e3 : rowS n (k + 1) = rowS n k + ch n k := rfl
    rw [e1, e2, h, ch_succ]; omega
theorem rowS_all : ∀ n, rowS n (n + 1) = 2 ^ n
  | 0 => rfl
  | n + 1 => by
    have h := rowS_all n
    rw [rowS_succ, show rowS n (n + 1 + 1) = rowS n (n + 1) + ch n (n + 1) from rfl, ch_out (Nat.lt_succ_self n), h, Nat.pow_succ]; omega
theorem rowS_le (n : Nat) {a b : Nat} (h : a ≤ b) : rowS n a ≤ rowS n b := by
  induction b with
  | zero => obtain rfl : a = 0 := by omega
            exact Nat.le_refl _
  | succ b ih =>
    rcases Nat.eq_or_lt_of_le h with rfl | h1
    · exact Nat.le_refl _
    · exact Nat.le_trans (ih (by omega)) (Nat.le_add_right _ _)
theorem ch_le (n : Nat) (k : Nat) : ch n k ≤ 2 ^ n := by
  by_cases h : k ≤ n
  · rw [← rowS_all]
    exact Nat.le_trans (Nat.le_add_left _ (rowS n k)) (rowS_le n (show k + 1 ≤ n + 1 by omega))
  · rw [ch_out (by omega)]; exact Nat.zero_le _

/-- A number and its powers. -/
theorem pow_abs (a : Int) (n : Nat) : (a ^ n).natAbs = a.natAbs ^ n := Int.natAbs_pow a n
theorem two_pow_le {a : Int} (h : 2 ≤ a.natAbs) (n : Nat) : 2 ^ n ≤ (a ^ n).natAbs := by
  rw [pow_abs]; exact Nat.pow_le_pow_left h n

/-- The sum of a list. -/
def sumZ : List Int → Int
  | [] => 0
  | x :: l => x + sumZ l
theorem sumZ_append : ∀ (a b : List Int), sumZ (a ++ b) = sumZ a + sumZ b
  | [], b => by simp [sumZ]
  | x :: a, b => by rw [List.cons_append, sumZ, sumZ, sumZ_append a b]; omega
theorem sumZ_take_succ {l : List Int} {k : Nat} (h : k < l.length) : sumZ (l.take (k + 1)) = sumZ (l.take k) + l[k] := by
  rw [List.take_succ_eq_append_getElem h, sumZ_append]; simp [sumZ]
theorem sumZ_reverse (l : List Int) : sumZ l.reverse = sumZ l := by
  induction l with
  | nil => rfl
  | cons x l ih => rw [List.reverse_cons, sumZ_append, ih]; simp [sumZ]; omega
theorem sumZ_split (l : List Int) (k : Nat) : sumZ (l.take k) + sumZ (l.drop k) = sumZ l := by
  rw [← sumZ_append, List.take_append_drop]
/-- The least of some, at most 2^63 - 1. -/
def minZ : List Int → Int := fun l => l.foldl min 9223372036854775807
theorem minZ_take_succ {l : List Int} {k : Nat} (h : k < l.length) : minZ (l.take (k + 1)) = min (minZ (l.take k)) l[k] := by
  unfold minZ
  rw [List.take_succ_eq_append_getElem h, List.foldl_append]; rfl
theorem foldl_min_le (l : List Int) : ∀ (a : Int), l.foldl min a ≤ a ∧ ∀ x ∈ l, l.foldl min a ≤ x := by
  induction l with
  | nil => intro a; exact ⟨Int.le_refl _, fun x h => by cases h⟩
  | cons y l ih =>
    intro a
    have := ih (min a y)
    refine ⟨?_, fun x hx => ?_⟩
    · rw [List.foldl_cons]; have := this.1; omega
    · rw [List.foldl_cons]
      rcases List.mem_cons.1 hx with rfl | hx
      · have := this.1; omega
      · exact this.2 x hx
theorem foldl_min_mem (l : List Int) : ∀ (a : Int), l.foldl min a = a ∨ l.foldl min a ∈ l := by
  induction l with
  | nil => intro a; exact .inl rfl
  | cons y l ih =>
    intro a
    rw [List.foldl_cons]
    rcases ih (min a y) with h | h
    · rcases Int.le_total a y with h2 | h2
      · left; rw [h]; omega
      · right; rw [h, Int.min_eq_right h2]; simp
    · right; exact List.mem_cons_of_mem _ h
theorem minZ_le {l : List Int} {x : Int} (h : x ∈ l) : minZ l ≤ x := (foldl_min_le l _).2 x h
theorem minZ_mem {l : List Int} (h : l ≠ []) (hr : ∀ x ∈ l, x ≤ 9223372036854775807) : minZ l ∈ l := by
  rcases foldl_min_mem l 9223372036854775807 with h1 | h1
  · cases l with
    | nil => exact absurd rfl h
    | cons y l =>
      have h2 := (foldl_min_le (y :: l) 9223372036854775807).2 y (by simp)
      have h3 := hr y (by simp)
      rw [h1] at h2
      have : minZ (y :: l) = y := by unfold minZ; rw [h1]; omega
      rw [this]; simp
  · exact h1
end Go.Proofs.YtmonepclhbappaaGreatDoor
/-
  Contracts: nums.small, Pow, Total, Least; bits.Add64.
-/
namespace Go.Proofs.YtmonepclhbappaaGreatDoor
open Go.RowKit
set_option maxRecDepth 100000
set_option linter.unusedVariables false

theorem Add64_any (x y : Nat) (w : World) :
    (callFunc 105 #[.int .u64 x, .int .u64 y, .int .u64 0]).run Tryz.prog w =
      .ok (.value (.tuple #[.int .u64 (((x + y) % 18446744073709551616 : Nat) : Int), .int .u64 (((x + y) / 18446744073709551616 : Nat) : Int)])) w := by
  rw [run_callFunc_extern Tryz.func105 (by kernel_rfl) (by kernel_rfl) (by kernel_rfl) (e := add64Entry) (by kernel_rfl), run_add64 x y 0 (by omega) (by omega) (by omega) (by omega)]
  simp only [Result.andThen]
  congr 5 <;> omega

theorem neg_one_pow (n : Nat) : (-1 : Int) ^ n = if n % 2 = 0 then 1 else -1 := by
  induction n with
  | zero => rfl
  | succ n ih =>
    rw [Int.pow_succ, ih]
    rcases Nat.mod_two_eq_zero_or_one n with h | h
    · rw [if_pos h, if_neg (by omega)]; rfl
    · rw [if_neg (by omega), if_pos (by omega)]; rfl

theorem pow_not_fit {a : Int} (h2 : 2 ≤ a.natAbs) {i n : Nat} (hin : i + 1 ≤ n) (hnf : fitB (a ^ (i + 1)) = false) : fitB (a ^ n) = false := by
  rcases Nat.eq_or_lt_of_le hin with rfl | hlt
  · exact hnf
  · obtain ⟨k, rfl⟩ : ∃ k, n = (i + 1) + (k + 1) := ⟨n - i - 2, by omega⟩
    have h1 : 9223372036854775808 ≤ (a ^ (i + 1)).natAbs := by
      have : ¬ (-9223372036854775808 ≤ a ^ (i + 1) ∧ a ^ (i + 1) ≤ 9223372036854775807) := fun h => by rw [fitB_true h] at hnf; cases hnf
      omega
    have h3 : (a ^ (i + 1 + (k + 1))).natAbs = (a ^ (i + 1)).natAbs * (a ^ (k + 1)).natAbs := by rw [Int.pow_add, Int.natAbs_mul]
    have h4 := two_pow_le h2 (k + 1)
    have h5 : 2 ≤ (a ^ (k + 1)).natAbs := Nat.le_trans (by rw [Nat.pow_succ]; have := Nat.two_pow_pos k; omega) h4
    have h6 := Nat.mul_le_mul h1 h5
    rw [← h3] at h6
    exact fitB_false (by omega)

theorem i64_cell {l : List Int} {i : Nat} (h : i < l.length) : (l.map (Value.int .i64))[i]? = some (.int .i64 l[i]) := by
  rw [List.getElem?_map, List.getElem?_eq_getElem h]; rfl
theorem Sl.i64 {w : World} {A : Option Addr} {n i : Nat} {l : List Int} (h : Sl w 1 A n (l.map (Value.int .i64))) (hl : l.length = n) (hi : i < n) : ∃ b off, A = some ⟨b, off, none⟩ ∧ w.cell? ⟨b, off + i, none⟩ = some (.int .i64 (l[i]'(by omega))) := by
  obtain ⟨b, off, u, hA, h1, h2⟩ := h.one hi
  rw [i64_cell (by omega)] at h1
  cases h1
  exact ⟨b, off, hA, h2⟩

set_option maxHeartbeats 2000000 in
theorem NumsTotal_any (l : List Int) (A : Option Addr) (n c : Nat) (w : World) (hl : l.length = n) (hn : n ≤ 1099511627776) (hr : ∀ x ∈ l, -9223372036854775808 ≤ x ∧ x ≤ 9223372036854775807) (hs : Sl w 1 A n (l.map (Value.int .i64))) :
    Calls Tryz.prog 70 #[.slice A n c] w fun e w' => ∃ ev, e = .returned (.tuple #[.int .i64 (tn (sumZ l)), ev]) ∧ (te txtSum (sumZ l)).At w' ev ∧ Below w.heap.size w w' := by
  have HS := Lib.hid hs
  have HR := Lib.hid hr
  clear hs hr
  go_enter Tryz.func70, Tryz.ntmps70
  go_wp2_with fail
  go_loopw [4, 5, 11] (fun hv lv iv wr => ∃ (k lo : Nat) (hi : Int), k ≤ n ∧ iv = .int .i64 (k : Int) ∧ lv = .int .u64 (lo : Int) ∧ hv = .int .i64 hi ∧ lo < 18446744073709551616 ∧ (-(k : Int) ≤ hi ∧ hi ≤ (k : Int)) ∧ hi * 18446744073709551616 + lo = sumZ (l.take k) ∧ wr = w) (fun _ _ iv _ => n - (intOf iv).toNat)
  case atStart => exact ⟨0, 0, 0, Nat.zero_le _, rfl, rfl, rfl, by omega, by omega, by simp [sumZ], rfl⟩
  case round =>
    obtain ⟨k, lo, hi, hk, rfl, rfl, rfl, hlo, hhi, hsum, rfl⟩ := hrel
    have HSum := Lib.hid hsum
    clear hsum
    by_cases hlt : k < n
    · have hkl : k < l.length := by omega
      obtain ⟨b, off, rfl, hc⟩ := HS.out.i64 hl hlt
      have HT := Lib.hid (sumZ_take_succ hkl)
      have hx := HR.out l[k] (List.getElem_mem hkl)
      generalize l[k] = x at *
      obtain ⟨X, hX, hX2⟩ : ∃ X : Nat, IntKind.u64.wrap x = (X : Int) ∧ X < 18446744073709551616 := ⟨(x % 18446744073709551616).toNat, by rw [IntKind.wrap_u64]; omega, by omega⟩
      have HX := Lib.hid (show (X : Int) = x - (x / 9223372036854775808) * 18446744073709551616 by rw [← hX, IntKind.wrap_u64]; omega)
      obtain ⟨lo', hlo'⟩ : ∃ lo', (lo + X) % 18446744073709551616 = lo' := ⟨_, rfl⟩
      obtain ⟨cy, hcy⟩ : ∃ cy, (lo + X) / 18446744073709551616 = cy := ⟨_, rfl⟩
      have hc1 : cy ≤ 1 := by omega
      have HC := Lib.hid (show lo + X = cy * 18446744073709551616 + lo' by omega)
      have hlo2 : lo' < 18446744073709551616 := by omega
      have hA64 := Add64_any lo X wr
      rw [hlo', hcy] at hA64
      clear hlo' hcy
      obtain ⟨s, hs⟩ : ∃ s, x / 9223372036854775808 = s := ⟨_, rfl⟩
      have hs2 : -1 ≤ s ∧ s ≤ 0 := by omega
      rw [hs] at HX
      have hlt' : (k : Int) < (n : Int) := by omega
      have hw1 : IntKind.i64.wrap (cy : Int) = (cy : Int) := by rw [IntKind.wrap_i64]; omega
      have hw2 : IntKind.i64.wrap (s + (cy : Int)) = s + (cy : Int) := by rw [IntKind.wrap_i64]; omega
      have hw3 : IntKind.i64.wrap (hi + (s + (cy : Int))) = hi + (s + (cy : Int)) := by rw [IntKind.wrap_i64]; omega
      go_wp2_with (simp only [hA64])
      go_roundw
      case rel => exact ⟨k + 1, lo', hi + (s + (cy : Int)), by omega, rfl, rfl, rfl, hlo2, by omega, by have h1 := HT.out; have h2 := HSum.out; have h3 := HC.out; have h4 := HX.out; rw [h1, ← h2]; omega, trivial⟩
      case measure => simp [intOf]; omega
    · obtain rfl : k = n := by omega
      have hlt' : ¬ (k : Int) < (k : Int) := by omega
      rw [List.take_of_length_le (by omega)] at HSum
      by_cases hz : lo < 9223372036854775808
      · have hw1 : IntKind.i64.wrap (lo : Int) = (lo : Int) := by rw [IntKind.wrap_i64]; omega
        have hd : (lo : Int) / 9223372036854775808 = 0 := by omega
        by_cases hh : hi = 0
        · subst hh
          have HF := Lib.hid (show fitB (sumZ l) = true from fitB_true (by have := HSum.out; omega))
          go_wp2_with fail
          go_ret2
          exact ⟨.nilIface, by rw [tn_fit HF.out, ← HSum.out]; simp, by rw [te_fit HF.out]; rfl, Below.refl _ _⟩
        · have hne : (hi == 0) = false := by simp; omega
          have HF := Lib.hid (show fitB (sumZ l) = false from fitB_false (by have := HSum.out; omega))
          go_wp2_with fail
          refine (Over_any txtSum _).mono ?_
          rintro e w2 ⟨ev, rfl, hv, hb2⟩
          have HV := Lib.hid hv
          clear hv
          go_wp2_with fail
          go_ret2
          exact ⟨ev, by rw [tn_not HF.out]; rfl, by rw [te_not HF.out]; exact HV.out, hb2⟩
      · obtain ⟨m, hm⟩ : ∃ m : Int, IntKind.i64.wrap (lo : Int) = m := ⟨_, rfl⟩
        have hm2 : m = (lo : Int) - 18446744073709551616 := by rw [← hm, IntKind.wrap_i64]; omega
        have hd : m / 9223372036854775808 = -1 := by omega
        by_cases hh : hi = -1
        · subst hh
          have HF := Lib.hid (show fitB (sumZ l) = true from fitB_true (by have := HSum.out; omega))
          have HM := Lib.hid hm2
          clear hm2
          go_wp2_with fail
          go_ret2
          exact ⟨.nilIface, by rw [tn_fit HF.out, ← HSum.out, show (-1 : Int) * 18446744073709551616 + (lo : Int) = m by rw [HM.out]; omega]; rfl, by rw [te_fit HF.out]; rfl, Below.refl _ _⟩
        · have hne : (hi == -1) = false := by simp; omega
          have HF := Lib.hid (show fitB (sumZ l) = false from fitB_false (by have := HSum.out; omega))
          clear hm2
          go_wp2_with fail
          refine (Over_any txtSum _).mono ?_
          rintro e w2 ⟨ev, rfl, hv, hb2⟩
          have HV := Lib.hid hv
          clear hv
          go_wp2_with fail
          go_ret2
          exact ⟨ev, by rw [tn_not HF.out]; rfl, by rw [te_not HF.out]; exact HV.out, hb2⟩

end Go.Proofs.YtmonepclhbappaaGreatDoor
/-
  Ranks: how many ways on from a number, plainly; the contract of sum, of Total.
-/
namespace Go.Proofs.YtmonepclhbappaaGreatDoor
open Go.RowKit Go.Maps
set_option maxRecDepth 100000
set_option linter.unusedVariables false

/-- The ways on from a number of the first row. -/
def tls : List Rw → Int → List (List Int)
  | [], _ => []
  | [_], a => [[a]]
  | r :: r2 :: rs, a => (lkR r a).flatMap fun b => (tls (r2 :: rs) b).map (a :: ·)
def cnt (od : List Rw) (i : Nat) (a : Int) : Int := ((tls (od.drop i) a).length : Nat)
theorem drop_one {od : List Rw} {i : Nat} (h : i + 1 = od.length) : od.drop i = [od.getD i []] := by
  rw [List.drop_eq_getElem_cons (by omega), List.drop_eq_nil_of_le (by omega), List.getD_eq_getElem?_getD, List.getElem?_eq_getElem (by omega)]
  rfl
theorem drop_two {od : List Rw} {i : Nat} (h : i + 1 < od.length) : ∃ r2 rs, od.drop i = od.getD i [] :: r2 :: rs ∧ od.drop (i + 1) = r2 :: rs := by
  refine ⟨od[i + 1], od.drop (i + 1 + 1), ?_, List.drop_eq_getElem_cons (by omega)⟩
  rw [List.drop_eq_getElem_cons (by omega), List.drop_eq_getElem_cons (i := i + 1) (by omega), List.getD_eq_getElem?_getD, List.getElem?_eq_getElem (by omega)]
  rfl
theorem cnt_last {od : List Rw} {i : Nat} (h : i + 1 = od.length) (a : Int) : cnt od i a = 1 := by unfold cnt; rw [drop_one h]; rfl
theorem len_flatMap {α β : Type} (f : α → List β) : ∀ l : List α, ((l.flatMap f).length : Int) = sumZ (l.map fun x => ((f x).length : Int))
  | [] => rfl
  | x :: l => by rw [List.flatMap_cons, List.length_append, List.map_cons, sumZ, ← len_flatMap f l]; omega
theorem cnt_step {od : List Rw} {i : Nat} (h : i + 1 < od.length) (a : Int) : cnt od i a = sumZ ((lkR (od.getD i []) a).map (cnt od (i + 1))) := by
  obtain ⟨r2, rs, h1, h2⟩ := drop_two h
  unfold cnt
  rw [h1, h2]
  show (((lkR (od.getD i []) a).flatMap fun b => (tls (r2 :: rs) b).map (a :: ·)).length : Int) = _
  rw [len_flatMap]
  simp
/-- All paths, in order. -/
def allP (od : List Rw) : List (List Int) := ((od.getD 0 []).map (·.1)).flatMap (tls od)
def totP (od : List Rw) : Int := ((allP od).length : Nat)
theorem totP_sum (od : List Rw) : totP od = sumZ (((od.getD 0 []).map (·.1)).map (cnt od 0)) := by
  unfold totP allP
  rw [len_flatMap]
  rfl
/-- Links go to numbers of the next row. -/
def Closed (od : List Rw) : Prop := ∀ i, i + 1 < od.length → ∀ q ∈ od.getD i [], ∀ b ∈ q.2, b ∈ (od.getD (i + 1) []).map (·.1)
theorem lkR_mem {r : Rw} {a b : Int} (h : b ∈ lkR r a) : ∃ q ∈ r, q.1 = a ∧ b ∈ q.2 := by
  unfold lkR at h
  cases hf : r.find? fun p => decide (p.1 = a) with
  | none => rw [hf] at h; cases h
  | some p =>
    rw [hf] at h
    exact ⟨p, List.mem_of_find?_eq_some hf, by simpa using List.find?_some hf, h⟩
/-- Few enough to be counted. -/
def Fits (od : List Rw) : Prop := (∀ i a, i < od.length → cnt od i a ≤ 4611686018427387904) ∧ totP od ≤ 4611686018427387904
theorem cnt_nn (od : List Rw) (i : Nat) (a : Int) : 0 ≤ cnt od i a := Int.natCast_nonneg _

theorem elemI64r : Elem Tryz.prog 122 2 (.int .i64 0) 1 8 := ⟨Tryz.underlying122, by kernel_rfl, rfl, by decide⟩
end Go.Proofs.YtmonepclhbappaaGreatDoor
/-
  Ranks: the contract of Of.
-/
namespace Go.Proofs.YtmonepclhbappaaGreatDoor
open Go.RowKit Go.Maps
set_option maxRecDepth 100000
set_option linter.unusedVariables false

def Nums (od : List Rw) : Prop := ∀ r ∈ od, ∀ q ∈ r, numOK q.1 ∧ ∀ b ∈ q.2, numOK b
theorem numOK.ok {x : Int} (h : numOK x) : i64ok x := ⟨by have := h.1; omega, by have := h.2; omega⟩
theorem getD_memO {od : List Rw} {i : Nat} (h : i < od.length) : od.getD i [] ∈ od := by rw [List.getD_eq_getElem?_getD, List.getElem?_eq_getElem h]; exact List.getElem_mem h
theorem Nums.key {od : List Rw} (h : Nums od) {i : Nat} (hi : i < od.length) {a : Int} (ha : a ∈ (od.getD i []).map (·.1)) : i64ok a := by
  obtain ⟨q, hq, rfl⟩ := List.mem_map.1 ha
  exact (h _ (getD_memO hi) q hq).1.ok
theorem Nums.link {od : List Rw} (h : Nums od) {i : Nat} (hi : i < od.length) {a b : Int} (hb : b ∈ lkR (od.getD i []) a) : i64ok b := by
  obtain ⟨q, hq, _, hb⟩ := lkR_mem hb
  exact ((h _ (getD_memO hi) q hq).2 b hb).ok
theorem Closed.link {od : List Rw} (h : Closed od) {i : Nat} (hi : i + 1 < od.length) {a b : Int} (hb : b ∈ lkR (od.getD i []) a) : b ∈ (od.getD (i + 1) []).map (·.1) := by
  obtain ⟨q, hq, _, hb⟩ := lkR_mem hb
  exact h i hi q hq b hb
theorem fit_nn {z : Int} (h0 : 0 ≤ z) (h1 : z ≤ 4611686018427387904) : fitB z = true := by
  unfold fitB
  simp
  omega
theorem keysAt_in {od : List Rw} {i : Nat} (h : i < od.length) : keysAt od (i : Int) = (od.getD i []).map (·.1) := if_pos (by omega)
theorem linksAt_in {od : List Rw} {i : Nat} (h : i < od.length) (a : Int) : linksAt od (i : Int) a = lkR (od.getD i []) a := if_pos (by omega)

/-- Rows behind i are done, of row i the first k numbers. -/
def Don (od : List Rw) (f : Int → Int → Int) (i k : Nat) : Prop :=
  (∀ (j : Nat) (a : Int), i < j → j < od.length → a ∈ (od.getD j []).map (·.1) → f j a = cnt od j a) ∧ ∀ a ∈ ((od.getD i []).map (·.1)).take k, f i a = cnt od i a
theorem Don.step {od : List Rw} {f : Int → Int → Int} {i k : Nat} {a : Int} (h : Don od f i k) (ha : ((od.getD i []).map (·.1))[k]? = some a) : Don od (updF f i a (cnt od i a)) i (k + 1) := by
  refine ⟨fun j b hj hn hb => ?_, fun b hb => ?_⟩
  · unfold updF
    rw [if_neg (by omega)]
    exact h.1 j b hj hn hb
  · unfold updF
    by_cases hba : b = a
    · subst hba
      rw [if_pos ⟨rfl, rfl⟩]
    · rw [if_neg (fun e => hba e.2)]
      refine h.2 b ?_
      obtain ⟨e1, e2⟩ := List.getElem?_eq_some_iff.1 ha
      rw [List.take_succ_eq_append_getElem e1, e2] at hb
      rcases List.mem_append.1 hb with hb | hb
      · exact hb
      · exact absurd (List.mem_singleton.1 hb) hba
def DonR (od : List Rw) (f : Int → Int → Int) (t : Nat) : Prop := ∀ (j : Nat) (a : Int), t ≤ j → j < od.length → a ∈ (od.getD j []).map (·.1) → f j a = cnt od j a
theorem DonR.don {od : List Rw} {f : Int → Int → Int} {i : Nat} (h : DonR od f (i + 1)) : Don od f i 0 := ⟨fun j a hj => h j a hj, fun a ha => by cases ha⟩
theorem Don.donR {od : List Rw} {f : Int → Int → Int} {i k : Nat} (h : Don od f i k) (hk : ((od.getD i []).map (·.1)).length ≤ k) : DonR od f i := fun j a hj hn ha => by
  by_cases e : i = j
  · subst e
    exact h.2 a (by rw [List.take_of_length_le hk]; exact ha)
  · exact h.1 j a (by omega) hn ha

end Go.Proofs.YtmonepclhbappaaGreatDoor
/-
  Ranks: the contracts of next, At.
-/
namespace Go.Proofs.YtmonepclhbappaaGreatDoor
open Go.RowKit Go.Maps
set_option maxRecDepth 100000
set_option linter.unusedVariables false

/-- What may come behind a path's beginning. -/
def nextL (od : List Rw) (l : List Int) : List Int := if l = [] then keysAt od 0 else linksAt od ((l.length : Int) - 1) (l.getD (l.length - 1) 0)

end Go.Proofs.YtmonepclhbappaaGreatDoor
/-
  Ranks plainly: which path a rank picks, step by step.
-/
namespace Go.Proofs.YtmonepclhbappaaGreatDoor
open Go.RowKit
set_option linter.unusedVariables false

/-- What may still come behind a beginning. -/
def sfx (od : List Rw) (l : List Int) : List (List Int) := (nextL od l).flatMap (tls (od.drop l.length))
theorem tls_last {od : List Rw} {i : Nat} (h : i + 1 = od.length) (a : Int) : tls (od.drop i) a = [[a]] := by rw [drop_one h]; rfl
theorem tls_step {od : List Rw} {i : Nat} (h : i + 1 < od.length) (a : Int) : tls (od.drop i) a = ((lkR (od.getD i []) a).flatMap (tls (od.drop (i + 1)))).map (a :: ·) := by
  obtain ⟨r2, rs, h1, h2⟩ := drop_two h
  rw [h1, h2, List.map_flatMap]
  rfl
theorem nextL_nil (od : List Rw) : nextL od [] = keysAt od 0 := if_pos rfl
theorem nextL_snoc (od : List Rw) (l : List Int) (a : Int) : nextL od (l ++ [a]) = linksAt od (l.length : Int) a := by
  unfold nextL
  rw [if_neg (by simp)]
  have e1 : (((l ++ [a]).length : Int) - 1) = (l.length : Int) := by rw [List.length_append]; simp
  have e2 : (l ++ [a]).getD ((l ++ [a]).length - 1) 0 = a := by
    rw [List.getD_eq_getElem?_getD, List.length_append]
    simp
  rw [e1, e2]
theorem sfx_snoc {od : List Rw} {l : List Int} (h : l.length + 1 < od.length) (a : Int) : tls (od.drop l.length) a = (sfx od (l ++ [a])).map (a :: ·) := by
  unfold sfx
  rw [tls_step h, nextL_snoc, linksAt_in (by omega), List.length_append]
  rfl
theorem sfx_nil {od : List Rw} (h : 1 ≤ od.length) : sfx od [] = allP od := by
  unfold sfx allP
  rw [nextL_nil, List.length_nil, List.drop_zero]
  have := keysAt_in (od := od) (i := 0) (by omega)
  rw [show ((0 : Nat) : Int) = 0 from rfl] at this
  rw [this]
/-- The path of a rank: a beginning, what is left of the rank. -/
def Leads (od : List Rw) (n : Nat) (P : List Int) (l : List Int) (k : Nat) : Prop := ∃ s, (sfx od l)[k]? = some s ∧ P = l ++ s
/-- .. while the numbers behind a beginning are gone through. -/
def LeadsIn (od : List Rw) (P : List Int) (l : List Int) (left : List Int) (k : Nat) : Prop := ∃ s, (left.flatMap (tls (od.drop l.length)))[k]? = some s ∧ P = l ++ s
theorem Leads.begin {od : List Rw} {n : Nat} {P l : List Int} {k : Nat} (h : Leads od n P l k) : LeadsIn od P l (nextL od l) k := h
theorem LeadsIn.skip {od : List Rw} {P l left : List Int} {a : Int} {k : Nat} (h : LeadsIn od P l (a :: left) k) (hk : (cnt od l.length a) ≤ (k : Int)) : LeadsIn od P l left (k - (cnt od l.length a).toNat) := by
  obtain ⟨s, h1, h2⟩ := h
  refine ⟨s, ?_, h2⟩
  unfold cnt at hk ⊢
  rw [List.flatMap_cons, List.getElem?_append_right (by omega)] at h1
  exact h1
theorem LeadsIn.left {od : List Rw} {P l left : List Int} {k : Nat} (h : LeadsIn od P l left k) : left ≠ [] := fun e => by
  obtain ⟨s, h1, _⟩ := h
  rw [e] at h1
  cases h1
theorem LeadsIn.pick {od : List Rw} {P l left : List Int} {a : Int} {k : Nat} (h : LeadsIn od P l (a :: left) k) (hl : l.length + 1 < od.length) (hk : (k : Int) < cnt od l.length a) (n : Nat) : Leads od n P (l ++ [a]) k := by
  obtain ⟨s, h1, h2⟩ := h
  unfold cnt at hk
  rw [List.flatMap_cons, List.getElem?_append_left (by omega), sfx_snoc hl, List.getElem?_map] at h1
  obtain ⟨s', h3, rfl⟩ := Option.map_eq_some_iff.1 h1
  exact ⟨s', h3, by rw [h2, List.append_assoc]; rfl⟩
theorem LeadsIn.last {od : List Rw} {P l left : List Int} {a : Int} {k : Nat} (h : LeadsIn od P l (a :: left) k) (hl : l.length + 1 = od.length) (hk : (k : Int) < cnt od l.length a) : P = l ++ [a] := by
  obtain ⟨s, h1, h2⟩ := h
  unfold cnt at hk
  rw [List.flatMap_cons, List.getElem?_append_left (by omega), tls_last hl] at h1
  rw [h2, List.mem_singleton.1 (List.mem_of_getElem? h1)]
end Go.Proofs.YtmonepclhbappaaGreatDoor
