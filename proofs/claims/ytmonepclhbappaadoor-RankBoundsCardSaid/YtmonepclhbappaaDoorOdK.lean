/-
  Odags: the contracts of Row and Links.
-/
import Derived.Shelf.SlIterI.Sorted
import Derived.Test.YtmonepclhbappaaDoorOdB
namespace Go.Proofs.YtmonepclhbappaaDoor
open Go.RowKit Go.Maps Go.Sort Go.Shelf
set_option maxRecDepth 100000
set_option linter.unusedVariables false

def keysR_ren : Go.Shelf.Ren := ⟨fun | 7 => 93 | 10 => 106 | n => n, fun | 0 => 0 | 3 => 22 | 4 => 4 | 23 => 101 | 26 => 3 | 27 => 156 | 28 => 157 | 33 => 99 | n => n, fun | n => n⟩
theorem keysR_lays : Go.Proofs.SlLaysZI.n7 Tryd.prog keysR_ren := {
  mixed := by kernel_rfl
  f7 := ⟨Tryd.f93.name, by kernel_rfl, Tryd.func93.trans (congrArg some (by kernel_rfl))⟩
  f10 := ⟨Tryd.f106.name, by kernel_rfl, Tryd.func106.trans (congrArg some (by kernel_rfl))⟩
  t0 := Tryd.underlying0
  a0 := Tryd.isAgg0
  z0 := Tryd.sizeOf0
  v0 := Tryd.zeroValue0
  t4 := Tryd.underlying4
  a4 := Tryd.isAgg4
  z4 := Tryd.sizeOf4
  v4 := Tryd.zeroValue4
  t23 := Tryd.underlying101
  a23 := Tryd.isAgg101
  z23 := Tryd.sizeOf101
  v23 := Tryd.zeroValue101
  t26 := Tryd.underlying3
  a26 := Tryd.isAgg3
  z26 := Tryd.sizeOf3
  v26 := Tryd.zeroValue3
  t27 := Tryd.underlying156
  a27 := Tryd.isAgg156
  z27 := Tryd.sizeOf156
  v27 := Tryd.zeroValue156
  t28 := Tryd.underlying157
  a28 := Tryd.isAgg157
  z28 := Tryd.sizeOf157
  v28 := Tryd.zeroValue157
  t33 := Tryd.underlying99
  a33 := Tryd.isAgg99
  z33 := Tryd.sizeOf99
  v33 := Tryd.zeroValue99 }

def sortedR_ren : Go.Shelf.Ren := ⟨fun | 6 => 92 | 8 => 104 | 9 => 105 | 11 => 124 | n => n, fun | 0 => 0 | 24 => 22 | 26 => 3 | 28 => 157 | 33 => 99 | n => n, fun | n => n⟩
theorem sortedR_lays : Go.Proofs.SlLaysZI.n6 Tryd.prog sortedR_ren := {
  mixed := by kernel_rfl
  f6 := ⟨Tryd.f92.name, by kernel_rfl, Tryd.func92.trans (congrArg some (by kernel_rfl))⟩
  f8 := ⟨Tryd.f104.name, by kernel_rfl, Tryd.func104.trans (congrArg some (by kernel_rfl))⟩
  f11 := ⟨Tryd.f124.name, by kernel_rfl, Tryd.func124.trans (congrArg some (by kernel_rfl))⟩
  t0 := Tryd.underlying0
  a0 := Tryd.isAgg0
  z0 := Tryd.sizeOf0
  v0 := Tryd.zeroValue0
  t24 := Tryd.underlying22
  a24 := Tryd.isAgg22
  z24 := Tryd.sizeOf22
  v24 := Tryd.zeroValue22
  t26 := Tryd.underlying3
  a26 := Tryd.isAgg3
  z26 := Tryd.sizeOf3
  v26 := Tryd.zeroValue3
  t28 := Tryd.underlying157
  a28 := Tryd.isAgg157
  z28 := Tryd.sizeOf157
  v28 := Tryd.zeroValue157
  i26 := by kernel_rfl }

theorem sorts_in (m : Nat) : AnyZI.SortsIn Tryd.prog sortedR_ren Fence.wide m :=
  ⟨fun blk off cap ss W hH hblk hsz => callsIn_wide.2 (Any.slices_Sort_int sort_lays blk off cap ss W hH hblk hsz),
   fun p cap W => callsIn_wide.2 ((Any.slices_Sort_int_none sort_lays p cap W).mono fun e w' h => ⟨h.1, h.2⟩)⟩
theorem keys_asD (es : List (Int × Value)) : intKeys (asD es) = es.map (·.1) := by
  show (es.map enK).map (fun p => Go.intOf p.1) = _
  rw [List.map_map]
  rfl
theorem sort_of_perm {ss l : List Int} (hp : ss.Perm l) (hl : l.Pairwise (· < ·)) : (ss.mergeSort fun x y => decide (x ≤ y)) = l := by
  have h1 : (ss.mergeSort fun x y => decide (x ≤ y)).Pairwise (fun x y => decide (x ≤ y) = true) := List.pairwise_mergeSort (fun a b c => by simp; omega) (fun a b => by simp; omega) ss
  have h2 : (ss.mergeSort fun x y => decide (x ≤ y)).Perm l := (List.mergeSort_perm ss _).trans hp
  have h3 : l.Nodup := hl.imp fun {a b} h e => by subst e; omega
  have h4 := h2.nodup_iff.2 h3
  refine inc_ext ?_ hl (fun y => h2.mem_iff)
  refine (h1.and h4).imp fun {a b} h => ?_
  have h5 : a ≤ b := of_decide_eq_true h.1
  have h6 : a ≠ b := h.2
  omega
set_option maxHeartbeats 1000000 in
theorem SortedKeys_any (b : Nat) (r : Rw) (w : World) (hr : MRow w b r) (hrl : r.length ≤ 1000000) :
    Calls Tryd.prog 92 #[.func (.func 106) #[] #[.pointer (some ⟨w.heap.size, 0, none⟩)]] (w.alloc (.cells #[.map (some b)] 101)) fun e w' => ∃ v, e = .returned v ∧ w'.ownsRow w.heap.size 3 1 v r.length ((r.map (·.1)).map (Value.int .i64)) ∧ Below w.heap.size w w' := by
  have hal := bel_al (Below.refl w.heap.size w) (.cells #[.map (some b)] 101)
  have hr1 := hr.keep hal
  have hinc := hr.incr
  obtain ⟨m, rfl, hM, _⟩ := hr1
  have hinc' : ((m.map pl).map (·.1)).Pairwise (· < ·) := List.pairwise_map.2 hinc
  have hkeys : intKeys (asD (m.map mv)) = (m.map pl).map (·.1) := by
    rw [keys_asD, List.map_map, List.map_map]
    rfl
  have hsz : Maps.size (asD (m.map mv)) = m.length := by unfold asD; rw [Maps.size_eq, List.length_map, List.length_map]
  rw [List.length_map] at hrl
  have hseq : SeqGives Fence.wide 2 Tryd.prog 106 #[.pointer (some ⟨w.heap.size, 0, none⟩)] encZ (fun ss => ss.Perm (intKeys (asD (m.map mv)))) (Maps.size (asD (m.map mv))) (w.alloc (.cells #[.map (some b)] 101)) :=
    AnyZI.keys_gives (ρ := keysR_ren) { keysR_lays with } Fence.wide _ trivial rfl (by omega) w.heap.size b _ _ _ (by simp) (by simp) hM
  have cS := AnyZI.sorted_in sortedR_lays Fence.wide 5 trivial trivial trivial trivial rfl (by omega) (sorts_in _) (enters_of Tryd.func105 (by kernel_rfl) rfl) 106 #[.pointer (some ⟨w.heap.size, 0, none⟩)] trivial (enters_of Tryd.func106 (by kernel_rfl) rfl) _ _ (by rw [hsz]; unfold maxLen; omega) (by rw [hsz]; omega) _ hseq
  refine ((callsIn_wide (n := 5)).1 cS).mono fun e w' ⟨v, ss, h1, h2, h3, _, h5⟩ => ⟨v, h1, ?_, hal.andThen h5⟩
  rw [hkeys] at h2
  rw [sort_of_perm h2 hinc', h2.length_eq, List.length_map] at h3
  exact own_mono h3 (by simp)
theorem Keys_any (b : Nat) (W : World) : Calls Tryd.prog 93 #[.map (some b)] W fun e w' => e = .returned (.func (.func 106) #[] #[.pointer (some ⟨W.heap.size, 0, none⟩)]) ∧ w' = W.alloc (.cells #[.map (some b)] 101) :=
  (callsIn_wide (n := 5)).1 (AnyZI.keys_in keysR_lays Fence.wide 5 trivial rfl (some b) W)

def keysAt (od : List Rw) (i : Int) : List Int := if 0 ≤ i ∧ i < (od.length : Int) then (od.getD i.toNat []).map (·.1) else []
def linksAt (od : List Rw) (i a : Int) : List Int := if 0 ≤ i ∧ i < (od.length : Int) then lkR (od.getD i.toNat []) a else []
theorem OdM.row {w : World} {p : Nat} {od : List Rw} (h : OdM w p od) {i : Nat} (hi : i < od.length) : ∃ (rb ro n c b : Nat), n = od.length ∧ w.cell? ⟨p, 0, none⟩ = some (.slice (some ⟨rb, ro, none⟩) n c) ∧ n ≤ c ∧ w.cell? ⟨rb, ro + i, none⟩ = some (.map (some b)) ∧ MRow w b (od.getD i []) := by
  obtain ⟨R, n, c, bs, h1, h2, h3, h4, h5, h6, h7⟩ := h
  obtain ⟨rb, ro, rfl, _⟩ := h5.at_ (show 0 < n by omega)
  obtain ⟨b, hb⟩ : ∃ b, bs[i]? = some b := ⟨_, List.getElem?_eq_getElem (by omega)⟩
  have c0 := h1.cell 0
  simp at c0
  refine ⟨rb, ro, n, c, b, h2.symm, c0, h4, h5.again (by omega) (show (bs.map fun b => Value.map (some b))[i]? = some (.map (some b)) by rw [List.getElem?_map, hb]; rfl), ?_⟩
  rw [List.getD_eq_getElem?_getD, List.getElem?_eq_getElem hi]
  exact h7 i b _ hb (List.getElem?_eq_getElem hi)

set_option maxHeartbeats 4000000 in
theorem OdRow_any (p : Nat) (od : List Rw) (i : Int) (w : World) (h : OdM w p od) (hB : OdB 1000000 od) (h8 : od.length ≤ 100) : Calls Tryd.prog 62 #[.pointer (some ⟨p, 0, none⟩), .int .i64 i] w fun e w' => ∃ v, e = .returned v ∧ w'.ownsRow w.heap.size 3 1 v (keysAt od i).length ((keysAt od i).map (Value.int .i64)) ∧ Below w.heap.size w w' := by
  have HLn := Lib.hid (OdLen_any p od w h)
  by_cases hi0 : i < 0
  · have HE := Lib.hid (show keysAt od i = [] from if_neg (by omega))
    rw [HE.out]
    clear h hB
    go_enter Tryd.func62, Tryd.ntmps62
    go_wp2_with fail
    go_ret
    exact ⟨_, rfl, World.ownsRow_nil _ _ _ _, Below.refl _ _⟩
  · by_cases hin : i < (od.length : Int)
    · obtain ⟨k, rfl⟩ : ∃ k : Nat, i = (k : Int) := ⟨i.toNat, by omega⟩
      have hk : k < od.length := by omega
      obtain ⟨rb, ro, n, c, b, hn, c0, hnc, c1, hrow⟩ := h.row hk
      have hE : keysAt od (k : Int) = (od.getD k []).map (·.1) := if_pos (by omega)
      have hrB : (od.getD k []).length ≤ 1000000 := (hB _ (by rw [List.getD_eq_getElem?_getD, List.getElem?_eq_getElem hk]; exact List.getElem_mem hk)).1
      rw [hE]
      have HSo := Lib.hid (SortedKeys_any b (od.getD k []) w hrow hrB)
      obtain ⟨ks, hks⟩ : ∃ ks, ks = (od.getD k []).map (·.1) := ⟨_, rfl⟩
      have hkl : ks.length = (od.getD k []).length := by rw [hks, List.length_map]
      rw [← hks, ← hkl] at HSo
      rw [← hks]
      rw [← hn] at HLn
      have hkn : (k : Int) < (n : Int) := by omega
      have hkn' : ¬ (n : Int) ≤ (k : Int) := by omega
      clear h hB hrow hE hrB hks hkl hn hin hi0 hk
      go_enter Tryd.func62, Tryd.ntmps62
      go_wp2_with (first
        | (go_at_call 52; refine HLn.out.mono ?_; rintro e w' ⟨rfl, rfl⟩)
        | (go_at_call 93; refine (Keys_any b _).mono ?_; rintro e w1 ⟨rfl, rfl⟩)
        | (go_at_call 92; refine HSo.out.mono ?_; rintro e w2 ⟨v, rfl, hown, hb⟩; have HO := Lib.hid hown; have HB := Lib.hid hb; clear hown hb))
      go_ret
      exact ⟨_, rfl, HO.out, HB.out⟩
    · have HE := Lib.hid (show keysAt od i = [] from if_neg (by omega))
      rw [HE.out]
      obtain ⟨n, hn⟩ : ∃ n, n = od.length := ⟨_, rfl⟩
      rw [← hn] at HLn hin
      have hin' : (n : Int) ≤ i := by omega
      clear h hB hn hin
      go_enter Tryd.func62, Tryd.ntmps62
      go_wp2_with (go_at_call 52; refine HLn.out.mono ?_; rintro e w' ⟨rfl, rfl⟩)
      go_ret
      exact ⟨_, rfl, World.ownsRow_nil _ _ _ _, Below.refl _ _⟩
end Go.Proofs.YtmonepclhbappaaDoor
