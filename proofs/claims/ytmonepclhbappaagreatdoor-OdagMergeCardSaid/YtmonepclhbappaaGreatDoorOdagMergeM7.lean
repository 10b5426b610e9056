/-
  Part 7 of the proof of OdagMerge: OdK, OdL, Chain, Chain2, NumS, NumP.
-/
import Derived.Shelf.SlIterI.Sorted
import Derived.Test.YtmonepclhbappaaGreatDoorOdagMergeM6
import Derived.Test.YtmonepclhbappaaGreatDoorOdagMergeM3
import Derived.Test.YtmonepclhbappaaGreatDoorOdagMergeM1
import Derived.Deep.LoopGhost
import Derived.Lib.Mul64
import Derived.Shelf.Bits.Mul64
/-
  Odags: the contracts of Row and Links.
-/
namespace Go.Proofs.YtmonepclhbappaaGreatDoor
open Go.RowKit Go.Maps Go.Sort Go.Shelf
set_option maxRecDepth 100000
set_option linter.unusedVariables false

def keysR_ren : Go.Shelf.Ren := ⟨fun | 7 => 80 | 10 => 112 | n => n, fun | 0 => 0 | 3 => 22 | 4 => 4 | 23 => 114 | 26 => 3 | 27 => 134 | 28 => 135 | 33 => 120 | n => n, fun | n => n⟩
theorem keysR_lays : Go.Proofs.SlLaysZI.n7 Tryz.prog keysR_ren := {
  mixed := by kernel_rfl
  f7 := ⟨Tryz.f80.name, by kernel_rfl, Tryz.func80.trans (congrArg some (by kernel_rfl))⟩
  f10 := ⟨Tryz.f112.name, by kernel_rfl, Tryz.func112.trans (congrArg some (by kernel_rfl))⟩
  t0 := Tryz.underlying0
  a0 := Tryz.isAgg0
  z0 := Tryz.sizeOf0
  v0 := Tryz.zeroValue0
  t4 := Tryz.underlying4
  a4 := Tryz.isAgg4
  z4 := Tryz.sizeOf4
  v4 := Tryz.zeroValue4
  t23 := Tryz.underlying114
  a23 := Tryz.isAgg114
  z23 := Tryz.sizeOf114
  v23 := Tryz.zeroValue114
  t26 := Tryz.underlying3
  a26 := Tryz.isAgg3
  z26 := Tryz.sizeOf3
  v26 := Tryz.zeroValue3
  t27 := Tryz.underlying134
  a27 := Tryz.isAgg134
  z27 := Tryz.sizeOf134
  v27 := Tryz.zeroValue134
  t28 := Tryz.underlying135
  a28 := Tryz.isAgg135
  z28 := Tryz.sizeOf135
  v28 := Tryz.zeroValue135
  t33 := Tryz.underlying120
  a33 := Tryz.isAgg120
  z33 := Tryz.sizeOf120
  v33 := Tryz.zeroValue120 }

def sortedR_ren : Go.Shelf.Ren := ⟨fun | 6 => 79 | 8 => 110 | 9 => 111 | 11 => 126 | n => n, fun | 0 => 0 | 24 => 22 | 26 => 3 | 28 => 135 | 33 => 120 | n => n, fun | n => n⟩
theorem sortedR_lays : Go.Proofs.SlLaysZI.n6 Tryz.prog sortedR_ren := {
  mixed := by kernel_rfl
  f6 := ⟨Tryz.f79.name, by kernel_rfl, Tryz.func79.trans (congrArg some (by kernel_rfl))⟩
  f8 := ⟨Tryz.f110.name, by kernel_rfl, Tryz.func110.trans (congrArg some (by kernel_rfl))⟩
  f11 := ⟨Tryz.f126.name, by kernel_rfl, Tryz.func126.trans (congrArg some (by kernel_rfl))⟩
  t0 := Tryz.underlying0
  a0 := Tryz.isAgg0
  z0 := Tryz.sizeOf0
  v0 := Tryz.zeroValue0
  t24 := Tryz.underlying22
  a24 := Tryz.isAgg22
  z24 := Tryz.sizeOf22
  v24 := Tryz.zeroValue22
  t26 := Tryz.underlying3
  a26 := Tryz.isAgg3
  z26 := Tryz.sizeOf3
  v26 := Tryz.zeroValue3
  t28 := Tryz.underlying135
  a28 := Tryz.isAgg135
  z28 := Tryz.sizeOf135
  v28 := Tryz.zeroValue135
  i26 := by kernel_rfl }

theorem sorts_in (m : Nat) : AnyZI.SortsIn Tryz.prog sortedR_ren Fence.wide m :=
  ⟨fun blk off cap ss W hH hblk hsz => callsIn_wide.2 (Any.slices_Sort_int sort_lays blk off cap ss W hH hblk hsz),
   fun p cap W => callsIn_wide.2 ((Any.slices_Sort_int_none sort_lays p cap W).mono fun e w' h => ⟨h.1, h.2⟩)⟩
theorem keys_asD (es : List (Int × Value)) : intKeys (asD es) = es.map (·.1) := by
  show (es.map enK).map (fun p => Go.intOf p.1) = _
  rw [List.map_map]
  rfl
theorem sort_of_perm {ss l : List Int} (hp : ss.Perm l) (hl : l.Pairwise (· < ·)) : (ss.mergeSort fun x y => decide (x ≤ y)) = l := by
  have h1 : (ss.mergeSort fun x y => decide (x ≤ y)).Pairwise (fun x y => decide (x ≤ y) = true) := List.pairwise_mergeSort (fun a b c => by simp; omega) (fun a b => by simp; omega) ss
  have h2 : (ss.mergeSort fun x y => decide (x ≤ y)).Perm l := (List.mergeSort_perm ss _).trans hp
  have h3 : l.Nodup := hl.imp fun {a b} h e => by subst e; omega
  have h4 := h2.nodup_iff.2 h3
  refine inc_ext ?_ hl (fun y => h2.mem_iff)
  refine (h1.and h4).imp fun {a b} h => ?_
  have h5 : a ≤ b := of_decide_eq_true h.1
  have h6 : a ≠ b := h.2
  omega
set_option maxHeartbeats 1000000 in
theorem SortedKeys_any (b : Nat) (r : Rw) (w : World) (hr : MRow w b r) (hrl : r.length ≤ 1000000) :
    Calls Tryz.prog 79 #[.func (.func 112) #[] #[.pointer (some ⟨w.heap.size, 0, none⟩)]] (w.alloc (.cells #[.map (some b)] 114)) fun e w' => ∃ v, e = .returned v ∧ w'.ownsRow w.heap.size 3 1 v r.length ((r.map (·.1)).map (Value.int .i64)) ∧ Below w.heap.size w w' := by
  have hal := bel_al (Below.refl w.heap.size w) (.cells #[.map (some b)] 114)
  have hr1 := hr.keep hal
  have hinc := hr.incr
  obtain ⟨m, rfl, hM, _⟩ := hr1
  have hinc' : ((m.map pl).map (·.1)).Pairwise (· < ·) := List.pairwise_map.2 hinc
  have hkeys : intKeys (asD (m.map mv)) = (m.map pl).map (·.1) := by
    rw [keys_asD, List.map_map, List.map_map]
    rfl
  have hsz : Maps.size (asD (m.map mv)) = m.length := by unfold asD; rw [Maps.size_eq, List.length_map, List.length_map]
  rw [List.length_map] at hrl
  have hseq : SeqGives Fence.wide 2 Tryz.prog 112 #[.pointer (some ⟨w.heap.size, 0, none⟩)] encZ (fun ss => ss.Perm (intKeys (asD (m.map mv)))) (Maps.size (asD (m.map mv))) (w.alloc (.cells #[.map (some b)] 114)) :=
    AnyZI.keys_gives (ρ := keysR_ren) { keysR_lays with } Fence.wide _ trivial rfl (by omega) w.heap.size b _ _ _ (by simp) (by simp) hM
  have cS := AnyZI.sorted_in sortedR_lays Fence.wide 5 trivial trivial trivial trivial rfl (by omega) (sorts_in _) (enters_of Tryz.func111 (by kernel_rfl) rfl) 112 #[.pointer (some ⟨w.heap.size, 0, none⟩)] trivial (enters_of Tryz.func112 (by kernel_rfl) rfl) _ _ (by rw [hsz]; unfold maxLen; omega) (by rw [hsz]; omega) _ hseq
  refine ((callsIn_wide (n := 5)).1 cS).mono fun e w' ⟨v, ss, h1, h2, h3, _, h5⟩ => ⟨v, h1, ?_, hal.andThen h5⟩
  rw [hkeys] at h2
  rw [sort_of_perm h2 hinc', h2.length_eq, List.length_map] at h3
  exact own_mono h3 (by simp)
theorem Keys_any (b : Nat) (W : World) : Calls Tryz.prog 80 #[.map (some b)] W fun e w' => e = .returned (.func (.func 112) #[] #[.pointer (some ⟨W.heap.size, 0, none⟩)]) ∧ w' = W.alloc (.cells #[.map (some b)] 114) :=
  (callsIn_wide (n := 5)).1 (AnyZI.keys_in keysR_lays Fence.wide 5 trivial rfl (some b) W)

def keysAt (od : List Rw) (i : Int) : List Int := if 0 ≤ i ∧ i < (od.length : Int) then (od.getD i.toNat []).map (·.1) else []
def linksAt (od : List Rw) (i a : Int) : List Int := if 0 ≤ i ∧ i < (od.length : Int) then lkR (od.getD i.toNat []) a else []
theorem OdM.row {w : World} {p : Nat} {od : List Rw} (h : OdM w p od) {i : Nat} (hi : i < od.length) : ∃ (rb ro n c b : Nat), n = od.length ∧ w.cell? ⟨p, 0, none⟩ = some (.slice (some ⟨rb, ro, none⟩) n c) ∧ n ≤ c ∧ w.cell? ⟨rb, ro + i, none⟩ = some (.map (some b)) ∧ MRow w b (od.getD i []) := by
  obtain ⟨R, n, c, bs, h1, h2, h3, h4, h5, h6, h7⟩ := h
  obtain ⟨rb, ro, rfl, _⟩ := h5.at_ (show 0 < n by omega)
  obtain ⟨b, hb⟩ : ∃ b, bs[i]? = some b := ⟨_, List.getElem?_eq_getElem (by omega)⟩
  have c0 := h1.cell 0
  simp at c0
  refine ⟨rb, ro, n, c, b, h2.symm, c0, h4, h5.again (by omega) (show (bs.map fun b => Value.map (some b))[i]? = some (.map (some b)) by rw [List.getElem?_map, hb]; rfl), ?_⟩
  rw [List.getD_eq_getElem?_getD, List.getElem?_eq_getElem hi]
  exact h7 i b _ hb (List.getElem?_eq_getElem hi)

set_option maxHeartbeats 4000000 in
theorem OdRow_any (p : Nat) (od : List Rw) (i : Int) (w : World) (h : OdM w p od) (hB : OdB 1000000 od) (h8 : od.length ≤ 100) : Calls Tryz.prog 34 #[.pointer (some ⟨p, 0, none⟩), .int .i64 i] w fun e w' => ∃ v, e = .returned v ∧ w'.ownsRow w.heap.size 3 1 v (keysAt od i).length ((keysAt od i).map (Value.int .i64)) ∧ Below w.heap.size w w' := by
  have HLn := Lib.hid (OdLen_any p od w h)
  by_cases hi0 : i < 0
  · have HE := Lib.hid (show keysAt od i = [] from if_neg (by omega))
    rw [HE.out]
    clear h hB
    go_enter Tryz.func34, Tryz.ntmps34
    go_wp2_with fail
    go_ret
    exact ⟨_, rfl, World.ownsRow_nil _ _ _ _, Below.refl _ _⟩
  · by_cases hin : i < (od.length : Int)
    · obtain ⟨k, rfl⟩ : ∃ k : Nat, i = (k : Int) := ⟨i.toNat, by omega⟩
      have hk : k < od.length := by omega
      obtain ⟨rb, ro, n, c, b, hn, c0, hnc, c1, hrow⟩ := h.row hk
      have hE : keysAt od (k : Int) = (od.getD k []).map (·.1) := if_pos (by omega)
      have hrB : (od.getD k []).length ≤ 1000000 := (hB _ (by rw [List.getD_eq_getElem?_getD, List.getElem?_eq_getElem hk]; exact List.getElem_mem hk)).1
      rw [hE]
      have HSo := Lib.hid (SortedKeys_any b (od.getD k []) w hrow hrB)
      obtain ⟨ks, hks⟩ : ∃ ks, ks = (od.getD k []).map (·.1) := ⟨_, rfl⟩
      have hkl : ks.length = (od.getD k []).length := by rw [hks, List.length_map]
      rw [← hks, ← hkl] at HSo
      rw [← hks]
      rw [← hn] at HLn
      have hkn : (k : Int) < (n : Int) := by omega
      have hkn' : ¬ (n : Int) ≤ (k : Int) := by omega
      clear h hB hrow hE hrB hks hkl hn hin hi0 hk
      go_enter Tryz.func34, Tryz.ntmps34
      go_wp2_with (first
        | (go_at_call 32; refine HLn.out.mono ?_; rintro e w' ⟨rfl, rfl⟩)
        | (go_at_call 80; refine (Keys_any b _).mono ?_; rintro e w1 ⟨rfl, rfl⟩)
        | (go_at_call 79; refine HSo.out.mono ?_; rintro e w2 ⟨v, rfl, hown, hb⟩; have HO := Lib.hid hown; have HB := Lib.hid hb; clear hown hb))
      go_ret
      exact ⟨_, rfl, HO.out, HB.out⟩
    · have HE := Lib.hid (show keysAt od i = [] from if_neg (by omega))
      rw [HE.out]
      obtain ⟨n, hn⟩ : ∃ n, n = od.length := ⟨_, rfl⟩
      rw [← hn] at HLn hin
      have hin' : (n : Int) ≤ i := by omega
      clear h hB hn hin
      go_enter Tryz.func34, Tryz.ntmps34
      go_wp2_with (go_at_call 32; refine HLn.out.mono ?_; rintro e w' ⟨rfl, rfl⟩)
      go_ret
      exact ⟨_, rfl, World.ownsRow_nil _ _ _ _, Below.refl _ _⟩
end Go.Proofs.YtmonepclhbappaaGreatDoor
/-
  Odags: the contract of Links; no odag at all.
-/
namespace Go.Proofs.YtmonepclhbappaaGreatDoor
open Go.RowKit Go.Maps
set_option maxRecDepth 100000
set_option linter.unusedVariables false

set_option maxHeartbeats 4000000 in
theorem OdLinks_any (p : Nat) (od : List Rw) (i a : Int) (w : World) (h : OdM w p od) (hB : OdB 1000000 od) (h8 : od.length ≤ 100) (ha : -9223372036854775808 ≤ a ∧ a ≤ 9223372036854775807) : Calls Tryz.prog 35 #[.pointer (some ⟨p, 0, none⟩), .int .i64 i, .int .i64 a] w fun e w' => ∃ v, e = .returned v ∧ w'.ownsRow w.heap.size 3 1 v (linksAt od i a).length ((linksAt od i a).map (Value.int .i64)) ∧ Below w.heap.size w w' := by
  have HLn := Lib.hid (OdLen_any p od w h)
  by_cases hi0 : i < 0
  · have HE := Lib.hid (show linksAt od i a = [] from if_neg (by omega))
    rw [HE.out]
    clear h hB
    go_enter Tryz.func35, Tryz.ntmps35
    go_wp2_with fail
    go_ret
    exact ⟨_, rfl, World.ownsRow_nil _ _ _ _, Below.refl _ _⟩
  · by_cases hin : i < (od.length : Int)
    · obtain ⟨k, rfl⟩ : ∃ k : Nat, i = (k : Int) := ⟨i.toNat, by omega⟩
      have hk : k < od.length := by omega
      obtain ⟨rb, ro, n, c, b, hn, c0, hnc, c1, hrow⟩ := h.row hk
      have hE : linksAt od (k : Int) a = lkR (od.getD k []) a := if_pos (by omega)
      have hrB := hB _ (show od.getD k [] ∈ od by rw [List.getD_eq_getElem?_getD, List.getElem?_eq_getElem hk]; exact List.getElem_mem hk)
      rw [hE]
      have HLB := Lib.hid (lkR_B hrB a)
      have HRow := Lib.hid hrow
      have HA := Lib.hid ha
      rw [← hn] at HLn
      have hkn : (k : Int) < (n : Int) := by omega
      have hkn' : ¬ (n : Int) ≤ (k : Int) := by omega
      clear h hB hrow hE hrB hn hin hi0 hk ha
      go_enter Tryz.func35, Tryz.ntmps35
      go_wp2_with (first
        | (go_at_call 32; refine HLn.out.mono ?_; rintro e w' ⟨rfl, rfl⟩)
        | (go_at_call 81; refine HCl.out.mono ?_; rintro e w2 ⟨v, rfl, hown, hb⟩; have HO := Lib.hid hown; have HB := Lib.hid hb; clear hown hb)
        | (refine wpList_lookR _ rfl _ _ rfl b _ (by go_simp) HRow.out a (by go_simp) HA.out.1 HA.out.2 ?_; intro A c' l hrl hl; have HCl := Lib.hid (CloneI_own l A l.length c' _ rfl (by rw [hl]; exact Nat.le_trans HLB.out (by decide)) hrl.1); have HL := Lib.hid hl; clear hrl hl))
      go_ret
      rw [← HL.out]
      exact ⟨_, rfl, HO.out, HB.out⟩
    · have HE := Lib.hid (show linksAt od i a = [] from if_neg (by omega))
      rw [HE.out]
      obtain ⟨n, hn⟩ : ∃ n, n = od.length := ⟨_, rfl⟩
      rw [← hn] at HLn hin
      have hin' : (n : Int) ≤ i := by omega
      clear h hB hn hin
      go_enter Tryz.func35, Tryz.ntmps35
      go_wp2_with (go_at_call 32; refine HLn.out.mono ?_; rintro e w' ⟨rfl, rfl⟩)
      go_ret
      exact ⟨_, rfl, World.ownsRow_nil _ _ _ _, Below.refl _ _⟩
end Go.Proofs.YtmonepclhbappaaGreatDoor
/-
  Chains of errors: errors.As at *api.Fault, errors.Is at a fault, errors.Unwrap, and the fault package's functions over whole chains.
-/
namespace Go.Proofs.YtmonepclhbappaaGreatDoor
open Go.RowKit Go.Extern.Stop Go.Stop Go.Extern

def Err.depth : Err → Nat
  | .step _ e => e.depth + 1
  | _ => 0
def Err.flt? : Err → Option (Int × Int × ByteArray)
  | .flt c a s => some (c, a, s)
  | .step _ e => e.flt?
  | _ => none
theorem Err.code_of : ∀ (E : Err), E ≠ .nil → (∀ w v, E.At w v → E.code = match E.flt? with | some (c, _, _) => c | none => -1)
  | .nil, h, _, _, _ => absurd rfl h
  | .flt _ _ _, _, _, _, _ => rfl
  | .txt _, _, _, _, _ => rfl
  | .step _ e, _, w, _, ⟨_, v', _, _, h3, h4⟩ => Err.code_of e h4 w v' h3
theorem Err.at_of : ∀ (E : Err), E.at_ = match E.flt? with | some (_, a, _) => a | none => 0
  | .nil => rfl
  | .flt _ _ _ => rfl
  | .txt _ => rfl
  | .step _ e => Err.at_of e

theorem fs_typeOf (v : Value) (w : World) : (ReflectliteType.typeOf #[.iface 155 v]).run Tryz.prog w = .ok (.iface 204 (.agg #[.pointer (some ⟨5, 155, none⟩)])) w := by kernel_rfl
theorem fs_assignable (w : World) : (ReflectliteType.relation "AssignableTo" ReflectliteType.assignableTo #[.agg #[.pointer (some ⟨5, 155, none⟩)], .iface 204 (.agg #[.pointer (some ⟨5, 104, none⟩)])]).run Tryz.prog w = .ok (.bool false) w := by kernel_rfl
theorem fs_noAs (v : Value) (xT : TypeId) (w : World) : (Instr.typeAssert (.iface 155 v) xT 209 true).run Tryz.prog w = .ok (.tuple #[.nilIface, .bool false]) w := run_typeAssert_lacksB Tryz.underlying209 (by kernel_rfl) (by kernel_rfl) v xT w
theorem fs_hasUnwrap (v : Value) (xT : TypeId) (w : World) : (Instr.typeAssert (.iface 155 v) xT 212 true).run Tryz.prog w = .ok (.tuple #[.iface 155 v, .bool true]) w := run_typeAssert_hasB Tryz.underlying212 (by kernel_rfl) v xT w
theorem fs_methodUnwrap (v : Value) (w : World) : (Go.method 370 155 v "Unwrap").run Tryz.prog w = .ok (193, v) w := by kernel_rfl

theorem stepUnwrap (g : Nat) (v' : Value) (w : World) (hc : w.cell? ⟨g, 1, none⟩ = some v') :
    Calls Tryz.prog 193 #[.pointer (some ⟨g, 0, none⟩)] w fun e w' => e = .returned v' ∧ w = w' := by
  go_enter Tryz.func193, Tryz.ntmps193
  go_wp2
  go_ret
  exact ⟨rfl, rfl⟩

/-- What errors.as leaves: the target is set to the chain's first fault; or the chain has none. -/
def AsPost (E : Err) (w0 w1 : World) (t : Addr) (ev : Ending) (w' : World) : Prop :=
  (∃ c a s g, E.flt? = some (c, a, s) ∧ ev = .returned (.bool true) ∧ Blk w0 g 107 #[.int .i64 c, .int .i64 a, .string s] ∧ (w1.alloc (.cells #[.pointer (some ⟨g, 0, none⟩)] 104)).setCell t (.pointer (some ⟨g, 0, none⟩)) = w') ∨
  (E.flt? = none ∧ ev = .returned (.bool false) ∧ w1 = w')

theorem Err.At.iface_ {w : World} {E : Err} {v : Value} (h : E.At w v) (hne : E ≠ .nil) : ∃ T x, v = .iface T x := by
  cases E with
  | nil => exact absurd rfl hne
  | flt c a s => obtain ⟨g, rfl, _⟩ := h; exact ⟨_, _, rfl⟩
  | step w e => obtain ⟨g, _, rfl, _⟩ := h; exact ⟨_, _, rfl⟩
  | txt s => exact h.elim

set_option maxHeartbeats 2000000 in
theorem as_any (E : Err) (v : Value) (w0 w : World) (hE : E.At w0 v) (hw : Below w0.heap.size w0 w) (hne : E ≠ .nil) (t b : Addr) (old : Value) (hb0 : w.cell? b = some (.pointer (some t))) (ht0 : w.cell? t = some old) (hf0 : w.frozen? t = false) :
    Calls Tryz.prog 121 #[v, .iface 162 (.pointer (some t)), .agg #[.pointer (some ⟨5, 162, none⟩), .pointer (some b), .int .u64 150], .iface 204 (.agg #[.pointer (some ⟨5, 104, none⟩)])] w
      (AsPost E w0 (w.alloc (.cells #[.pointer (some ⟨5, 162, none⟩), .pointer (some b), .int .u64 150] 182)) t) := by
  have h83 := @run_callFunc_extern Tryz.prog 118 _ (fun args => ReflectliteValue.unpack (args.getD 0 (.tuple #[]))) Tryz.func118 (by kernel_rfl) (by kernel_rfl) (by kernel_rfl) (by kernel_rfl)
  have h87 := @run_callFunc_extern Tryz.prog 136 _ ReflectliteType.typeOf Tryz.func136 (by kernel_rfl) (by kernel_rfl) (by kernel_rfl) (by kernel_rfl)
  have h125 := @run_callFunc_extern Tryz.prog 198 _ (ReflectliteType.relation "AssignableTo" ReflectliteType.assignableTo) Tryz.func198 (by kernel_rfl) (by kernel_rfl) (by kernel_rfl) (by kernel_rfl)
  have h95 := @run_callFunc_extern Tryz.prog 137 _ (ReflectliteValue.method (ReflectliteValue.valueError "reflectlite.Value.Elem" 0) ReflectliteValue.elem) Tryz.func137 (by kernel_rfl) (by kernel_rfl) (by kernel_rfl) (by kernel_rfl)
  have h96 := @run_callFunc_extern Tryz.prog 138 _ ReflectliteValue.set Tryz.func138 (by kernel_rfl) (by kernel_rfl) (by kernel_rfl) (by kernel_rfl)
  have tO := fx_typeOf
  have mA := fx_methodAssignableTo
  have aP := fx_assignable
  have vP := fx_valueOfP
  have tS := fs_typeOf
  have aS := fs_assignable
  have nS := fs_noAs
  have uS := fs_hasUnwrap
  have mS := fs_methodUnwrap
  have htl := World.block_lt_of_cell? w t ht0
  have hbl := World.block_lt_of_cell? w b hb0
  have el := fx_elemV b t (w.alloc (.cells #[.pointer (some ⟨5, 162, none⟩), .pointer (some b), .int .u64 150] 182)) (by rw [World.cell?_alloc_lt _ _ b hbl]; exact hb0)
  have st := fun e => fx_set t ⟨w.heap.size + 1, 0, none⟩ e old ((w.alloc (.cells #[.pointer (some ⟨5, 162, none⟩), .pointer (some b), .int .u64 150] 182)).alloc (.cells #[.pointer (some e)] 104))
    (by rw [World.cell?_alloc_at _ _ _ _ (by simp)]; rfl)
    (by rw [World.cell?_alloc_lt _ _ t (by simp; omega), World.cell?_alloc_lt _ _ t htl]; exact ht0)
    (by rw [World.frozen?_alloc_old _ _ t (by simp; omega), World.frozen?_alloc_old _ _ t (Nat.ne_of_lt htl)]; exact hf0)
  have HB := Lib.hid (bel_al hw (.cells #[.pointer (some ⟨5, 162, none⟩), .pointer (some b), .int .u64 150] 182))
  clear hb0 ht0 hf0 hw
  go_enter Tryz.func121, Tryz.ntmps121
  go_wp2
  go_loopg [0] E.depth (fun k e wr => ∃ E' : Err, E'.At w0 e ∧ E'.depth = k ∧ Hid (E'.flt? = E.flt?) ∧ E' ≠ .nil ∧ wr = w.alloc (.cells #[.pointer (some ⟨5, 162, none⟩), .pointer (some b), .int .u64 150] 182))
  case atStart => exact ⟨E, hE, rfl, rfl, hne, rfl⟩
  case round =>
    obtain ⟨E', hE', hk, HE, hne', rfl⟩ := hrel
    clear hE hne
    cases E' with
    | nil => exact absurd rfl hne'
    | flt c a s =>
      obtain ⟨g, rfl, hblk⟩ := hE'
      have st' := st ⟨g, 0, none⟩
      have HK := Lib.hid hblk
      clear hblk st
      go_wp2
      go_ret
      exact .inl ⟨c, a, s, g, HE.out.symm, rfl, HK.out, rfl⟩
    | txt s => exact hE'.elim
    | step word e =>
      obtain ⟨g, v', rfl, hblk, hv', hnn⟩ := hE'
      have hc1 := (hblk.keep HB.out).cell 1
      simp at hc1
      have HV := Lib.hid hv'
      have HU := Lib.hid (stepUnwrap g v' _ hc1)
      obtain ⟨T, x, rfl⟩ := Err.At.iface_ hv' hnn
      have HK := Lib.hid hk
      have HN := Lib.hid hnn
      clear hblk st hv' hk hc1 hnn hne'
      go_wp2_with (go_at_call 193; refine HU.out.mono ?_; rintro ev w' ⟨rfl, rfl⟩)
      go_roundg e.depth
      case measure => have := HK.out; simp only [Err.depth] at this; omega
      case rel => exact ⟨e, HV.out, rfl, HE.out, HN.out, rfl⟩
end Go.Proofs.YtmonepclhbappaaGreatDoor
/-
  The fault package over whole chains: errors.As, fault.fault, fault.Code, fault.At.
-/
namespace Go.Proofs.YtmonepclhbappaaGreatDoor
open Go.RowKit Go.Extern.Stop Go.Stop Go.Extern

set_option maxHeartbeats 2000000 in
theorem As_any (E : Err) (v : Value) (w0 w : World) (hE : E.At w0 v) (hw : Below w0.heap.size w0 w) (hne : E ≠ .nil) (t : Addr) (old : Value) (hg : w.cell? ⟨0, 0, none⟩ = some (.iface 204 (.agg #[.pointer (some ⟨5, 42, none⟩)]))) (ht0 : w.cell? t = some old) (hf0 : w.frozen? t = false) :
    Calls Tryz.prog 98 #[v, .iface 162 (.pointer (some t))] w fun ev w' => ∃ W W1, AsPost E w0 W1 t ev w' ∧ W = ((w.alloc (.cells #[.pointer (some t)] 162)).alloc (.cells #[.pointer (some ⟨5, 162, none⟩), .pointer (some ⟨w.heap.size, 0, none⟩), .int .u64 150] 182)) ∧ W1 = W.alloc (.cells #[.pointer (some ⟨5, 162, none⟩), .pointer (some ⟨w.heap.size, 0, none⟩), .int .u64 150] 182) := by
  have h83 := @run_callFunc_extern Tryz.prog 118 _ (fun args => ReflectliteValue.unpack (args.getD 0 (.tuple #[]))) Tryz.func118 (by kernel_rfl) (by kernel_rfl) (by kernel_rfl) (by kernel_rfl)
  have h84 := @run_callFunc_extern Tryz.prog 119 _ (ReflectliteValue.methodAny (ReflectliteValue.valueError "reflectlite.Value.Type" 0) (fun t _ _ _ => ReflectliteType.toType t)) Tryz.func119 (by kernel_rfl) (by kernel_rfl) (by kernel_rfl) (by kernel_rfl)
  have h85 := @run_callFunc_extern Tryz.prog 120 _ (ReflectliteValue.method (ReflectliteValue.valueError "reflectlite.Value.IsNil" 0) ReflectliteValue.isNil) Tryz.func120 (by kernel_rfl) (by kernel_rfl) (by kernel_rfl) (by kernel_rfl)
  have h112 := @run_callFunc_extern Tryz.prog 186 _ (ReflectliteType.abiMethod fun t => do pure (.int .u8 (← Rtype.kind t))) Tryz.func186 (by kernel_rfl) (by kernel_rfl) (by kernel_rfl) (by kernel_rfl)
  have h127 := @run_callFunc_extern Tryz.prog 200 _ (ReflectliteType.method ReflectliteType.elem) Tryz.func200 (by kernel_rfl) (by kernel_rfl) (by kernel_rfl) (by kernel_rfl)
  have h128 := @run_callFunc_extern Tryz.prog 201 _ (ReflectliteType.relation "Implements" ReflectliteType.implements_) Tryz.func201 (by kernel_rfl) (by kernel_rfl) (by kernel_rfl) (by kernel_rfl)
  have f83 := fx_valueOf
  have f84 := fx_type
  have mK := fx_methodKind
  have mE := fx_methodElem
  have mI := fx_methodImplements
  have kPP := fx_kindPP
  have kP := fx_kindP
  have eP := fx_elem
  have iP := fx_implements
  have hlt : 0 < w.heap.size := World.block_lt_of_cell? w _ hg
  have htl := World.block_lt_of_cell? w t ht0
  have n8 := fx_isNil ⟨w.heap.size, 0, none⟩ t ((w.alloc (.cells #[.pointer (some t)] 162)).alloc (.cells #[.pointer (some ⟨5, 162, none⟩), .pointer (some ⟨w.heap.size, 0, none⟩), .int .u64 150] 182)) (by simp)
  have hg2 : ((w.alloc (.cells #[.pointer (some t)] 162)).alloc (.cells #[.pointer (some ⟨5, 162, none⟩), .pointer (some ⟨w.heap.size, 0, none⟩), .int .u64 150] 182)).cell? ⟨0, 0, none⟩ = some (.iface 204 (.agg #[.pointer (some ⟨5, 42, none⟩)])) := by
    rw [World.cell?_alloc_lt _ _ ⟨0, 0, none⟩ (by simp <;> omega), World.cell?_alloc_lt _ _ ⟨0, 0, none⟩ hlt]; exact hg
  have hin := as_any E v w0 ((w.alloc (.cells #[.pointer (some t)] 162)).alloc (.cells #[.pointer (some ⟨5, 162, none⟩), .pointer (some ⟨w.heap.size, 0, none⟩), .int .u64 150] 182)) hE (bel_al (bel_al hw _) _) hne t ⟨w.heap.size, 0, none⟩ old
    (by rw [World.cell?_alloc_lt _ _ ⟨w.heap.size, 0, none⟩ (by simp)]; simp)
    (by rw [World.cell?_alloc_lt _ _ t (by simp; omega), World.cell?_alloc_lt _ _ t htl]; exact ht0)
    (by rw [World.frozen?_alloc_old _ _ t (by simp; omega), World.frozen?_alloc_old _ _ t (Nat.ne_of_lt htl)]; exact hf0)
  have HIN := Lib.hid hin
  obtain ⟨T, x, rfl⟩ := Err.At.iface_ hE hne
  clear hin hE hne ht0 hf0 hw
  go_enter Tryz.func98, Tryz.ntmps98
  go_wp2_with (go_at_call 121; refine HIN.out.mono ?_)
  intro ev w' hp
  have HP := Lib.hid hp
  rcases hp with ⟨c, a, s, g, h1, rfl, h2, rfl⟩ | ⟨h1, rfl, rfl⟩
  · clear h1 h2
    go_wp2
    go_ret
    exact ⟨_, _, HP.out, rfl, rfl⟩
  · clear h1
    go_wp2
    go_ret
    exact ⟨_, _, HP.out, rfl, rfl⟩

/-- What errors.As leaves, its target the one cell t. -/
def AsDone (E : Err) (w0 w : World) (t : Addr) (old : Value) (ev : Ending) (w' : World) : Prop :=
  Below t.block w w' ∧
  ((∃ c a s g, E.flt? = some (c, a, s) ∧ ev = .returned (.bool true) ∧ Blk w0 g 107 #[.int .i64 c, .int .i64 a, .string s] ∧ w'.cell? t = some (.pointer (some ⟨g, 0, none⟩))) ∨
   (E.flt? = none ∧ ev = .returned (.bool false) ∧ w'.cell? t = some old))

theorem As_done (E : Err) (v : Value) (w0 w : World) (hE : E.At w0 v) (hw : Below w0.heap.size w0 w) (t : Addr) (old : Value) (hg : ErrT w) (ht0 : w.cell? t = some old) (hf0 : w.frozen? t = false) :
    Calls Tryz.prog 98 #[v, .iface 162 (.pointer (some t))] w (AsDone E w0 w t old) := by
  have htl := World.block_lt_of_cell? w t ht0
  by_cases hne : E = .nil
  · subst hne
    obtain rfl : v = .nilIface := hE
    refine (as_nil _ _).mono ?_
    rintro ev w' ⟨rfl, rfl⟩
    exact ⟨Below.refl _ _, .inr ⟨rfl, rfl, ht0⟩⟩
  · refine (As_any E v w0 w hE hw hne t old hg ht0 hf0).mono ?_
    rintro ev w' ⟨W, W1, hp, hW, hW1⟩
    have hb : Below w.heap.size w W1 := by rw [hW1, hW]; exact bel_al (bel_al (bel_al (Below.refl _ _) _) _) _
    have hc : W1.cell? t = some old := (hb.cell htl).trans ht0
    rcases hp with ⟨c, a, s, g, h1, rfl, h2, rfl⟩ | ⟨h1, rfl, rfl⟩
    · refine ⟨((bel_al hb _).mono (Nat.le_of_lt htl)).setCell (Nat.le_refl _) _, .inl ⟨c, a, s, g, h1, rfl, h2, ?_⟩⟩
      exact World.cell?_setCell_same _ _ _ (((bel_al hb _).cell htl).trans ht0)
    · exact ⟨hb.mono (Nat.le_of_lt htl), .inr ⟨h1, rfl, hc⟩⟩

/-- fault.fault: a pointer to the chain's first fault, or none. -/
def FaultPost (E : Err) (w : World) (ev : Ending) (w' : World) : Prop :=
  Below w.heap.size w w' ∧
  ((∃ c a s g, E.flt? = some (c, a, s) ∧ ev = .returned (.pointer (some ⟨g, 0, none⟩)) ∧ Blk w' g 107 #[.int .i64 c, .int .i64 a, .string s]) ∨ (E.flt? = none ∧ ev = .returned (.pointer none)))

theorem fault_any (E : Err) (v : Value) (w : World) (hE : E.At w v) (hg : ErrT w) : Calls Tryz.prog 60 #[v] w (FaultPost E w) := by
  have hb0 := bel_al (Below.refl w.heap.size w) (.cells #[.pointer none] 104)
  have HA := Lib.hid (As_done E v w _ hE hb0 ⟨w.heap.size, 0, none⟩ (.pointer none) (hg.keep hb0) (by simp) (by simp))
  have HE := Lib.hid hE
  clear hE hb0
  go_enter Tryz.func60, Tryz.ntmps60
  go_wp2_with (go_at_call 98; refine HA.out.mono ?_)
  rintro ev w' ⟨hb, hp⟩
  have hb' : Below w.heap.size w w' := (bel_al (Below.refl _ _) _).trans hb
  rcases hp with ⟨c, a, s, g, h1, rfl, h2, h3⟩ | ⟨h1, rfl, h3⟩
  · have H1 := Lib.hid h1
    have H2 := Lib.hid h2
    clear h1 h2
    go_wp2
    go_ret
    exact ⟨hb', .inl ⟨c, a, s, g, H1.out, rfl, H2.out.keep hb'⟩⟩
  · have H1 := Lib.hid h1
    clear h1
    go_wp2
    go_ret
    exact ⟨hb', .inr ⟨H1.out, rfl⟩⟩

theorem Code_any (E : Err) (v : Value) (w : World) (hE : E.At w v) (hg : ErrT w) :
    Calls Tryz.prog 21 #[v] w fun e w' => e = .returned (.int .i64 E.code) ∧ Below w.heap.size w w' := by
  by_cases hne : E = .nil
  · subst hne
    obtain rfl : v = .nilIface := hE
    refine (Code_nil w).mono ?_
    rintro e w' ⟨rfl, rfl⟩
    exact ⟨rfl, Below.refl _ _⟩
  · have hcode := Err.code_of E hne w v hE
    have HC := Lib.hid hcode
    have HA := Lib.hid (fault_any E v w hE hg)
    obtain ⟨T, x, rfl⟩ := Err.At.iface_ hE hne
    clear hE hcode hne
    go_enter Tryz.func21, Tryz.ntmps21
    go_wp2_with (go_at_call 60; refine HA.out.mono ?_)
    rintro ev w' ⟨hb, hp⟩
    rcases hp with ⟨c, a, s, g, h1, rfl, h2⟩ | ⟨h1, rfl⟩
    · have H1 := Lib.hid h1
      have hc0 := h2.cell 0
      simp at hc0
      clear h1 h2
      go_wp2
      go_ret
      exact ⟨by rw [HC.out, H1.out]; rfl, hb⟩
    · have H1 := Lib.hid h1
      clear h1
      go_wp2
      go_ret
      exact ⟨by rw [HC.out, H1.out]; rfl, hb⟩

end Go.Proofs.YtmonepclhbappaaGreatDoor
/-
  Contracts: nums.Add, size, signed, over, Mul, small, Pow; bits.Mul64.
-/
namespace Go.Proofs.YtmonepclhbappaaGreatDoor
open Go.RowKit Go.Lib
set_option maxRecDepth 100000
set_option linter.unusedVariables false

/-- Does it lie from -2^63 to 2^63 - 1? -/
def fitB (z : Int) : Bool := decide (-9223372036854775808 ≤ z ∧ z ≤ 9223372036854775807)
/-- What is told of a number: itself, or nothing. -/
def tn (z : Int) : Int := if fitB z then z else 0
def te (t : ByteArray) (z : Int) : Err := if fitB z then .nil else .flt 7 0 t
theorem fitB_true {z : Int} (h : -9223372036854775808 ≤ z ∧ z ≤ 9223372036854775807) : fitB z = true := decide_eq_true h
theorem fitB_false {z : Int} (h : ¬ (-9223372036854775808 ≤ z ∧ z ≤ 9223372036854775807)) : fitB z = false := decide_eq_false h
theorem fitB_iff {z : Int} : fitB z = true ↔ -9223372036854775808 ≤ z ∧ z ≤ 9223372036854775807 := by unfold fitB; simp
theorem tn_fit {z : Int} (h : fitB z = true) : tn z = z := by rw [tn, h]; rfl
theorem tn_not {z : Int} (h : fitB z = false) : tn z = 0 := by rw [tn, h]; rfl
theorem te_fit {t : ByteArray} {z : Int} (h : fitB z = true) : te t z = .nil := by rw [te, h]; rfl
theorem te_not {t : ByteArray} {z : Int} (h : fitB z = false) : te t z = .flt 7 0 t := by rw [te, h]; rfl
theorem tn_in (z : Int) : -9223372036854775808 ≤ tn z ∧ tn z ≤ 9223372036854775807 := by
  unfold tn
  split
  · rename_i h; exact fitB_iff.1 h
  · omega
theorem te_code (t : ByteArray) (z : Int) : (te t z).code = if fitB z then 0 else 7 := by
  unfold te; split <;> rfl
def txtSum : ByteArray := ⟨#[115, 117, 109]⟩
def txtProduct : ByteArray := ⟨#[112, 114, 111, 100, 117, 99, 116]⟩
def txtPower : ByteArray := ⟨#[112, 111, 119, 101, 114]⟩
def txtChoice : ByteArray := ⟨#[99, 104, 111, 105, 99, 101]⟩

theorem Over_any (t : ByteArray) (w : World) :
    Calls Tryz.prog 106 #[.string t] w fun e w' => ∃ ev, e = .returned (.tuple #[.int .i64 0, ev]) ∧ (Err.flt 7 0 t).At w' ev ∧ Below w.heap.size w w' := by
  go_enter Tryz.func106, Tryz.ntmps106
  go_wp2_with fail
  refine (New_err 7 0 t w).mono ?_
  rintro e w1 ⟨v, rfl, hv, hb1⟩
  have HV := Lib.hid hv
  clear hv
  go_wp2_with fail
  go_ret2
  exact ⟨v, rfl, HV.out, hb1⟩

/-- Of a size and a sign: the number, and whether it fits. -/
def SgP (z : Int) (w : World) (e : Ending) (w' : World) : Prop := ∃ p : Int, e = .returned (.tuple #[.int .i64 p, .bool (fitB z)]) ∧ (fitB z = true → p = z) ∧ w' = w
theorem prod_abs (a b : Int) : (if (decide (a < 0) != decide (b < 0)) = true then -((a.natAbs * b.natAbs : Nat) : Int) else ((a.natAbs * b.natAbs : Nat) : Int)) = a * b := by
  rw [← Int.natAbs_mul]
  by_cases h1 : a < 0 <;> by_cases h2 : b < 0
  · have := Int.mul_pos_of_neg_of_neg h1 h2
    simp [h1, h2]; omega
  · have := Int.mul_nonpos_of_nonpos_of_nonneg (a := a) (b := b) (by omega) (by omega)
    simp [h1, h2]; omega
  · have := Int.mul_nonpos_of_nonneg_of_nonpos (a := a) (b := b) (by omega) (by omega)
    simp [h1, h2]; omega
  · have := Int.mul_nonneg (a := a) (b := b) (by omega) (by omega)
    simp [h1, h2]; omega

end Go.Proofs.YtmonepclhbappaaGreatDoor
/-
  Plainly: choices (Pascal's row), powers that are too great, sums of lists.
-/
namespace Go.Proofs.YtmonepclhbappaaGreatDoor
set_option linter.unusedVariables false

/-- How many sets of k of n. -/
def ch : Nat → Nat → Nat
  | _, 0 => 1
  | 0, _ + 1 => 0
  | n + 1, k + 1 => ch n k + ch n (k + 1)
theorem ch_zero (n : Nat) : ch n 0 = 1 := by cases n <;> rfl
theorem ch_succ (n k : Nat) : ch (n + 1) (k + 1) = ch n k + ch n (k + 1) := rfl
theorem ch_out : ∀ {n k : Nat}, n < k → ch n k = 0
  | 0, k + 1, _ => rfl
  | n + 1, k + 1, h => by rw [ch_succ, ch_out (show n < k by omega), ch_out (show n < k + 1 by omega)]
theorem ch_self (n : Nat) : ch n n = 1 := by
  induction n with
  | zero => rfl
  | succ n ih => rw [ch_succ, ih, ch_out (Nat.lt_succ_self n)]
theorem ch_pos : ∀ {n k : Nat}, k ≤ n → 1 ≤ ch n k
  | n, 0, _ => by rw [ch_zero]; omega
  | n + 1, k + 1, h => by rw [ch_succ]; have := ch_pos (show k ≤ n by omega); omega
theorem ch_step : ∀ (n k : Nat), (k + 1) * ch (n + 1) (k + 1) = (n + 1) * ch n k
  | 0, 0 => rfl
  | 0, k + 1 => by
    rw [ch_succ, show ch 0 (k + 1) = 0 from rfl, show ch 0 (k + 1 + 1) = 0 from rfl]; simp
  | n + 1, 0 => by
    have := ch_step n 0
    rw [ch_zero] at this ⊢
    rw [ch_succ (n + 1) 0, ch_zero]
    omega
  | n + 1, k + 1 => by
    have h1 := ch_step n (k + 1)
    have h2 := ch_step n k
    have e1 : (k + 1 + 1) * ch (n + 1 + 1) (k + 1 + 1) = (k + 1) * ch (n + 1) (k + 1) + ch (n + 1) (k + 1) + (k + 1 + 1) * ch (n + 1) (k + 1 + 1) := by
      rw [ch_succ (n + 1) (k + 1), Nat.mul_add, Nat.add_mul (k + 1) 1]; omega
    have e2 : (n + 1 + 1) * ch (n + 1) (k + 1) = (n + 1) * ch (n + 1) (k + 1) + ch (n + 1) (k + 1) := by rw [Nat.add_mul (n + 1) 1]; omega
    have e3 : (n + 1) * ch (n + 1) (k + 1) = (n + 1) * ch n k + (n + 1) * ch n (k + 1) := by rw [ch_succ n k, Nat.mul_add]
    rw [e1, h1, h2, e2, e3]; omega
theorem ch_symm : ∀ (a b : Nat), ch (a + b) a = ch (a + b) b
  | 0, b => by rw [Nat.zero_add, ch_zero, ch_self]
  | a + 1, 0 => by rw [Nat.add_zero, ch_zero, ch_self]
  | a + 1, b + 1 => by
    have h1 := ch_symm a (b + 1)
    have h2 := ch_symm (a + 1) b
    rw [show a + 1 + (b + 1) = (a + b + 1) + 1 by omega, ch_succ (a + b + 1) a, ch_succ (a + b + 1) b]
    rw [show a + (b + 1) = a + b + 1 by omega] at h1
    rw [show a + 1 + b = a + b + 1 by omega] at h2
    omega
theorem ch_symm' {n k : Nat} (h : k ≤ n) : ch n (n - k) = ch n k := by
  have := ch_symm (n - k) k
  rwa [Nat.sub_add_cancel h] at this
theorem ch_min {n k : Nat} (h : k ≤ n) : ch n (min k (n - k)) = ch n k := by
  rcases Nat.le_total k (n - k) with h1 | h1
  · rw [Nat.min_eq_left h1]
  · rw [Nat.min_eq_right h1, ch_symm' h]
theorem ch_mono (m : Nat) {i k : Nat} (h : i ≤ k) : ch (m + i) i ≤ ch (m + k) k := by
  induction k with
  | zero => obtain rfl : i = 0 := by omega
            exact Nat.le_refl _
  | succ k ih =>
    rcases Nat.eq_or_lt_of_le h with rfl | h1
    · exact Nat.le_refl _
    · refine Nat.le_trans (ih (by omega)) ?_
      rw [← Nat.add_assoc, ch_succ]; omega
theorem ch_ge (m : Nat) : ∀ {i : Nat}, i ≤ m → 2 ^ i ≤ ch (m + i) i
  | 0, _ => by rw [ch_zero]; exact Nat.le_refl _
  | i + 1, h => by
    have h1 := ch_ge m (i := i) (by omega)
    have h2 := ch_step (m + i) i
    rw [show m + (i + 1) = m + i + 1 by omega]
    have h3 : 2 * (i + 1) * ch (m + i) i ≤ (m + i + 1) * ch (m + i) i := Nat.mul_le_mul_right _ (by omega)
    rw [← h2, Nat.mul_comm 2 (i + 1), Nat.mul_assoc] at h3
    have h4 := Nat.le_of_mul_le_mul_left h3 (by omega)
    rw [Nat.pow_succ]; omega
/-- From one choice to the next: no rest. -/
theorem ch_next (m i : Nat) : ch (m + i) i * (m + (i + 1)) / (i + 1) = ch (m + (i + 1)) (i + 1) := by
  have h := ch_step (m + i) i
  rw [show m + (i + 1) = m + i + 1 by omega, Nat.mul_comm, ← h, Nat.mul_div_cancel_left _ (by omega)]
/-- A row's first choices, added up. -/
def rowS (n : Nat) : Nat → Nat
  | 0 => 0
  | k + 1 => rowS n k + ch n k
theorem rowS_succ (n : Nat) : ∀ k, rowS (n + 1) (k + 1) = rowS n (k + 1) + rowS n k
  | 0 => by simp [rowS, ch_zero]
  | k + 1 => by
    have h := rowS_succ n k
    have e1 : rowS (n + 1) (k + 1 + 1) = rowS (n + 1) (k + 1) + ch (n + 1) (k + 1) := rfl
    have e2 : rowS n (k + 1 + 1) = rowS n (k + 1) + ch n (k + 1) := rfl
    have e3 : rowS n (k + 1) = rowS n k + ch n k := rfl
    rw [e1, e2, h, ch_succ]; omega
theorem rowS_all : ∀ n, rowS n (n + 1) = 2 ^ n
  | 0 => rfl
  | n + 1 => by
    have h := rowS_all n
    rw [rowS_succ, show rowS n (n + 1 + 1) = rowS n (n + 1) + ch n (n + 1) from rfl, ch_out (Nat.lt_succ_self n), h, Nat.pow_succ]; omega
theorem rowS_le (n : Nat) {a b : Nat} (h : a ≤ b) : rowS n a ≤ rowS n b := by
  induction b with
  | zero => obtain rfl : a = 0 := by omega
            exact Nat.le_refl _
  | succ b ih =>
    rcases Nat.eq_or_lt_of_le h with rfl | h1
    · exact Nat.le_refl _
    · exact Nat.le_trans (ih (by omega)) (Nat.le_add_right _ _)
theorem ch_le (n : Nat) (k : Nat) : ch n k ≤ 2 ^ n := by
  by_cases h : k ≤ n
  · rw [← rowS_all]
    exact Nat.le_trans (Nat.le_add_left _ (rowS n k)) (rowS_le n (show k + 1 ≤ n + 1 by omega))
  · rw [ch_out (by omega)]; exact Nat.zero_le _

/-- A number and its powers. -/
theorem pow_abs (a : Int) (n : Nat) : (a ^ n).natAbs = a.natAbs ^ n := Int.natAbs_pow a n
theorem two_pow_le {a : Int} (h : 2 ≤ a.natAbs) (n : Nat) : 2 ^ n ≤ (a ^ n).natAbs := by
  rw [pow_abs]; exact Nat.pow_le_pow_left h n

/-- The sum of a list. -/
def sumZ : List Int → Int
  | [] => 0
  | x :: l => x + sumZ l
theorem sumZ_append : ∀ (a b : List Int), sumZ (a ++ b) = sumZ a + sumZ b
  | [], b => by simp [sumZ]
  | x :: a, b => by rw [List.cons_append, sumZ, sumZ, sumZ_append a b]; omega
theorem sumZ_take_succ {l : List Int} {k : Nat} (h : k < l.length) : sumZ (l.take (k + 1)) = sumZ (l.take k) + l[k] := by
  rw [List.take_succ_eq_append_getElem h, sumZ_append]; simp [sumZ]
theorem sumZ_reverse (l : List Int) : sumZ l.reverse = sumZ l := by
  induction l with
  | nil => rfl
  | cons x l ih => rw [List.reverse_cons, sumZ_append, ih]; simp [sumZ]; omega
theorem sumZ_split (l : List Int) (k : Nat) : sumZ (l.take k) + sumZ (l.drop k) = sumZ l := by
  rw [← sumZ_append, List.take_append_drop]
/-- The least of some, at most 2^63 - 1. -/
def minZ : List Int → Int := fun l => l.foldl min 9223372036854775807
theorem minZ_take_succ {l : List Int} {k : Nat} (h : k < l.length) : minZ (l.take (k + 1)) = min (minZ (l.take k)) l[k] := by
  unfold minZ
  rw [List.take_succ_eq_append_getElem h, List.foldl_append]; rfl
theorem foldl_min_le (l : List Int) : ∀ (a : Int), l.foldl min a ≤ a ∧ ∀ x ∈ l, l.foldl min a ≤ x := by
  induction l with
  | nil => intro a; exact ⟨Int.le_refl _, fun x h => by cases h⟩
  | cons y l ih =>
    intro a
    have := ih (min a y)
    refine ⟨?_, fun x hx => ?_⟩
    · rw [List.foldl_cons]; have := this.1; omega
    · rw [List.foldl_cons]
      rcases List.mem_cons.1 hx with rfl | hx
      · have := this.1; omega
      · exact this.2 x hx
theorem foldl_min_mem (l : List Int) : ∀ (a : Int), l.foldl min a = a ∨ l.foldl min a ∈ l := by
  induction l with
  | nil => intro a; exact .inl rfl
  | cons y l ih =>
    intro a
    rw [List.foldl_cons]
    rcases ih (min a y) with h | h
    · rcases Int.le_total a y with h2 | h2
      · left; rw [h]; omega
      · right; rw [h, Int.min_eq_right h2]; simp
    · right; exact List.mem_cons_of_mem _ h
theorem minZ_le {l : List Int} {x : Int} (h : x ∈ l) : minZ l ≤ x := (foldl_min_le l _).2 x h
theorem minZ_mem {l : List Int} (h : l ≠ []) (hr : ∀ x ∈ l, x ≤ 9223372036854775807) : minZ l ∈ l := by
  rcases foldl_min_mem l 9223372036854775807 with h1 | h1
  · cases l with
    | nil => exact absurd rfl h
    | cons y l =>
      have h2 := (foldl_min_le (y :: l) 9223372036854775807).2 y (by simp)
      have h3 := hr y (by simp)
      rw [h1] at h2
      have : minZ (y :: l) = y := by unfold minZ; rw [h1]; omega
      rw [this]; simp
  · exact h1
end Go.Proofs.YtmonepclhbappaaGreatDoor
