/-
  Part 6 of the proof of OdagMerge: OdA, OdP, OdB, Made, RankM.
-/
import Derived.Test.YtmonepclhbappaaGreatDoorOdagMergeM3
import Derived.Test.YtmonepclhbappaaGreatDoorOdagMergeM1
import Derived.Test.YtmonepclhbappaaGreatDoorOdagMergeM5
import Derived.Test.YtmonepclhbappaaGreatDoorOdagMergeM4
import Derived.Deep.RegionHeld3
import Derived.BigQuiet
import Derived.DeepKeys4
import Derived.Test.YtmonepclhbappaaGreatDoorOdagMergeM2
/-
  Odags: contracts of Len, fresh, put.
-/
namespace Go.Proofs.YtmonepclhbappaaGreatDoor
open Go.RowKit Go.Maps
set_option maxRecDepth 100000
set_option linter.unusedVariables false

theorem OdLen_any (p : Nat) (od : List Rw) (w : World) (h : OdM w p od) : Calls Tryz.prog 32 #[.pointer (some ⟨p, 0, none⟩)] w fun e w' => e = .returned (.int .i64 (od.length : Nat)) ∧ w = w' := by
  obtain ⟨R, n, c, bs, hb, hn, _⟩ := h
  have c0 := hb.cell 0
  simp at c0
  have HN := Lib.hid hn
  clear hn hb
  go_enter Tryz.func32, Tryz.ntmps32
  go_wp2_with fail
  go_ret
  exact ⟨ret_int (by rw [HN.out]), rfl⟩
theorem OdLen_nil (w : World) : Calls Tryz.prog 32 #[.pointer none] w fun e w' => e = .returned (.int .i64 0) ∧ w = w' := by
  go_enter Tryz.func32, Tryz.ntmps32
  go_wp2_with fail
  go_ret
  exact ⟨rfl, rfl⟩

theorem gb_then {w w1 w2 : World} {row : Option Nat} (h : Below w.heap.size w w1) (hg : w1.grownBy w2 row) : w.grownBy w2 row :=
  ⟨hg.os.trans h.os, hg.tape.trans h.tape, hg.output.trans h.output, Nat.le_trans h.size hg.size, fun k hk hne => (hg.block k (Nat.lt_of_lt_of_le hk h.size) hne).trans (h.block k hk)⟩

set_option maxHeartbeats 2000000 in
theorem put_any (b : Nat) (r : Rw) (a : Int) (B : Option Addr) (m d : Nat) (L : List Int) (w : World) (hr : MRow w b r) (hrl : r.length ≤ 1000000) (hll : ∀ x ∈ r, x.2.length ≤ 100000) (ha : -9223372036854775808 ≤ a ∧ a ≤ 9223372036854775807) (hL : RowOK w (B, d, L)) (hm : L.length = m) (hm2 : m ≤ 100000) :
    Calls Tryz.prog 67 #[.map (some b), .int .i64 a, .slice B m d] w fun e w' => e = .returned (.tuple #[]) ∧ MRow w' b (putR r a (setL (lkR r a ++ L))) ∧ w.grownBy w' (some b) := by
  have HR := Lib.hid hr
  have HL := Lib.hid hL
  have HM := Lib.hid hm
  have HA := Lib.hid ha
  have HRl := Lib.hid hrl
  have HLk := Lib.hid (show (lkR r a).length ≤ 100000 from by
    unfold lkR
    cases hf : r.find? fun p => decide (p.1 = a) with
    | none => simp
    | some p => exact hll p (List.mem_of_find?_eq_some hf))
  clear hr hL hm ha hrl hll
  go_enter Tryz.func67, Tryz.ntmps67
  go_wp2_with (first
    | (at_lookup; refine wpList_lookR _ rfl _ _ rfl b r rfl HR.out a rfl HA.out.1 HA.out.2 ?_; intro A c l hrow hl; have HRow := Lib.hid hrow; have HEl := Lib.hid hl; clear hrow hl)
    | (go_at_call 103; refine (Union_any l L A B l.length c m d _ rfl (by rw [HEl.out]; exact HLk.out) HRow.out.2 HRow.out.1 HM.out hm2 (by have := HL.out.2; rw [← HM.out]; exact this) (by have := HL.out.1; rw [HM.out] at this; exact this)).mono ?_; rintro e w2 ⟨v, rfl, hown, hb⟩; have HU := Lib.hid hown; have HB := Lib.hid hb; have hsh := Sl.own hown; obtain ⟨C, k, rfl, _⟩ := hsh; have HRk := Lib.hid (HR.out.keep hb); have HC := Lib.hid (show RowOK w2 (C, k, setL (l ++ L)) from ⟨Sl.of_own hown, own_cap hown⟩); clear hown hb)
    | (at_mapUpdate; refine wpList_putR _ rfl _ _ _ rfl b r rfl HRk.out HRl.out a rfl HA.out.1 HA.out.2 C k _ (setL (l ++ L)) rfl rfl HC.out ?_; intro w3 hM hg3; have HM3 := Lib.hid hM; have HG3 := Lib.hid hg3; clear hM hg3))
  go_end0
  exact ⟨rfl, by rw [← HEl.out]; exact HM3.out, gb_then HB.out HG3.out⟩

theorem elemRow : Elem Tryz.prog 115 114 (.map none) 1 8 := ⟨Tryz.underlying115, by kernel_rfl, rfl, by decide⟩
theorem MRow.emptyKept {w w' : World} {b : Nat} {row : Option Nat} (h : MRow w b []) (hg : w.grownBy w' row) (hne : some b ≠ row) : MRow w' b [] := by
  obtain ⟨m, h1, h2, h3⟩ := h
  obtain rfl : m = [] := List.map_eq_nil_iff.1 h1
  exact ⟨[], rfl, MapI.kept h2 hg hne, fun e he => by cases he⟩
theorem own_notNC {w : World} {b B size n : Nat} {e : TypeId} {v : Value} {xs : List Value} (h : w.ownsRow B e size v n xs) (hm : NC w b) : some b ≠ v.ownBlock := fun e1 => by
  obtain ⟨_, h2⟩ := h
  obtain ⟨o, h3, h4⟩ := hm
  rcases h2 with ⟨rfl, _⟩ | ⟨g', cap, cur, rfl, _, h5, _⟩
  · cases e1
  · cases e1
    rw [h3] at h5
    cases h5
    cases h4
def mps (bs : List Nat) : List Value := bs.map fun b => .map (some b)
theorem gb_set {w : World} {p : Addr} (u : Value) : w.grownBy (w.setCell p u) (some p.block) := ⟨rfl, rfl, rfl, by simp, fun k _ hk => Below.heap_setCell w p u k (fun e => hk (by rw [e]))⟩

/-- What a new odag's making holds so far. -/
def Frs (w wr : World) (v : Value) (k : Nat) : Prop :=
  ∃ bs : List Nat, bs.length = k ∧ wr.ownsRow w.heap.size 114 1 v k (mps bs) ∧ bs.Nodup ∧ (∀ b ∈ bs, w.heap.size < b ∧ MRow wr b []) ∧ Blk wr w.heap.size 117 #[v] ∧ Below w.heap.size w wr

set_option maxHeartbeats 4000000 in
theorem fresh_any (n : Nat) (w : World) (h1 : 1 ≤ n) (h8 : n ≤ 8) : Calls Tryz.prog 64 #[.int .i64 (n : Int)] w fun e w' => ∃ p, e = .returned (.tuple #[.pointer (some ⟨p, 0, none⟩), .nilIface]) ∧ OdN w.heap.size w' p (List.replicate n []) ∧ Below w.heap.size w w' := by
  have hmm := @run_makeMap Tryz.prog
  have hn1 : ¬ (n : Int) < 1 := by omega
  have hn8 : ¬ 8 < (n : Int) := by omega
  go_enter Tryz.func64, Tryz.ntmps64
  go_wp2_with fail
  go_loopw [15] (fun i wr => ∃ (k : Nat) (v : Value), k ≤ n ∧ i = .int .i64 k ∧ Hid (Frs w wr v k)) (fun i _ => n - (intOf i).toNat)
  case atStart => exact ⟨0, .slice none 0 0, Nat.zero_le _, rfl, Lib.hid ⟨[], rfl, by simpa [mps] using World.ownsRow_nil _ _ _ _, List.nodup_nil, (fun b hb => by cases hb), Blk.new _ _ _, bel_al (Below.refl _ _) _⟩⟩
  case round =>
    obtain ⟨k, v, hk, rfl, HF⟩ := hrel
    obtain ⟨bs, hbl, hown, hnd, hbs, hblk, hbel⟩ := HF.out
    have c0 := hblk.cell 0
    have f0 := hblk.frozen 0
    simp at c0
    have HO := Lib.hid hown
    have HBl := Lib.hid hblk
    have HBs := Lib.hid hbs
    have HNd := Lib.hid hnd
    have HLn := Lib.hid hbl
    have HB := Lib.hid hbel
    clear hown hblk hbs hnd hbl hbel HF
    by_cases hlt : k < n
    · have hlt' : (k : Int) < (n : Int) := by omega
      go_wp2_with (at_builtin; refine wpList_push_g elemRow _ _ rfl rfl (HO.out.alloc (.map #[] 0)) (bel_al HB.out _) (Nat.le_refl _) rfl (congrArg (fun z => Value.slice (some ⟨z, 0, none⟩) 1 1) (World.size_alloc wr (.map #[] 0)).symm) rfl (by simp [Value.oneCell']) (by unfold lim; omega) (by unfold lim; omega) ?_; intro v' w1 hown1 hb1 hg1; have hsh := Sl.own hown1; obtain ⟨R', c', rfl, _⟩ := hsh; have HO1 := Lib.hid hown1; have HB1 := Lib.hid hb1; have HG1 := Lib.hid hg1; have hk1 := (HBl.out.alloc (.map #[] 0)).others (HO.out.alloc (.map #[] 0)) hg1 (by decide); have HK1 := Lib.hid hk1; have k10 := hk1.cell 0; have f10 := hk1.frozen 0; simp at k10; clear hown1 hb1 hg1 hk1)
      go_roundw
      case rel =>
        have hne : ∀ g, (Value.slice R' (k + 1) c').ownBlock = some g → g ≠ w.heap.size := fun g hg e => own_notBlk HO1.out HK1.out (by decide) (by rw [hg, e])
        refine ⟨k + 1, .slice R' (k + 1) c', by omega, by go_num, Lib.hid ⟨bs ++ [wr.heap.size], by simp [HLn.out], ?_, ?_, fun b hb => ?_, HK1.out.set_ 0 (.slice R' (k + 1) c'), HB1.out.setCell (p := ⟨w.heap.size, 0, none⟩) (Nat.le_refl _) _⟩⟩
        · have h := own_block HO1.out (w' := w1.setCell ⟨w.heap.size, 0, none⟩ (.slice R' (k + 1) c')) fun g hg => Below.heap_setCell _ _ _ _ (hne g hg)
          unfold mps at h ⊢
          rw [List.map_append]
          exact h
        · rw [List.nodup_append]
          refine ⟨HNd.out, by simp, fun b hb g hg e => ?_⟩
          obtain rfl := List.mem_singleton.1 hg
          have := (HBs.out b hb).2.lt
          omega
        · rcases List.mem_append.1 hb with hb | hb
          · have h1 := HBs.out b hb
            refine ⟨h1.1, ((h1.2.emptyKept (gb_alloc _ _ none) (by simp)).emptyKept HG1.out (own_notNC HO.out h1.2.isMap)).emptyKept (gb_set _) (fun e => ?_)⟩
            have e' : b = w.heap.size := Option.some.inj e
            omega
          · obtain rfl := List.mem_singleton.1 hb
            have hlt2 := HBl.out.lt
            refine ⟨hlt2, ((MRow.made wr).emptyKept HG1.out (own_notNC (HO.out.alloc (.map #[] 0)) (MRow.made wr).isMap)).emptyKept (gb_set _) (fun e => ?_)⟩
            have e' : wr.heap.size = w.heap.size := Option.some.inj e
            omega
      case measure => simp [intOf]; omega
    · obtain rfl : k = n := by omega
      have hlt' : ¬ (k : Int) < (k : Int) := by omega
      go_wp2_with fail
      go_ret2
      obtain ⟨R, c, rfl, hs⟩ := Sl.own HO.out
      refine ⟨_, rfl, ⟨R, k, c, bs, ⟨HBl.out, by simp, HLn.out, (own_cap HO.out).1, hs, HNd.out, fun i b r hb hr => ?_⟩, fun b hb => Nat.le_of_lt (HBs.out b hb).1⟩, HB.out⟩
      have hr' : r = [] := by
        have := List.mem_of_getElem? hr
        exact (List.mem_replicate.1 this).2
      subst hr'
      exact (HBs.out b (List.mem_of_getElem? hb)).2
end Go.Proofs.YtmonepclhbappaaGreatDoor
/-
  Odags plainly: a list laid in, lists laid in; what a row then holds.
-/
namespace Go.Proofs.YtmonepclhbappaaGreatDoor
open Go.RowKit
set_option linter.unusedVariables false

def stepR (r : Rw) (a : Int) (nx : List Int) : Rw := putR r a (setL (lkR r a ++ nx))
def nxt (x : List Int) (i : Nat) : List Int := (x.drop (i + 1)).take 1
/-- A list laid in, up to place j. -/
def putTo (od : List Rw) (x : List Int) : Nat → List Rw
  | 0 => od
  | j + 1 => (putTo od x j).set j (stepR ((putTo od x j).getD j []) (x.getD j 0) (nxt x j))
def putO (od : List Rw) (x : List Int) : List Rw := putTo od x x.length
/-- The odag of lists of length n. -/
def odOf (n : Nat) (ls : List (List Int)) : List Rw := ls.foldl putO (List.replicate n [])
theorem odOf_snoc (n : Nat) (ls : List (List Int)) (x : List Int) : odOf n (ls ++ [x]) = putO (odOf n ls) x := by unfold odOf; rw [List.foldl_append]; rfl
theorem putTo_len (od : List Rw) (x : List Int) : ∀ j, (putTo od x j).length = od.length
  | 0 => rfl
  | j + 1 => by rw [putTo, List.length_set, putTo_len od x j]
theorem putO_len (od : List Rw) (x : List Int) : (putO od x).length = od.length := putTo_len od x _
theorem fold_len (ls : List (List Int)) : ∀ od : List Rw, (ls.foldl putO od).length = od.length := by
  induction ls with
  | nil => intro od; rfl
  | cons x ls ih => intro od; rw [List.foldl_cons, ih, putO_len]
theorem odOf_len (n : Nat) (ls : List (List Int)) : (odOf n ls).length = n := by unfold odOf; rw [fold_len, List.length_replicate]
theorem putTo_at (od : List Rw) (x : List Int) (i : Nat) : ∀ j, (putTo od x j)[i]? = od[i]?.map fun r => if i < j then stepR r (x.getD i 0) (nxt x i) else r
  | 0 => by simp [putTo]
  | j + 1 => by
    have ih := putTo_at od x i j
    rw [putTo, List.getElem?_set]
    by_cases hji : j = i
    · subst hji
      rw [if_pos rfl]
      have hg : (putTo od x j).getD j [] = od.getD j [] := by
        rw [List.getD_eq_getElem?_getD, List.getD_eq_getElem?_getD, ih]
        cases od[j]? with
        | none => rfl
        | some r => simp
      rw [hg, putTo_len]
      by_cases hlt : j < od.length
      · rw [if_pos hlt, List.getElem?_eq_getElem hlt, List.getD_eq_getElem?_getD, List.getElem?_eq_getElem hlt]
        simp
      · rw [if_neg hlt, List.getElem?_eq_none (by omega)]
        rfl
    · rw [if_neg hji, ih]
      cases od[i]? with
      | none => rfl
      | some r =>
        simp only [Option.map_some]
        by_cases h : i < j
        · rw [if_pos h, if_pos (by omega)]
        · rw [if_neg h, if_neg (by omega)]

/-- No row is longer than K, no links are more than K. -/
def RwB (K : Nat) (r : Rw) : Prop := r.length ≤ K ∧ ∀ q ∈ r, q.2.length ≤ K
def OdB (K : Nat) (od : List Rw) : Prop := ∀ r ∈ od, RwB K r
theorem nxt_len (x : List Int) (i : Nat) : (nxt x i).length ≤ 1 := by unfold nxt; rw [List.length_take]; omega
theorem lkR_B {K : Nat} {r : Rw} (h : RwB K r) (a : Int) : (lkR r a).length ≤ K := by
  unfold lkR
  cases hf : r.find? fun p => decide (p.1 = a) with
  | none => simp
  | some p => exact h.2 p (List.mem_of_find?_eq_some hf)
theorem RwB.mono {K K' : Nat} {r : Rw} (h : RwB K r) (hk : K ≤ K') : RwB K' r := ⟨Nat.le_trans h.1 hk, fun q hq => Nat.le_trans (h.2 q hq) hk⟩
theorem stepR_B {K : Nat} {r : Rw} (h : RwB K r) (a : Int) (nx : List Int) (hn : nx.length ≤ 1) : RwB (K + 1) (stepR r a nx) := by
  refine ⟨Nat.le_trans (putR_len _ _ _) (by have := h.1; omega), fun q hq => ?_⟩
  unfold stepR putR at hq
  rcases List.mem_append.1 hq with hq | hq
  · have := h.2 q (List.mem_filter.1 hq).1
    omega
  · rcases List.mem_cons.1 hq with rfl | hq
    · have h1 := setL_le (lkR r a ++ nx)
      rw [List.length_append] at h1
      have h2 := lkR_B h a
      show (setL (lkR r a ++ nx)).length ≤ K + 1
      omega
    · have := h.2 q (List.mem_filter.1 hq).1
      omega
theorem putTo_B {K : Nat} {od : List Rw} (h : OdB K od) (x : List Int) (j : Nat) : OdB (K + 1) (putTo od x j) := fun r hr => by
  obtain ⟨i, hi, rfl⟩ := List.mem_iff_getElem.1 hr
  have h1 := putTo_at od x i j
  rw [List.getElem?_eq_getElem hi] at h1
  obtain ⟨r0, h2, h3⟩ := Option.map_eq_some_iff.1 h1.symm
  have h4 := h r0 (List.mem_of_getElem? h2)
  rw [← h3]
  split
  · exact stepR_B h4 _ _ (nxt_len _ _)
  · exact h4.mono (by omega)
theorem odOf_B (n : Nat) (ls : List (List Int)) : OdB ls.length (odOf n ls) := by
  have key : ∀ (ls : List (List Int)) (od : List Rw) (K : Nat), OdB K od → OdB (K + ls.length) (ls.foldl putO od) := by
    intro ls
    induction ls with
    | nil => intro od K h; exact h
    | cons x ls ih =>
      intro od K h
      rw [List.foldl_cons, List.length_cons, show K + (ls.length + 1) = K + 1 + ls.length by omega]
      exact ih _ _ (putTo_B h x _)
  have := key ls (List.replicate n []) 0 (fun r hr => by
    rw [(List.mem_replicate.1 hr).2]
    exact ⟨Nat.zero_le _, fun q hq => by cases hq⟩)
  rw [Nat.zero_add] at this
  exact this
end Go.Proofs.YtmonepclhbappaaGreatDoor
/-
  Odags: contracts of slices.ContainsFunc as Of calls it, and of Of.
-/
namespace Go.Proofs.YtmonepclhbappaaGreatDoor
open Go.RowKit Go.Maps
set_option maxRecDepth 100000
set_option linter.unusedVariables false

/-- Numbers that may stand in an odag. -/
def numOK (x : Int) : Prop := 0 ≤ x ∧ x ≤ 2147483647
theorem Of1_ok (x : Int) (w : World) (h : numOK x) : Calls Tryz.prog 69 #[.int .i64 x] w fun e w' => e = .returned (.bool false) ∧ w = w' := by
  have h1 : ¬ x < 0 := by have := h.1; omega
  have h2 : ¬ 2147483647 < x := by have := h.2; omega
  clear h
  go_enter Tryz.func69, Tryz.ntmps69
  go_wp2_with fail
  go_ret
  exact ⟨rfl, rfl⟩
set_option maxHeartbeats 2000000 in
theorem IndexF_ok (l : List Int) (A : Option Addr) (n c : Nat) (w : World) (hl : l.length = n) (hn : n ≤ 1000000) (hs : Sl w 1 A n (l.map (Value.int .i64))) (hx : ∀ x ∈ l, numOK x) :
    Calls Tryz.prog 104 #[.slice A n c, .func (.func 69) #[] #[]] w fun e w' => e = .returned (.int .i64 (-1)) ∧ w = w' := by
  have HS := Lib.hid hs
  have HL := Lib.hid hl
  have HX := Lib.hid hx
  clear hs hl hx
  go_enter Tryz.func104, Tryz.ntmps104
  go_wp2_with fail
  go_loop [8] (fun i => ∃ k : Nat, k ≤ n ∧ i = .int .i64 k) (fun i => n - (intOf i).toNat)
  case atStart => exact ⟨0, Nat.zero_le _, rfl⟩
  case round =>
    obtain ⟨k, hk, rfl⟩ := hrel
    by_cases hlt : k < n
    · have hlt' : (k : Int) < (n : Int) := by omega
      obtain ⟨x, hx⟩ : ∃ x, l[k]? = some x := ⟨_, List.getElem?_eq_getElem (by rw [HL.out]; exact hlt)⟩
      obtain ⟨b1, off1, rfl, _⟩ := HS.out.at_ (show 0 < n by omega)
      have c1 := HS.out.again hlt (show (l.map (Value.int .i64))[k]? = some (.int .i64 x) by rw [List.getElem?_map, hx]; rfl)
      have HXx := Lib.hid (HX.out x (List.mem_of_getElem? hx))
      clear hx
      go_wp2_with (go_at_call 69; refine (Of1_ok x _ HXx.out).mono ?_; rintro e w' ⟨rfl, rfl⟩)
      go_round
      case rel => exact ⟨k + 1, by omega, by go_num⟩
      case measure => simp [intOf]; omega
    · obtain rfl : k = n := by omega
      have hlt' : ¬ (k : Int) < (k : Int) := by omega
      go_wp2_with fail
      go_ret
      exact ⟨rfl, rfl⟩
theorem ContainsF_ok (l : List Int) (A : Option Addr) (n c : Nat) (w : World) (hl : l.length = n) (hn : n ≤ 1000000) (hs : Sl w 1 A n (l.map (Value.int .i64))) (hx : ∀ x ∈ l, numOK x) :
    Calls Tryz.prog 68 #[.slice A n c, .func (.func 69) #[] #[]] w fun e w' => e = .returned (.bool false) ∧ w = w' := by
  have HC := Lib.hid (IndexF_ok l A n c w hl hn hs hx)
  clear hl hs hx
  go_enter Tryz.func68, Tryz.ntmps68
  go_wp2_with (go_at_call 104; refine HC.out.mono ?_; rintro e w' ⟨rfl, rfl⟩)
  go_ret
  exact ⟨rfl, rfl⟩

/-- One number of a list laid in: the odag behind it. -/
theorem OdC.put {w w' : World} {p : Nat} {od : List Rw} {R : Option Addr} {n c : Nat} {bs : List Nat} {i b : Nat} {r : Rw} (h : OdC w p od R n c bs) (hi : bs[i]? = some b) (hm : NC w b) (hg : w.grownBy w' (some b)) (hr : MRow w' b r) : OdC w' p (od.set i r) R n c bs := by
  obtain ⟨h1, h2, h3, h4, h5, h6, h7⟩ := h
  refine ⟨h1.turned hm hg, by rw [List.length_set]; exact h2, h3, h4, h5.turned hm hg, h6, fun j b' r' hb' hr' => ?_⟩
  by_cases hji : i = j
  · subst hji
    rw [hi] at hb'
    obtain rfl := Option.some.inj hb'
    have hlt : i < od.length := by rw [h2, ← h3]; exact (List.getElem?_eq_some_iff.1 hi).1
    rw [List.getElem?_set_self hlt] at hr'
    obtain rfl := Option.some.inj hr'
    exact hr
  · rw [List.getElem?_set_ne hji] at hr'
    refine (h7 j b' r' hb' hr').other hm hg (fun e => hji ?_)
    subst e
    exact (List.getElem?_inj (by rw [h3]; have := (List.getElem?_eq_some_iff.1 hi).1; omega) h6).1 (hi.trans hb'.symm)
theorem OdC.keep {w w' : World} {p : Nat} {od : List Rw} {R : Option Addr} {n c : Nat} {bs : List Nat} (h : OdC w p od R n c bs) (hb : Below w.heap.size w w') : OdC w' p od R n c bs := by
  obtain ⟨h1, h2, h3, h4, h5, h6, h7⟩ := h
  exact ⟨h1.keep hb, h2, h3, h4, h5.keep hb, h6, fun i b r hb' hr => (h7 i b r hb' hr).keep hb⟩
/-- The call of put at place j. -/
theorem Put_at {B : Nat} {w0 w : World} {p j b m d : Nat} {od : List Rw} {R B' : Option Addr} {n c : Nat} {bs : List Nat} {x : List Int} (h : OdC w p od R n c bs) (hj : bs[j]? = some b) (hB : OdB 60000 od) (ha : numOK (x.getD j 0)) (hL : RowOK w (B', d, nxt x j)) (hm : (nxt x j).length = m)
    (hb0 : Below B w0 w) (hbB : B ≤ b) (hBw : B ≤ w0.heap.size) :
    Calls Tryz.prog 67 #[.map (some b), .int .i64 (x.getD j 0), .slice B' m d] w.drew fun e w' => e = .returned (.tuple #[]) ∧ OdC w' p (od.set j (stepR (od.getD j []) (x.getD j 0) (nxt x j))) R n c bs ∧ Below B w0 w' := by
  have hlt : j < od.length := by rw [h.2.1, ← h.2.2.1]; exact (List.getElem?_eq_some_iff.1 hj).1
  have hr := h.2.2.2.2.2.2 j b _ hj (List.getElem?_eq_getElem hlt)
  have hrB := hB _ (List.getElem_mem hlt)
  have hd := bel_drewN (Below.refl w.heap.size w) 1
  refine (put_any b od[j] (x.getD j 0) B' m d (nxt x j) w.drew (hr.keep hd) (Nat.le_trans hrB.1 (by omega)) (fun q hq => Nat.le_trans (hrB.2 q hq) (by omega)) ⟨by have := ha.1; omega, by have := ha.2; omega⟩ (hL.keep hd) hm (by have := nxt_len x j; omega)).mono fun e w' ⟨h1, h2, h3⟩ => ?_
  have hg : w.grownBy w' (some b) := gb_then hd h3
  have e1 : od.getD j [] = od[j] := by rw [List.getD_eq_getElem?_getD, List.getElem?_eq_getElem hlt]; rfl
  refine ⟨h1, ?_, bel_turn hb0 hg hbB (Nat.le_trans hBw hb0.size)⟩
  rw [e1]
  exact h.put hj hr.isMap hg h2

/-- Lists that may be laid into an odag of length n. -/
def Good (n : Nat) (its : List (Option Addr × Nat × List Int)) : Prop := ∀ t ∈ its, t.2.2.length = n ∧ ∀ x ∈ t.2.2, numOK x

set_option maxHeartbeats 16000000 in
theorem OfOd_any (n : Nat) (its : List (Option Addr × Nat × List Int)) (Q : Option Addr) (m cq : Nat) (w : World) (h1 : 1 ≤ n) (h8 : n ≤ 8) (hm : its.length = m) (hm5 : m ≤ 50000) (hq : Sl w 1 Q m (its.map rv)) (hr : AllRows w its) (hgood : Good n its) :
    Calls Tryz.prog 28 #[.int .i64 (n : Int), .slice Q m cq] w fun e w' => ∃ p, e = .returned (.tuple #[.pointer (some ⟨p, 0, none⟩), .nilIface]) ∧ OdM w' p (odOf n (its.map (·.2.2))) ∧ Below w.heap.size w w' := by
  have HQ := Lib.hid hq
  have HR := Lib.hid hr
  have HG := Lib.hid hgood
  have HM := Lib.hid hm
  clear hq hr hgood hm
  go_enter Tryz.func28, Tryz.ntmps28
  go_wp2_with (go_at_call 64; refine (fresh_any n w h1 h8).mono ?_; rintro e w1 ⟨p, rfl, ho, hb⟩; have HO1 := Lib.hid ho; have HB1 := Lib.hid hb; clear ho hb)
  go_loopw [22] (fun iv wr => ∃ k : Nat, k ≤ m ∧ iv = .int .i64 k ∧ Hid (OdN w.heap.size wr p (odOf n ((its.take k).map (·.2.2)))) ∧ Hid (Below w.heap.size w wr)) (fun iv _ => m - (intOf iv).toNat)
  case atStart => exact ⟨0, Nat.zero_le _, rfl, HO1, HB1⟩
  case round =>
    obtain ⟨k, hk, rfl, HO, HB⟩ := hrel
    by_cases hlt : k < m
    · have hlt' : (k : Int) < (m : Int) := by omega
      obtain ⟨t, ht⟩ : ∃ t, its[k]? = some t := ⟨_, List.getElem?_eq_getElem (by rw [HM.out]; exact hlt)⟩
      obtain ⟨A, c, x⟩ := t
      have HT := Lib.hid ht
      have hmem := List.mem_of_getElem? ht
      have hx := HG.out _ hmem
      have hrow := (HR.out _ hmem).keep HB.out
      obtain ⟨qb, qo, rfl, _⟩ := HQ.out.at_ (show 0 < m by omega)
      have c1 := (HQ.out.keep HB.out).again hlt (show (its.map rv)[k]? = some (.slice A x.length c) by rw [List.getElem?_map, ht]; rfl)
      have HX := Lib.hid hx.2
      have HMem := Lib.hid hmem
      have hxl : x.length = n := hx.1
      rw [hxl] at c1
      have HXl := Lib.hid hxl
      have HCF := Lib.hid (ContainsF_ok x A n c wr hxl (by omega) (by have := hrow.1; simp only at this; rw [hxl] at this; exact this) hx.2)
      clear ht hmem hx hrow hxl
      go_wp2_with (go_at_call 68; refine HCF.out.mono ?_; rintro e w' ⟨rfl, rfl⟩)
      clear HCF
      have HOB := Lib.hid (show OdB 50000 (odOf n ((its.take k).map (·.2.2))) from fun r hr => (odOf_B n _ r hr).mono (by rw [List.length_map, List.length_take, HM.out]; omega))
      go_loopw [39] (fun jv wr => ∃ j : Nat, j ≤ n ∧ jv = .int .i64 j ∧ Hid (OdN w.heap.size wr p (putTo (odOf n ((its.take k).map (·.2.2))) x j)) ∧ Hid (Below w.heap.size w wr)) (fun jv _ => n - (intOf jv).toNat)
      case atStart => exact ⟨0, Nat.zero_le _, rfl, HO, HB⟩
      case round =>
        obtain ⟨j, hj, rfl, HOj, HBj⟩ := hrel
        by_cases hjn : j < n
        · have hjn' : (j : Int) < (n : Int) := by omega
          obtain ⟨R, n', cc, bs, hC, hbs⟩ := HOj.out
          obtain ⟨b, hb⟩ : ∃ b, bs[j]? = some b := ⟨_, List.getElem?_eq_getElem (by rw [hC.2.2.1, ← hC.2.1, putTo_len, odOf_len]; exact hjn)⟩
          have hn' : n' = n := by rw [← hC.2.1, putTo_len, odOf_len]
          subst hn'
          obtain ⟨a, ha⟩ : ∃ a, x[j]? = some a := ⟨_, List.getElem?_eq_getElem (by rw [HXl.out]; exact hjn)⟩
          have hgd : x.getD j 0 = a := by rw [List.getD_eq_getElem?_getD, ha]; rfl
          have hrj := (HR.out _ HMem.out).keep HBj.out
          have hsj : Sl wr 1 A n' (x.map (Value.int .i64)) := by have := hrj.1; simp only at this; rw [HXl.out] at this; exact this
          have hcj : n' ≤ c ∧ c ≤ 9223372036854775807 := by have := hrj.2; simp only at this; rw [HXl.out] at this; exact this
          obtain ⟨ab, ao, rfl, _⟩ := hsj.at_ (show 0 < n' by omega)
          have c1 := hsj.again hjn (show (x.map (Value.int .i64))[j]? = some (.int .i64 a) by rw [List.getElem?_map, ha]; rfl)
          obtain ⟨rb, ro, rfl, _⟩ := hC.2.2.2.2.1.at_ (show 0 < n' by omega)
          have c2 := hC.2.2.2.2.1.again hjn (show (bs.map fun b => Value.map (some b))[j]? = some (.map (some b)) by rw [List.getElem?_map, hb]; rfl)
          have c3 := hC.1.cell 0
          simp at c3
          have hxok : numOK (x.getD j 0) := by rw [hgd]; exact HX.out a (List.mem_of_getElem? ha)
          have hbB := hbs b (List.mem_of_getElem? hb)
          have HPut := Lib.hid (fun (B' : Option Addr) (m' d : Nat) (hL : RowOK wr (B', d, nxt x j)) (hm' : (nxt x j).length = m') => Put_at hC hb (fun r hr => (putTo_B HOB.out x j r hr).mono (by omega)) hxok hL hm' HBj.out hbB (Nat.le_refl _))
          rw [hgd] at HPut
          have HGd := Lib.hid hgd
          have HBs := Lib.hid hbs
          have HA := Lib.hid ha
          have HSj := Lib.hid hsj
          have HCj := Lib.hid hC
          have HK := Lib.hid (show ∀ (od2 : List Rw) W, OdC W p od2 (some ⟨rb, ro, none⟩) n' cc bs → W.cell? ⟨p, 0, none⟩ = some (.slice (some ⟨rb, ro, none⟩) n' cc) ∧ W.cell? ⟨rb, ro + j, none⟩ = some (.map (some b)) from fun od2 W hW => by
            have q := hW.1.cell 0
            simp at q
            exact ⟨q, hW.2.2.2.2.1.again hjn (show (bs.map fun b => Value.map (some b))[j]? = some (.map (some b)) by rw [List.getElem?_map, hb]; rfl)⟩)
          clear ha hgd hrj hsj hC hbs hb hxok hbB
          have hw1 : IntKind.i64.wrap ((j : Int) + 1) = (j : Int) + 1 := by rw [IntKind.wrap_i64]; omega
          have hw2 : IntKind.i64.wrap ((j : Int) + 2) = (j : Int) + 2 := by rw [IntKind.wrap_i64]; omega
          have ht1 : ((j : Int) + 1).toNat = j + 1 := by omega
          have ht2 : ((j : Int) + 2).toNat = j + 2 := by omega
          have hcc : (n' : Int) ≤ (c : Int) := by omega
          by_cases hj1 : j + 1 < n'
          · have hmin : min ((j : Int) + 2) (n' : Int) = (j : Int) + 2 := by omega
            have hmn2 : ¬ (n' : Int) < (j : Int) + 2 := by omega
            have g1 : (0 : Int) ≤ (j : Int) + 1 := by omega
            have g2 : (j : Int) + 1 ≤ (j : Int) + 2 := by omega
            have g3 : (j : Int) + 2 ≤ (c : Int) := by omega
            have g4 : ¬ c = j + 1 := by omega
            have HLen := Lib.hid (show (nxt x j).length = 1 from by unfold nxt; rw [List.length_take, List.length_drop, HXl.out]; omega)
            have HRow := Lib.hid (show RowOK wr (some ⟨ab, ao + (j + 1), none⟩, c - (j + 1), nxt x j) from by
              refine ⟨?_, by simp only; rw [HLen.out]; omega, by simp only; omega⟩
              simp only
              rw [HLen.out]
              have h := (HSj.out.drop (k := j + 1) (by omega)).take (k := 1) (by omega)
              unfold nxt
              rw [List.map_take, List.map_drop]
              exact h)
            go_wp2_with fail
            go_region_held3 (fun w' => w'.cell? ⟨p, 0, none⟩ = some (.slice (some ⟨rb, ro, none⟩) n' cc) ∧ w'.cell? ⟨rb, ro + j, none⟩ = some (.map (some b))) (go_keep)
              ((go_at_call 67; refine (HPut.out (some ⟨ab, ao + (j + 1), none⟩) 1 (c - (j + 1)) HRow.out HLen.out).mono ?_; rintro e' w3 ⟨rfl, ho, hb3⟩; have zz := HK.out _ _ ho; have HO3 := Lib.hid ho; have HB3 := Lib.hid hb3; clear ho hb3))
            go_wp2_with fail
            go_roundw
            case rel => exact ⟨j + 1, by omega, by go_num, Lib.hid ⟨_, _, _, _, by have h := HO3.out; rw [← HGd.out] at h; exact h, HBs.out⟩, HB3⟩
            case measure => simp [intOf]; omega
          · have hmin : min ((j : Int) + 2) (n' : Int) = (n' : Int) := by omega
            have hmn2 : (n' : Int) < (j : Int) + 2 := by omega
            have g1 : (0 : Int) ≤ (j : Int) + 1 := by omega
            have g2 : (j : Int) + 1 ≤ (n' : Int) := by omega
            have hz : n' - (j + 1) = 0 := by omega
            have HLen := Lib.hid (show (nxt x j).length = 0 from by unfold nxt; rw [List.length_take, List.length_drop, HXl.out]; omega)
            have HNil := Lib.hid (List.eq_nil_of_length_eq_zero HLen.out)
            by_cases hcj : c = j + 1
            · subst hcj
              have hcc2 : (n' : Int) ≤ (j : Int) + 1 := by omega
              have HRow := Lib.hid (show RowOK wr (some ⟨ab, ao, none⟩, 0, nxt x j) from by rw [HNil.out]; exact ⟨Sl.nil _ _ _, Nat.le_refl _, Nat.zero_le _⟩)
              go_wp2_with fail
              go_region_held3 (fun w' => w'.cell? ⟨p, 0, none⟩ = some (.slice (some ⟨rb, ro, none⟩) n' cc) ∧ w'.cell? ⟨rb, ro + j, none⟩ = some (.map (some b))) (go_keep)
                ((go_at_call 67; refine (HPut.out (some ⟨ab, ao, none⟩) 0 0 HRow.out HLen.out).mono ?_; rintro e' w3 ⟨rfl, ho, hb3⟩; have zz := HK.out _ _ ho; have HO3 := Lib.hid ho; have HB3 := Lib.hid hb3; clear ho hb3))
              go_wp2_with fail
              go_roundw
              case rel => exact ⟨j + 1, by omega, by go_num, Lib.hid ⟨_, _, _, _, by have h := HO3.out; rw [← HGd.out] at h; exact h, HBs.out⟩, HB3⟩
              case measure => simp [intOf]; omega
            · have HRow := Lib.hid (show RowOK wr (some ⟨ab, ao + (j + 1), none⟩, c - (j + 1), nxt x j) from by rw [HNil.out]; exact ⟨Sl.nil _ _ _, Nat.zero_le _, by show c - (j + 1) ≤ _; omega⟩)
              go_wp2_with fail
              go_region_held3 (fun w' => w'.cell? ⟨p, 0, none⟩ = some (.slice (some ⟨rb, ro, none⟩) n' cc) ∧ w'.cell? ⟨rb, ro + j, none⟩ = some (.map (some b))) (go_keep)
                ((go_at_call 67; refine (HPut.out (some ⟨ab, ao + (j + 1), none⟩) 0 (c - (j + 1)) HRow.out HLen.out).mono ?_; rintro e' w3 ⟨rfl, ho, hb3⟩; have zz := HK.out _ _ ho; have HO3 := Lib.hid ho; have HB3 := Lib.hid hb3; clear ho hb3))
              go_wp2_with fail
              go_roundw
              case rel => exact ⟨j + 1, by omega, by go_num, Lib.hid ⟨_, _, _, _, by have h := HO3.out; rw [← HGd.out] at h; exact h, HBs.out⟩, HB3⟩
              case measure => simp [intOf]; omega
        · obtain rfl : j = n := by omega
          have hlt2 : ¬ (j : Int) < (j : Int) := by omega
          have HPE := Lib.hid (show putTo (odOf j ((its.take k).map (·.2.2))) x j = odOf j ((its.take (k + 1)).map (·.2.2)) from by
            obtain ⟨e1, e2⟩ := List.getElem?_eq_some_iff.1 HT.out
            rw [List.take_succ_eq_append_getElem e1, e2, List.map_append, List.map_singleton, odOf_snoc]
            unfold putO
            rw [HXl.out])
          go_wp2_with fail
          go_roundw
          case rel => exact ⟨k + 1, by omega, by go_num, by rw [← HPE.out]; exact HOj, HBj⟩
          case measure => simp [intOf]; omega
    · obtain rfl : k = m := by omega
      have hlt' : ¬ (k : Int) < (k : Int) := by omega
      have HE := Lib.hid (show its.take k = its from List.take_of_length_le (by rw [HM.out]; exact Nat.le_refl _))
      rw [HE.out] at HO
      go_wp2_with fail
      go_ret2
      exact ⟨_, rfl, HO.out.odM, HB.out⟩
end Go.Proofs.YtmonepclhbappaaGreatDoor
/-
  The laws' Made: the odag of lists that can be one.
-/
namespace Go.Proofs.YtmonepclhbappaaGreatDoor
open Go.RowKit Go.Maps
set_option maxRecDepth 100000
set_option linter.unusedVariables false

set_option maxHeartbeats 4000000 in
theorem Made_any (a : Int) (its : List (Option Addr × Nat × List Int)) (Q : Option Addr) (m cq : Nat) (w : World) (hm : its.length = m) (hq : Sl w 1 Q m (its.map rv)) (hr : AllRows w its) :
    Calls Tryz.prog 26 #[.int .i64 a, .slice Q m cq] w fun e w' => (e = .returned (.tuple #[.pointer none, .bool false]) ∧ Below w.heap.size w w') ∨ ∃ (n p : Nat), a = n ∧ 1 ≤ n ∧ n ≤ 5 ∧ m ≤ 12 ∧ Good n its ∧ e = .returned (.tuple #[.pointer (some ⟨p, 0, none⟩), .bool true]) ∧ OdM w' p (odOf n (its.map (·.2.2))) ∧ Below w.heap.size w w' := by
  have HQ := Lib.hid hq
  have HR := Lib.hid hr
  have HM := Lib.hid hm
  clear hq hr hm
  by_cases h1 : a < 1
  · go_enter Tryz.func26, Tryz.ntmps26
    go_wp2_with fail
    go_ret2
    exact Or.inl ⟨rfl, Below.refl _ _⟩
  · by_cases h5 : 5 < a
    · go_enter Tryz.func26, Tryz.ntmps26
      go_wp2_with fail
      go_ret2
      exact Or.inl ⟨rfl, Below.refl _ _⟩
    · by_cases h12 : 12 < m
      · have h12' : (12 : Int) < (m : Int) := by omega
        go_enter Tryz.func26, Tryz.ntmps26
        go_wp2_with fail
        go_ret2
        exact Or.inl ⟨rfl, Below.refl _ _⟩
      · have h12' : ¬ (12 : Int) < (m : Int) := by omega
        obtain ⟨n, rfl⟩ : ∃ n : Nat, a = (n : Int) := ⟨a.toNat, by omega⟩
        go_enter Tryz.func26, Tryz.ntmps26
        go_wp2_with fail
        go_loop [6] (fun iv => ∃ k : Nat, k ≤ m ∧ iv = .int .i64 k ∧ Hid (Good n (its.take k))) (fun iv => m - (intOf iv).toNat)
        case atStart => exact ⟨0, Nat.zero_le _, rfl, Lib.hid fun t ht => by cases ht⟩
        case round =>
          obtain ⟨k, hk, rfl, HG⟩ := hrel
          by_cases hlt : k < m
          · have hlt' : (k : Int) < (m : Int) := by omega
            obtain ⟨t, ht⟩ : ∃ t, its[k]? = some t := ⟨_, List.getElem?_eq_getElem (by rw [HM.out]; exact hlt)⟩
            obtain ⟨A, c, x⟩ := t
            have HT := Lib.hid ht
            have HRow := Lib.hid (HR.out _ (List.mem_of_getElem? ht))
            obtain ⟨qb, qo, rfl, _⟩ := HQ.out.at_ (show 0 < m by omega)
            have c1 := HQ.out.again hlt (show (its.map rv)[k]? = some (.slice A x.length c) by rw [List.getElem?_map, ht]; rfl)
            clear ht
            by_cases hx : x.length = n
            · have HX := Lib.hid hx
              have hs1 := HRow.out.1
              simp only at hs1
              rw [hx] at c1 hs1
              have HS1 := Lib.hid hs1
              clear hx hs1
              go_wp2_with fail
              go_loop [7] (fun jv => ∃ j : Nat, j ≤ n ∧ jv = .int .i64 j ∧ Hid (∀ y ∈ x.take j, numOK y)) (fun jv => n - (intOf jv).toNat)
              case atStart => exact ⟨0, Nat.zero_le _, rfl, Lib.hid fun y hy => by cases hy⟩
              case round =>
                obtain ⟨j, hj, rfl, HN⟩ := hrel
                by_cases hjn : j < n
                · have hjn' : (j : Int) < (n : Int) := by omega
                  obtain ⟨y, hy⟩ : ∃ y, x[j]? = some y := ⟨_, List.getElem?_eq_getElem (by rw [HX.out]; exact hjn)⟩
                  obtain ⟨b1, off1, rfl, _⟩ := HS1.out.at_ (show 0 < n by omega)
                  have c2 := HS1.out.again hjn (show (x.map (Value.int .i64))[j]? = some (.int .i64 y) by rw [List.getElem?_map, hy]; rfl)
                  have HY := Lib.hid hy
                  clear hy
                  by_cases hy0 : y < 0
                  · go_wp2_with fail
                    go_ret2
                    exact Or.inl ⟨rfl, Below.refl _ _⟩
                  · by_cases hy1 : 2147483647 < y
                    · go_wp2_with fail
                      go_ret2
                      exact Or.inl ⟨rfl, Below.refl _ _⟩
                    · have HNy := Lib.hid (show numOK y from ⟨by omega, by omega⟩)
                      go_wp2_with fail
                      go_round
                      case rel =>
                        refine ⟨j + 1, by omega, by go_num, Lib.hid fun z hz => ?_⟩
                        obtain ⟨e1, e2⟩ := List.getElem?_eq_some_iff.1 HY.out
                        rw [List.take_succ_eq_append_getElem e1, e2] at hz
                        rcases List.mem_append.1 hz with hz | hz
                        · exact HN.out z hz
                        · rw [List.mem_singleton.1 hz]
                          exact HNy.out
                      case measure => simp [intOf]; omega
                · obtain rfl : j = n := by omega
                  have hlt2 : ¬ (j : Int) < (j : Int) := by omega
                  go_wp2_with fail
                  go_round
                  case rel =>
                    refine ⟨k + 1, by omega, by go_num, Lib.hid fun z hz => ?_⟩
                    obtain ⟨e1, e2⟩ := List.getElem?_eq_some_iff.1 HT.out
                    rw [List.take_succ_eq_append_getElem e1, e2] at hz
                    rcases List.mem_append.1 hz with hz | hz
                    · exact HG.out z hz
                    · rw [List.mem_singleton.1 hz]
                      refine ⟨HX.out, fun y hy => HN.out y ?_⟩
                      rw [List.take_of_length_le (by rw [HX.out]; exact Nat.le_refl _)]
                      exact hy
                  case measure => simp [intOf]; omega
            · have hx' : ((x.length : Int) != (n : Int)) = true := by simp; omega
              clear hx
              go_wp2_with fail
              go_ret2
              exact Or.inl ⟨rfl, Below.refl _ _⟩
          · obtain rfl : k = m := by omega
            have hlt2 : ¬ (k : Int) < (k : Int) := by omega
            have HGd := Lib.hid (show Good n its from by have := HG.out; rw [List.take_of_length_le (by rw [HM.out]; exact Nat.le_refl _)] at this; exact this)
            have HOf := Lib.hid (OfOd_any n its Q k cq w (by omega) (by omega) HM.out (by omega) HQ.out HR.out HGd.out)
            go_wp2_with (go_at_call 28; refine HOf.out.mono ?_; rintro e w1 ⟨p, rfl, ho, hb⟩; have HO1 := Lib.hid ho; have HB1 := Lib.hid hb; clear ho hb)
            go_quiet (fail)
            go_wp2_with fail
            go_ret2
            have hd := bel_drewN (Below.refl w1.heap.size w1) 1
            exact Or.inr ⟨n, p, rfl, by omega, by omega, by omega, HGd.out, rfl, HO1.out.keep (bel_drewN (Below.refl _ _) _), HB1.out.andThen (bel_drewN (Below.refl _ _) _)⟩
end Go.Proofs.YtmonepclhbappaaGreatDoor
/-
  The counts of ranks in memory: a map whose keys are structs of two ints; words for it.
-/
namespace Go.Proofs.YtmonepclhbappaaGreatDoor
open Go.RowKit Go.Maps Go.WideMaps
set_option maxRecDepth 100000
set_option linter.unusedVariables false

def i64ok (x : Int) : Prop := -9223372036854775808 ≤ x ∧ x ≤ 9223372036854775807
def kS (i a : Int) : Lit := .string (keyBytes [.int .i64 i, .int .i64 a])
def updF (f : Int → Int → Int) (i a v : Int) : Int → Int → Int := fun j b => if j = i ∧ b = a then v else f j b
section
variable {w w' : World} {b n : Nat} {f : Int → Int → Int}
end
section
variable (w : World) {ops : Array Oper} {rest : List Oper} {o : Oper} {a : Act} {Q : Exit → Act → World → Prop}
end
end Go.Proofs.YtmonepclhbappaaGreatDoor
