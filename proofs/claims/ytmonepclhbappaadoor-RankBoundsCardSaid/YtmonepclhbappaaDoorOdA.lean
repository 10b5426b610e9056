/-
  Odags: contracts of Len, fresh, put.
-/
import Derived.Test.YtmonepclhbappaaDoorOdM
import Derived.Test.YtmonepclhbappaaDoorErr
import Derived.Test.YtmonepclhbappaaDoorSetsE
namespace Go.Proofs.YtmonepclhbappaaDoor
open Go.RowKit Go.Maps
set_option maxRecDepth 100000
set_option linter.unusedVariables false

theorem OdLen_any (p : Nat) (od : List Rw) (w : World) (h : OdM w p od) : Calls Tryd.prog 52 #[.pointer (some ⟨p, 0, none⟩)] w fun e w' => e = .returned (.int .i64 (od.length : Nat)) ∧ w = w' := by
  obtain ⟨R, n, c, bs, hb, hn, _⟩ := h
  have c0 := hb.cell 0
  simp at c0
  have HN := Lib.hid hn
  clear hn hb
  go_enter Tryd.func52, Tryd.ntmps52
  go_wp2_with fail
  go_ret
  exact ⟨ret_int (by rw [HN.out]), rfl⟩
theorem OdLen_nil (w : World) : Calls Tryd.prog 52 #[.pointer none] w fun e w' => e = .returned (.int .i64 0) ∧ w = w' := by
  go_enter Tryd.func52, Tryd.ntmps52
  go_wp2_with fail
  go_ret
  exact ⟨rfl, rfl⟩

theorem gb_then {w w1 w2 : World} {row : Option Nat} (h : Below w.heap.size w w1) (hg : w1.grownBy w2 row) : w.grownBy w2 row :=
  ⟨hg.os.trans h.os, hg.tape.trans h.tape, hg.output.trans h.output, Nat.le_trans h.size hg.size, fun k hk hne => (hg.block k (Nat.lt_of_lt_of_le hk h.size) hne).trans (h.block k hk)⟩

set_option maxHeartbeats 2000000 in
theorem put_any (b : Nat) (r : Rw) (a : Int) (B : Option Addr) (m d : Nat) (L : List Int) (w : World) (hr : MRow w b r) (hrl : r.length ≤ 1000000) (hll : ∀ x ∈ r, x.2.length ≤ 100000) (ha : -9223372036854775808 ≤ a ∧ a ≤ 9223372036854775807) (hL : RowOK w (B, d, L)) (hm : L.length = m) (hm2 : m ≤ 100000) :
    Calls Tryd.prog 56 #[.map (some b), .int .i64 a, .slice B m d] w fun e w' => e = .returned (.tuple #[]) ∧ MRow w' b (putR r a (setL (lkR r a ++ L))) ∧ w.grownBy w' (some b) := by
  have HR := Lib.hid hr
  have HL := Lib.hid hL
  have HM := Lib.hid hm
  have HA := Lib.hid ha
  have HRl := Lib.hid hrl
  have HLk := Lib.hid (show (lkR r a).length ≤ 100000 from by
    unfold lkR
    cases hf : r.find? fun p => decide (p.1 = a) with
    | none => simp
    | some p => exact hll p (List.mem_of_find?_eq_some hf))
  clear hr hL hm ha hrl hll
  go_enter Tryd.func56, Tryd.ntmps56
  go_wp2_with (first
    | (at_lookup; refine wpList_lookR _ rfl _ _ rfl b r rfl HR.out a rfl HA.out.1 HA.out.2 ?_; intro A c l hrow hl; have HRow := Lib.hid hrow; have HEl := Lib.hid hl; clear hrow hl)
    | (go_at_call 86; refine (Union_any l L A B l.length c m d _ rfl (by rw [HEl.out]; exact HLk.out) HRow.out.2 HRow.out.1 HM.out hm2 (by have := HL.out.2; rw [← HM.out]; exact this) (by have := HL.out.1; rw [HM.out] at this; exact this)).mono ?_; rintro e w2 ⟨v, rfl, hown, hb⟩; have HU := Lib.hid hown; have HB := Lib.hid hb; have hsh := Sl.own hown; obtain ⟨C, k, rfl, _⟩ := hsh; have HRk := Lib.hid (HR.out.keep hb); have HC := Lib.hid (show RowOK w2 (C, k, setL (l ++ L)) from ⟨Sl.of_own hown, own_cap hown⟩); clear hown hb)
    | (at_mapUpdate; refine wpList_putR _ rfl _ _ _ rfl b r rfl HRk.out HRl.out a rfl HA.out.1 HA.out.2 C k _ (setL (l ++ L)) rfl rfl HC.out ?_; intro w3 hM hg3; have HM3 := Lib.hid hM; have HG3 := Lib.hid hg3; clear hM hg3))
  go_end0
  exact ⟨rfl, by rw [← HEl.out]; exact HM3.out, gb_then HB.out HG3.out⟩

theorem elemRow : Elem Tryd.prog 102 101 (.map none) 1 8 := ⟨Tryd.underlying102, by kernel_rfl, rfl, by decide⟩
theorem MRow.emptyKept {w w' : World} {b : Nat} {row : Option Nat} (h : MRow w b []) (hg : w.grownBy w' row) (hne : some b ≠ row) : MRow w' b [] := by
  obtain ⟨m, h1, h2, h3⟩ := h
  obtain rfl : m = [] := List.map_eq_nil_iff.1 h1
  exact ⟨[], rfl, MapI.kept h2 hg hne, fun e he => by cases he⟩
theorem own_notNC {w : World} {b B size n : Nat} {e : TypeId} {v : Value} {xs : List Value} (h : w.ownsRow B e size v n xs) (hm : NC w b) : some b ≠ v.ownBlock := fun e1 => by
  obtain ⟨_, h2⟩ := h
  obtain ⟨o, h3, h4⟩ := hm
  rcases h2 with ⟨rfl, _⟩ | ⟨g', cap, cur, rfl, _, h5, _⟩
  · cases e1
  · cases e1
    rw [h3] at h5
    cases h5
    cases h4
def mps (bs : List Nat) : List Value := bs.map fun b => .map (some b)
theorem gb_set {w : World} {p : Addr} (u : Value) : w.grownBy (w.setCell p u) (some p.block) := ⟨rfl, rfl, rfl, by simp, fun k _ hk => Below.heap_setCell w p u k (fun e => hk (by rw [e]))⟩

/-- What a new odag's making holds so far. -/
def Frs (w wr : World) (v : Value) (k : Nat) : Prop :=
  ∃ bs : List Nat, bs.length = k ∧ wr.ownsRow w.heap.size 101 1 v k (mps bs) ∧ bs.Nodup ∧ (∀ b ∈ bs, w.heap.size < b ∧ MRow wr b []) ∧ Blk wr w.heap.size 104 #[v] ∧ Below w.heap.size w wr

set_option maxHeartbeats 4000000 in
theorem fresh_any (n : Nat) (w : World) (h1 : 1 ≤ n) (h8 : n ≤ 8) : Calls Tryd.prog 53 #[.int .i64 (n : Int)] w fun e w' => ∃ p, e = .returned (.tuple #[.pointer (some ⟨p, 0, none⟩), .nilIface]) ∧ OdN w.heap.size w' p (List.replicate n []) ∧ Below w.heap.size w w' := by
  have hmm := @run_makeMap Tryd.prog
  have hn1 : ¬ (n : Int) < 1 := by omega
  have hn8 : ¬ 8 < (n : Int) := by omega
  go_enter Tryd.func53, Tryd.ntmps53
  go_wp2_with fail
  go_loopw [15] (fun i wr => ∃ (k : Nat) (v : Value), k ≤ n ∧ i = .int .i64 k ∧ Hid (Frs w wr v k)) (fun i _ => n - (intOf i).toNat)
  case atStart => exact ⟨0, .slice none 0 0, Nat.zero_le _, rfl, Lib.hid ⟨[], rfl, by simpa [mps] using World.ownsRow_nil _ _ _ _, List.nodup_nil, (fun b hb => by cases hb), Blk.new _ _ _, bel_al (Below.refl _ _) _⟩⟩
  case round =>
    obtain ⟨k, v, hk, rfl, HF⟩ := hrel
    obtain ⟨bs, hbl, hown, hnd, hbs, hblk, hbel⟩ := HF.out
    have c0 := hblk.cell 0
    have f0 := hblk.frozen 0
    simp at c0
    have HO := Lib.hid hown
    have HBl := Lib.hid hblk
    have HBs := Lib.hid hbs
    have HNd := Lib.hid hnd
    have HLn := Lib.hid hbl
    have HB := Lib.hid hbel
    clear hown hblk hbs hnd hbl hbel HF
    by_cases hlt : k < n
    · have hlt' : (k : Int) < (n : Int) := by omega
      go_wp2_with (at_builtin; refine wpList_push_g elemRow _ _ rfl rfl (HO.out.alloc (.map #[] 0)) (bel_al HB.out _) (Nat.le_refl _) rfl (congrArg (fun z => Value.slice (some ⟨z, 0, none⟩) 1 1) (World.size_alloc wr (.map #[] 0)).symm) rfl (by simp [Value.oneCell']) (by unfold lim; omega) (by unfold lim; omega) ?_; intro v' w1 hown1 hb1 hg1; have hsh := Sl.own hown1; obtain ⟨R', c', rfl, _⟩ := hsh; have HO1 := Lib.hid hown1; have HB1 := Lib.hid hb1; have HG1 := Lib.hid hg1; have hk1 := (HBl.out.alloc (.map #[] 0)).others (HO.out.alloc (.map #[] 0)) hg1 (by decide); have HK1 := Lib.hid hk1; have k10 := hk1.cell 0; have f10 := hk1.frozen 0; simp at k10; clear hown1 hb1 hg1 hk1)
      go_roundw
      case rel =>
        have hne : ∀ g, (Value.slice R' (k + 1) c').ownBlock = some g → g ≠ w.heap.size := fun g hg e => own_notBlk HO1.out HK1.out (by decide) (by rw [hg, e])
        refine ⟨k + 1, .slice R' (k + 1) c', by omega, by go_num, Lib.hid ⟨bs ++ [wr.heap.size], by simp [HLn.out], ?_, ?_, fun b hb => ?_, HK1.out.set_ 0 (.slice R' (k + 1) c'), HB1.out.setCell (p := ⟨w.heap.size, 0, none⟩) (Nat.le_refl _) _⟩⟩
        · have h := own_block HO1.out (w' := w1.setCell ⟨w.heap.size, 0, none⟩ (.slice R' (k + 1) c')) fun g hg => Below.heap_setCell _ _ _ _ (hne g hg)
          unfold mps at h ⊢
          rw [List.map_append]
          exact h
        · rw [List.nodup_append]
          refine ⟨HNd.out, by simp, fun b hb g hg e => ?_⟩
          obtain rfl := List.mem_singleton.1 hg
          have := (HBs.out b hb).2.lt
          omega
        · rcases List.mem_append.1 hb with hb | hb
          · have h1 := HBs.out b hb
            refine ⟨h1.1, ((h1.2.emptyKept (gb_alloc _ _ none) (by simp)).emptyKept HG1.out (own_notNC HO.out h1.2.isMap)).emptyKept (gb_set _) (fun e => ?_)⟩
            have e' : b = w.heap.size := Option.some.inj e
            omega
          · obtain rfl := List.mem_singleton.1 hb
            have hlt2 := HBl.out.lt
            refine ⟨hlt2, ((MRow.made wr).emptyKept HG1.out (own_notNC (HO.out.alloc (.map #[] 0)) (MRow.made wr).isMap)).emptyKept (gb_set _) (fun e => ?_)⟩
            have e' : wr.heap.size = w.heap.size := Option.some.inj e
            omega
      case measure => simp [intOf]; omega
    · obtain rfl : k = n := by omega
      have hlt' : ¬ (k : Int) < (k : Int) := by omega
      go_wp2_with fail
      go_ret2
      obtain ⟨R, c, rfl, hs⟩ := Sl.own HO.out
      refine ⟨_, rfl, ⟨R, k, c, bs, ⟨HBl.out, by simp, HLn.out, (own_cap HO.out).1, hs, HNd.out, fun i b r hb hr => ?_⟩, fun b hb => Nat.le_of_lt (HBs.out b hb).1⟩, HB.out⟩
      have hr' : r = [] := by
        have := List.mem_of_getElem? hr
        exact (List.mem_replicate.1 this).2
      subst hr'
      exact (HBs.out b (List.mem_of_getElem? hb)).2
end Go.Proofs.YtmonepclhbappaaDoor
