/-
  Part 6 of the proof of OdagReads: OdA, MrgW, Chain, Chain2, WireA.
-/
import Derived.Test.YtmonepclhbappaaGreatDoorOdagReadsM3
import Derived.Test.YtmonepclhbappaaGreatDoorOdagReadsM1
import Derived.Test.YtmonepclhbappaaGreatDoorOdagReadsM5
import Derived.Deep.LoopGhost
/-
  Odags: contracts of Len, fresh, put.
-/
namespace Go.Proofs.YtmonepclhbappaaGreatDoor
open Go.RowKit Go.Maps
set_option maxRecDepth 100000
set_option linter.unusedVariables false

theorem OdLen_any (p : Nat) (od : List Rw) (w : World) (h : OdM w p od) : Calls Tryz.prog 32 #[.pointer (some ⟨p, 0, none⟩)] w fun e w' => e = .returned (.int .i64 (od.length : Nat)) ∧ w = w' := by
  obtain ⟨R, n, c, bs, hb, hn, _⟩ := h
  have c0 := hb.cell 0
  simp at c0
  have HN := Lib.hid hn
  clear hn hb
  go_enter Tryz.func32, Tryz.ntmps32
  go_wp2_with fail
  go_ret
  exact ⟨ret_int (by rw [HN.out]), rfl⟩
theorem OdLen_nil (w : World) : Calls Tryz.prog 32 #[.pointer none] w fun e w' => e = .returned (.int .i64 0) ∧ w = w' := by
  go_enter Tryz.func32, Tryz.ntmps32
  go_wp2_with fail
  go_ret
  exact ⟨rfl, rfl⟩

theorem gb_then {w w1 w2 : World} {row : Option Nat} (h : Below w.heap.size w w1) (hg : w1.grownBy w2 row) : w.grownBy w2 row :=
  ⟨hg.os.trans h.os, hg.tape.trans h.tape, hg.output.trans h.output, Nat.le_trans h.size hg.size, fun k hk hne => (hg.block k (Nat.lt_of_lt_of_le hk h.size) hne).trans (h.block k hk)⟩

set_option maxHeartbeats 2000000 in
theorem put_any (b : Nat) (r : Rw) (a : Int) (B : Option Addr) (m d : Nat) (L : List Int) (w : World) (hr : MRow w b r) (hrl : r.length ≤ 1000000) (hll : ∀ x ∈ r, x.2.length ≤ 100000) (ha : -9223372036854775808 ≤ a ∧ a ≤ 9223372036854775807) (hL : RowOK w (B, d, L)) (hm : L.length = m) (hm2 : m ≤ 100000) :
    Calls Tryz.prog 67 #[.map (some b), .int .i64 a, .slice B m d] w fun e w' => e = .returned (.tuple #[]) ∧ MRow w' b (putR r a (setL (lkR r a ++ L))) ∧ w.grownBy w' (some b) := by
  have HR := Lib.hid hr
  have HL := Lib.hid hL
  have HM := Lib.hid hm
  have HA := Lib.hid ha
  have HRl := Lib.hid hrl
  have HLk := Lib.hid (show (lkR r a).length ≤ 100000 from by
    unfold lkR
    cases hf : r.find? fun p => decide (p.1 = a) with
    | none => simp
    | some p => exact hll p (List.mem_of_find?_eq_some hf))
  clear hr hL hm ha hrl hll
  go_enter Tryz.func67, Tryz.ntmps67
  go_wp2_with (first
    | (at_lookup; refine wpList_lookR _ rfl _ _ rfl b r rfl HR.out a rfl HA.out.1 HA.out.2 ?_; intro A c l hrow hl; have HRow := Lib.hid hrow; have HEl := Lib.hid hl; clear hrow hl)
    | (go_at_call 103; refine (Union_any l L A B l.length c m d _ rfl (by rw [HEl.out]; exact HLk.out) HRow.out.2 HRow.out.1 HM.out hm2 (by have := HL.out.2; rw [← HM.out]; exact this) (by have := HL.out.1; rw [HM.out] at this; exact this)).mono ?_; rintro e w2 ⟨v, rfl, hown, hb⟩; have HU := Lib.hid hown; have HB := Lib.hid hb; have hsh := Sl.own hown; obtain ⟨C, k, rfl, _⟩ := hsh; have HRk := Lib.hid (HR.out.keep hb); have HC := Lib.hid (show RowOK w2 (C, k, setL (l ++ L)) from ⟨Sl.of_own hown, own_cap hown⟩); clear hown hb)
    | (at_mapUpdate; refine wpList_putR _ rfl _ _ _ rfl b r rfl HRk.out HRl.out a rfl HA.out.1 HA.out.2 C k _ (setL (l ++ L)) rfl rfl HC.out ?_; intro w3 hM hg3; have HM3 := Lib.hid hM; have HG3 := Lib.hid hg3; clear hM hg3))
  go_end0
  exact ⟨rfl, by rw [← HEl.out]; exact HM3.out, gb_then HB.out HG3.out⟩

theorem elemRow : Elem Tryz.prog 115 114 (.map none) 1 8 := ⟨Tryz.underlying115, by kernel_rfl, rfl, by decide⟩
theorem MRow.emptyKept {w w' : World} {b : Nat} {row : Option Nat} (h : MRow w b []) (hg : w.grownBy w' row) (hne : some b ≠ row) : MRow w' b [] := by
  obtain ⟨m, h1, h2, h3⟩ := h
  obtain rfl : m = [] := List.map_eq_nil_iff.1 h1
  exact ⟨[], rfl, MapI.kept h2 hg hne, fun e he => by cases he⟩
theorem own_notNC {w : World} {b B size n : Nat} {e : TypeId} {v : Value} {xs : List Value} (h : w.ownsRow B e size v n xs) (hm : NC w b) : some b ≠ v.ownBlock := fun e1 => by
  obtain ⟨_, h2⟩ := h
  obtain ⟨o, h3, h4⟩ := hm
  rcases h2 with ⟨rfl, _⟩ | ⟨g', cap, cur, rfl, _, h5, _⟩
  · cases e1
  · cases e1
    rw [h3] at h5
    cases h5
    cases h4
def mps (bs : List Nat) : List Value := bs.map fun b => .map (some b)
theorem gb_set {w : World} {p : Addr} (u : Value) : w.grownBy (w.setCell p u) (some p.block) := ⟨rfl, rfl, rfl, by simp, fun k _ hk => Below.heap_setCell w p u k (fun e => hk (by rw [e]))⟩

/-- What a new odag's making holds so far. -/
def Frs (w wr : World) (v : Value) (k : Nat) : Prop :=
  ∃ bs : List Nat, bs.length = k ∧ wr.ownsRow w.heap.size 114 1 v k (mps bs) ∧ bs.Nodup ∧ (∀ b ∈ bs, w.heap.size < b ∧ MRow wr b []) ∧ Blk wr w.heap.size 117 #[v] ∧ Below w.heap.size w wr

set_option maxHeartbeats 4000000 in
theorem fresh_any (n : Nat) (w : World) (h1 : 1 ≤ n) (h8 : n ≤ 8) : Calls Tryz.prog 64 #[.int .i64 (n : Int)] w fun e w' => ∃ p, e = .returned (.tuple #[.pointer (some ⟨p, 0, none⟩), .nilIface]) ∧ OdN w.heap.size w' p (List.replicate n []) ∧ Below w.heap.size w w' := by
  have hmm := @run_makeMap Tryz.prog
  have hn1 : ¬ (n : Int) < 1 := by omega
  have hn8 : ¬ 8 < (n : Int) := by omega
  go_enter Tryz.func64, Tryz.ntmps64
  go_wp2_with fail
  go_loopw [15] (fun i wr => ∃ (k : Nat) (v : Value), k ≤ n ∧ i = .int .i64 k ∧ Hid (Frs w wr v k)) (fun i _ => n - (intOf i).toNat)
  case atStart => exact ⟨0, .slice none 0 0, Nat.zero_le _, rfl, Lib.hid ⟨[], rfl, by simpa [mps] using World.ownsRow_nil _ _ _ _, List.nodup_nil, (fun b hb => by cases hb), Blk.new _ _ _, bel_al (Below.refl _ _) _⟩⟩
  case round =>
    obtain ⟨k, v, hk, rfl, HF⟩ := hrel
    obtain ⟨bs, hbl, hown, hnd, hbs, hblk, hbel⟩ := HF.out
    have c0 := hblk.cell 0
    have f0 := hblk.frozen 0
    simp at c0
    have HO := Lib.hid hown
    have HBl := Lib.hid hblk
    have HBs := Lib.hid hbs
    have HNd := Lib.hid hnd
    have HLn := Lib.hid hbl
    have HB := Lib.hid hbel
    clear hown hblk hbs hnd hbl hbel HF
    by_cases hlt : k < n
    · have hlt' : (k : Int) < (n : Int) := by omega
      go_wp2_with (at_builtin; refine wpList_push_g elemRow _ _ rfl rfl (HO.out.alloc (.map #[] 0)) (bel_al HB.out _) (Nat.le_refl _) rfl (congrArg (fun z => Value.slice (some ⟨z, 0, none⟩) 1 1) (World.size_alloc wr (.map #[] 0)).symm) rfl (by simp [Value.oneCell']) (by unfold lim; omega) (by unfold lim; omega) ?_; intro v' w1 hown1 hb1 hg1; have hsh := Sl.own hown1; obtain ⟨R', c', rfl, _⟩ := hsh; have HO1 := Lib.hid hown1; have HB1 := Lib.hid hb1; have HG1 := Lib.hid hg1; have hk1 := (HBl.out.alloc (.map #[] 0)).others (HO.out.alloc (.map #[] 0)) hg1 (by decide); have HK1 := Lib.hid hk1; have k10 := hk1.cell 0; have f10 := hk1.frozen 0; simp at k10; clear hown1 hb1 hg1 hk1)
      go_roundw
      case rel =>
        have hne : ∀ g, (Value.slice R' (k + 1) c').ownBlock = some g → g ≠ w.heap.size := fun g hg e => own_notBlk HO1.out HK1.out (by decide) (by rw [hg, e])
        refine ⟨k + 1, .slice R' (k + 1) c', by omega, by go_num, Lib.hid ⟨bs ++ [wr.heap.size], by simp [HLn.out], ?_, ?_, fun b hb => ?_, HK1.out.set_ 0 (.slice R' (k + 1) c'), HB1.out.setCell (p := ⟨w.heap.size, 0, none⟩) (Nat.le_refl _) _⟩⟩
        · have h := own_block HO1.out (w' := w1.setCell ⟨w.heap.size, 0, none⟩ (.slice R' (k + 1) c')) fun g hg => Below.heap_setCell _ _ _ _ (hne g hg)
          unfold mps at h ⊢
          rw [List.map_append]
          exact h
        · rw [List.nodup_append]
          refine ⟨HNd.out, by simp, fun b hb g hg e => ?_⟩
          obtain rfl := List.mem_singleton.1 hg
          have := (HBs.out b hb).2.lt
          omega
        · rcases List.mem_append.1 hb with hb | hb
          · have h1 := HBs.out b hb
            refine ⟨h1.1, ((h1.2.emptyKept (gb_alloc _ _ none) (by simp)).emptyKept HG1.out (own_notNC HO.out h1.2.isMap)).emptyKept (gb_set _) (fun e => ?_)⟩
            have e' : b = w.heap.size := Option.some.inj e
            omega
          · obtain rfl := List.mem_singleton.1 hb
            have hlt2 := HBl.out.lt
            refine ⟨hlt2, ((MRow.made wr).emptyKept HG1.out (own_notNC (HO.out.alloc (.map #[] 0)) (MRow.made wr).isMap)).emptyKept (gb_set _) (fun e => ?_)⟩
            have e' : wr.heap.size = w.heap.size := Option.some.inj e
            omega
      case measure => simp [intOf]; omega
    · obtain rfl : k = n := by omega
      have hlt' : ¬ (k : Int) < (k : Int) := by omega
      go_wp2_with fail
      go_ret2
      obtain ⟨R, c, rfl, hs⟩ := Sl.own HO.out
      refine ⟨_, rfl, ⟨R, k, c, bs, ⟨HBl.out, by simp, HLn.out, (own_cap HO.out).1, hs, HNd.out, fun i b r hb hr => ?_⟩, fun b hb => Nat.le_of_lt (HBs.out b hb).1⟩, HB.out⟩
      have hr' : r = [] := by
        have := List.mem_of_getElem? hr
        exact (List.mem_replicate.1 this).2
      subst hr'
      exact (HBs.out b (List.mem_of_getElem? hb)).2
end Go.Proofs.YtmonepclhbappaaGreatDoor
/-
  Rows of an odag whose links lie in rows of ints: they outlive a change of other cells. put again.
-/
namespace Go.Proofs.YtmonepclhbappaaGreatDoor
open Go.RowKit Go.Maps
set_option maxRecDepth 100000
set_option linter.unusedVariables false
set_option linter.unusedSectionVars false

def IntAt (w : World) (A : Option Addr) : Prop := ∀ x : Addr, A = some x → ∃ cs fr, w.heap[x.block]? = some (.cells cs 3 fr)
def MRowT (w : World) (b : Nat) (r : Rw) : Prop := ∃ m : List ME, m.map pl = r ∧ MapR w b (m.map mv) ∧ ∀ e ∈ m, RowOK w e.2 ∧ IntAt w e.2.1
section
variable {w w' : World} {b b' : Nat} {r : Rw} {A : Option Addr}
theorem IntAt.keep (h : IntAt w A) (hb : Below w.heap.size w w') : IntAt w' A := fun x hx => by
  obtain ⟨cs, fr, h1⟩ := h x hx
  exact ⟨cs, fr, (hb.block _ (Array.getElem?_eq_some_iff.1 h1).1).trans h1⟩
theorem IntAt.turned (h : IntAt w A) (hm : NC w b) (hg : w.grownBy w' (some b)) : IntAt w' A := fun x hx => by
  obtain ⟨cs, fr, h1⟩ := h x hx
  refine ⟨cs, fr, (hg.block _ (Array.getElem?_eq_some_iff.1 h1).1 fun e => ?_).trans h1⟩
  cases e
  obtain ⟨o, h2, h3⟩ := hm
  rw [h1] at h2
  cases h2
  cases h3
theorem IntAt.of_own {B n c : Nat} {xs : List Value} (h : w.ownsRow B 3 1 (.slice A n c) n xs) : IntAt w A := fun x hx => by
  subst hx
  rcases h.2 with ⟨h1, _⟩ | ⟨g, cap, cur, h1, _, h3, _⟩
  · cases h1
  · cases h1
    exact ⟨cur, _, h3⟩
theorem MRowT.row (h : MRowT w b r) : MRow w b r := by
  obtain ⟨m, h1, h2, h3⟩ := h
  exact ⟨m, h1, h2, fun e he => (h3 e he).1⟩
theorem MRowT.keep (h : MRowT w b r) (hb : Below w.heap.size w w') : MRowT w' b r := by
  obtain ⟨m, h1, h2, h3⟩ := h
  exact ⟨m, h1, MapI.keep h2 hb, fun e he => ⟨(h3 e he).1.keep hb, (h3 e he).2.keep hb⟩⟩
theorem MRowT.other (h : MRowT w b r) (hm : NC w b') (hg : w.grownBy w' (some b')) (hne : b ≠ b') : MRowT w' b r := by
  obtain ⟨m, h1, h2, h3⟩ := h
  exact ⟨m, h1, MapI.kept h2 hg (fun e => hne (by cases e; rfl)), fun e he => ⟨(h3 e he).1.turned hm hg, (h3 e he).2.turned hm hg⟩⟩
theorem MRowT.grown {row : Option Nat} (h : MRowT w b r) (hg : w.grownBy w' row) (hr : ∀ g, row = some g → ∃ cs t fr, w.heap[g]? = some (.cells cs t fr) ∧ t ≠ 3) : MRowT w' b r := by
  have hnc := h.row.isMap
  obtain ⟨m, h1, h2, h3⟩ := h
  refine ⟨m, h1, MapI.kept h2 hg (fun e => ?_), fun e he => ?_⟩
  · obtain ⟨cs, t, fr, h4, _⟩ := hr b e.symm
    obtain ⟨o, h5, h6⟩ := hnc
    rw [h4] at h5
    cases h5
    cases h6
  · obtain ⟨k1, k2⟩ := h3 e he
    have hne : ∀ x : Addr, e.2.1 = some x → x.block < w.heap.size ∧ some x.block ≠ row := fun x hx => by
      obtain ⟨cs, fr, h4⟩ := k2 x hx
      refine ⟨(Array.getElem?_eq_some_iff.1 h4).1, fun e => ?_⟩
      obtain ⟨cs', t, fr', h5, h6⟩ := hr _ e.symm
      rw [h4] at h5
      injection h5 with h5
      injection h5 with _ h7
      exact h6 h7.symm
    refine ⟨⟨k1.1.grownQ hg hne, k1.2⟩, fun x hx => ?_⟩
    obtain ⟨cs, fr, h4⟩ := k2 x hx
    exact ⟨cs, fr, (hg.block _ (hne x hx).1 (hne x hx).2).trans h4⟩
theorem MRowT.made (w : World) : MRowT (w.alloc (.map #[] 0)) w.heap.size [] := ⟨[], rfl, MapI.made _ _ w, fun e he => by cases he⟩
end
section
variable (w : World) {ops : Array Oper} {rest : List Oper} {o : Oper} {a : Act} {Q : Exit → Act → World → Prop}
/-- 'r[a] = l'. -/
theorem wpList_putRT (hg : o.guard = none) (m x v : Operand) (hop : o.op = Op.mapUpdate 114 m x v) (b : Nat) (r : Rw) (hm : a.eval m = .map (some b)) (hown : MRowT w b r) (hn : r.length ≤ 1000000) (y : Int) (hx : a.eval x = .int .i64 y) (h1 : -9223372036854775808 ≤ y) (h2 : y ≤ 9223372036854775807)
    (A : Option Addr) (c n : Nat) (l : List Int) (hl : l.length = n) (hv : a.eval v = .slice A n c) (hrow : RowOK w (A, c, l)) (hIA : IntAt w A)
    (hK : ∀ w', MRowT w' b (putR r y l) → w.grownBy w' (some b) → wpList Tryz.prog ops Q rest (a.put o.dst undef) w') :
    wpList Tryz.prog ops Q (o :: rest) a w := by
  have hmap := hown.row.isMap
  obtain ⟨me, rfl, hM, hR⟩ := hown
  subst hl
  refine wpList_putI w hg m x v _ hop 22 kInt Tryz.underlying114 b _ hm hM (by rw [List.length_map] at hn ⊢; unfold maxLen; omega) y _ hx hv h1 h2 fun w' hM' hgr => hK w' ?_ hgr
  refine ⟨(me.filter fun e => decide (e.1 < y)) ++ ((y, A, c, l) : ME) :: me.filter fun e => decide (y < e.1), ?_, ?_, fun e he => ?_⟩
  · exact (put_map pl (fun _ => rfl) me (y, A, c, l) (y, l) rfl).symm
  · have := put_map mv (fun _ => rfl) me (y, A, c, l) (y, .slice A l.length c) rfl
    rw [← this]
    exact hM'
  · have hall : ∀ e ∈ (y, A, c, l) :: me, RowOK w e.2 ∧ IntAt w e.2.1 := fun e he => by
      rcases List.mem_cons.1 he with rfl | he
      · exact ⟨hrow, hIA⟩
      · exact hR e he
    have h := hall e (by
      rcases List.mem_append.1 he with he | he
      · exact List.mem_cons_of_mem _ (List.mem_filter.1 he).1
      · rcases List.mem_cons.1 he with rfl | he
        · exact List.mem_cons_self ..
        · exact List.mem_cons_of_mem _ (List.mem_filter.1 he).1)
    exact ⟨h.1.turned hmap hgr, h.2.turned hmap hgr⟩
end

set_option maxHeartbeats 2000000 in
theorem put_anyT (b : Nat) (r : Rw) (a : Int) (B : Option Addr) (m d : Nat) (L : List Int) (w : World) (hr : MRowT w b r) (hrl : r.length ≤ 1000000) (hll : ∀ x ∈ r, x.2.length ≤ 100000) (ha : -9223372036854775808 ≤ a ∧ a ≤ 9223372036854775807) (hL : RowOK w (B, d, L)) (hm : L.length = m) (hm2 : m ≤ 100000) :
    Calls Tryz.prog 67 #[.map (some b), .int .i64 a, .slice B m d] w fun e w' => e = .returned (.tuple #[]) ∧ MRowT w' b (putR r a (setL (lkR r a ++ L))) ∧ w.grownBy w' (some b) := by
  have HR := Lib.hid hr
  have HL := Lib.hid hL
  have HM := Lib.hid hm
  have HA := Lib.hid ha
  have HRl := Lib.hid hrl
  have HLk := Lib.hid (show (lkR r a).length ≤ 100000 from by
    unfold lkR
    cases hf : r.find? fun p => decide (p.1 = a) with
    | none => simp
    | some p => exact hll p (List.mem_of_find?_eq_some hf))
  clear hr hL hm ha hrl hll
  go_enter Tryz.func67, Tryz.ntmps67
  go_wp2_with (first
    | (at_lookup; refine wpList_lookR _ rfl _ _ rfl b r rfl HR.out.row a rfl HA.out.1 HA.out.2 ?_; intro A c l hrow hl; have HRow := Lib.hid hrow; have HEl := Lib.hid hl; clear hrow hl)
    | (go_at_call 103; refine (Union_any l L A B l.length c m d _ rfl (by rw [HEl.out]; exact HLk.out) HRow.out.2 HRow.out.1 HM.out hm2 (by have := HL.out.2; rw [← HM.out]; exact this) (by have := HL.out.1; rw [HM.out] at this; exact this)).mono ?_; rintro e w2 ⟨v, rfl, hown, hb⟩; have HU := Lib.hid hown; have HB := Lib.hid hb; have hsh := Sl.own hown; obtain ⟨C, k, rfl, _⟩ := hsh; have HRk := Lib.hid (HR.out.keep hb); have HC := Lib.hid (show RowOK w2 (C, k, setL (l ++ L)) from ⟨Sl.of_own hown, own_cap hown⟩); have HIA := Lib.hid (IntAt.of_own hown); clear hown hb)
    | (at_mapUpdate; refine wpList_putRT _ rfl _ _ _ rfl b r rfl HRk.out HRl.out a rfl HA.out.1 HA.out.2 C k _ (setL (l ++ L)) rfl rfl HC.out HIA.out ?_; intro w3 hM hg3; have HM3 := Lib.hid hM; have HG3 := Lib.hid hg3; clear hM hg3))
  go_end0
  exact ⟨rfl, by rw [← HEl.out]; exact HM3.out, gb_then HB.out HG3.out⟩
end Go.Proofs.YtmonepclhbappaaGreatDoor
/-
  Chains of errors: errors.As at *api.Fault, errors.Is at a fault, errors.Unwrap, and the fault package's functions over whole chains.
-/
namespace Go.Proofs.YtmonepclhbappaaGreatDoor
open Go.RowKit Go.Extern.Stop Go.Stop Go.Extern

def Err.depth : Err → Nat
  | .step _ e => e.depth + 1
  | _ => 0
def Err.flt? : Err → Option (Int × Int × ByteArray)
  | .flt c a s => some (c, a, s)
  | .step _ e => e.flt?
  | _ => none
theorem Err.code_of : ∀ (E : Err), E ≠ .nil → (∀ w v, E.At w v → E.code = match E.flt? with | some (c, _, _) => c | none => -1)
  | .nil, h, _, _, _ => absurd rfl h
  | .flt _ _ _, _, _, _, _ => rfl
  | .txt _, _, _, _, _ => rfl
  | .step _ e, _, w, _, ⟨_, v', _, _, h3, h4⟩ => Err.code_of e h4 w v' h3
theorem Err.at_of : ∀ (E : Err), E.at_ = match E.flt? with | some (_, a, _) => a | none => 0
  | .nil => rfl
  | .flt _ _ _ => rfl
  | .txt _ => rfl
  | .step _ e => Err.at_of e

theorem fs_typeOf (v : Value) (w : World) : (ReflectliteType.typeOf #[.iface 155 v]).run Tryz.prog w = .ok (.iface 204 (.agg #[.pointer (some ⟨5, 155, none⟩)])) w := by kernel_rfl
theorem fs_assignable (w : World) : (ReflectliteType.relation "AssignableTo" ReflectliteType.assignableTo #[.agg #[.pointer (some ⟨5, 155, none⟩)], .iface 204 (.agg #[.pointer (some ⟨5, 104, none⟩)])]).run Tryz.prog w = .ok (.bool false) w := by kernel_rfl
theorem fs_noAs (v : Value) (xT : TypeId) (w : World) : (Instr.typeAssert (.iface 155 v) xT 209 true).run Tryz.prog w = .ok (.tuple #[.nilIface, .bool false]) w := run_typeAssert_lacksB Tryz.underlying209 (by kernel_rfl) (by kernel_rfl) v xT w
theorem fs_hasUnwrap (v : Value) (xT : TypeId) (w : World) : (Instr.typeAssert (.iface 155 v) xT 212 true).run Tryz.prog w = .ok (.tuple #[.iface 155 v, .bool true]) w := run_typeAssert_hasB Tryz.underlying212 (by kernel_rfl) v xT w
theorem fs_methodUnwrap (v : Value) (w : World) : (Go.method 370 155 v "Unwrap").run Tryz.prog w = .ok (193, v) w := by kernel_rfl

theorem stepUnwrap (g : Nat) (v' : Value) (w : World) (hc : w.cell? ⟨g, 1, none⟩ = some v') :
    Calls Tryz.prog 193 #[.pointer (some ⟨g, 0, none⟩)] w fun e w' => e = .returned v' ∧ w = w' := by
  go_enter Tryz.func193, Tryz.ntmps193
  go_wp2
  go_ret
  exact ⟨rfl, rfl⟩

/-- What errors.as leaves: the target is set to the chain's first fault; or the chain has none. -/
def AsPost (E : Err) (w0 w1 : World) (t : Addr) (ev : Ending) (w' : World) : Prop :=
  (∃ c a s g, E.flt? = some (c, a, s) ∧ ev = .returned (.bool true) ∧ Blk w0 g 107 #[.int .i64 c, .int .i64 a, .string s] ∧ (w1.alloc (.cells #[.pointer (some ⟨g, 0, none⟩)] 104)).setCell t (.pointer (some ⟨g, 0, none⟩)) = w') ∨
  (E.flt? = none ∧ ev = .returned (.bool false) ∧ w1 = w')

theorem Err.At.iface_ {w : World} {E : Err} {v : Value} (h : E.At w v) (hne : E ≠ .nil) : ∃ T x, v = .iface T x := by
  cases E with
  | nil => exact absurd rfl hne
  | flt c a s => obtain ⟨g, rfl, _⟩ := h; exact ⟨_, _, rfl⟩
  | step w e => obtain ⟨g, _, rfl, _⟩ := h; exact ⟨_, _, rfl⟩
  | txt s => exact h.elim

set_option maxHeartbeats 2000000 in
theorem as_any (E : Err) (v : Value) (w0 w : World) (hE : E.At w0 v) (hw : Below w0.heap.size w0 w) (hne : E ≠ .nil) (t b : Addr) (old : Value) (hb0 : w.cell? b = some (.pointer (some t))) (ht0 : w.cell? t = some old) (hf0 : w.frozen? t = false) :
    Calls Tryz.prog 121 #[v, .iface 162 (.pointer (some t)), .agg #[.pointer (some ⟨5, 162, none⟩), .pointer (some b), .int .u64 150], .iface 204 (.agg #[.pointer (some ⟨5, 104, none⟩)])] w
      (AsPost E w0 (w.alloc (.cells #[.pointer (some ⟨5, 162, none⟩), .pointer (some b), .int .u64 150] 182)) t) := by
  have h83 := @run_callFunc_extern Tryz.prog 118 _ (fun args => ReflectliteValue.unpack (args.getD 0 (.tuple #[]))) Tryz.func118 (by kernel_rfl) (by kernel_rfl) (by kernel_rfl) (by kernel_rfl)
  have h87 := @run_callFunc_extern Tryz.prog 136 _ ReflectliteType.typeOf Tryz.func136 (by kernel_rfl) (by kernel_rfl) (by kernel_rfl) (by kernel_rfl)
  have h125 := @run_callFunc_extern Tryz.prog 198 _ (ReflectliteType.relation "AssignableTo" ReflectliteType.assignableTo) Tryz.func198 (by kernel_rfl) (by kernel_rfl) (by kernel_rfl) (by kernel_rfl)
  have h95 := @run_callFunc_extern Tryz.prog 137 _ (ReflectliteValue.method (ReflectliteValue.valueError "reflectlite.Value.Elem" 0) ReflectliteValue.elem) Tryz.func137 (by kernel_rfl) (by kernel_rfl) (by kernel_rfl) (by kernel_rfl)
  have h96 := @run_callFunc_extern Tryz.prog 138 _ ReflectliteValue.set Tryz.func138 (by kernel_rfl) (by kernel_rfl) (by kernel_rfl) (by kernel_rfl)
  have tO := fx_typeOf
  have mA := fx_methodAssignableTo
  have aP := fx_assignable
  have vP := fx_valueOfP
  have tS := fs_typeOf
  have aS := fs_assignable
  have nS := fs_noAs
  have uS := fs_hasUnwrap
  have mS := fs_methodUnwrap
  have htl := World.block_lt_of_cell? w t ht0
  have hbl := World.block_lt_of_cell? w b hb0
  have el := fx_elemV b t (w.alloc (.cells #[.pointer (some ⟨5, 162, none⟩), .pointer (some b), .int .u64 150] 182)) (by rw [World.cell?_alloc_lt _ _ b hbl]; exact hb0)
  have st := fun e => fx_set t ⟨w.heap.size + 1, 0, none⟩ e old ((w.alloc (.cells #[.pointer (some ⟨5, 162, none⟩), .pointer (some b), .int .u64 150] 182)).alloc (.cells #[.pointer (some e)] 104))
    (by rw [World.cell?_alloc_at _ _ _ _ (by simp)]; rfl)
    (by rw [World.cell?_alloc_lt _ _ t (by simp; omega), World.cell?_alloc_lt _ _ t htl]; exact ht0)
    (by rw [World.frozen?_alloc_old _ _ t (by simp; omega), World.frozen?_alloc_old _ _ t (Nat.ne_of_lt htl)]; exact hf0)
  have HB := Lib.hid (bel_al hw (.cells #[.pointer (some ⟨5, 162, none⟩), .pointer (some b), .int .u64 150] 182))
  clear hb0 ht0 hf0 hw
  go_enter Tryz.func121, Tryz.ntmps121
  go_wp2
  go_loopg [0] E.depth (fun k e wr => ∃ E' : Err, E'.At w0 e ∧ E'.depth = k ∧ Hid (E'.flt? = E.flt?) ∧ E' ≠ .nil ∧ wr = w.alloc (.cells #[.pointer (some ⟨5, 162, none⟩), .pointer (some b), .int .u64 150] 182))
  case atStart => exact ⟨E, hE, rfl, rfl, hne, rfl⟩
  case round =>
    obtain ⟨E', hE', hk, HE, hne', rfl⟩ := hrel
    clear hE hne
    cases E' with
    | nil => exact absurd rfl hne'
    | flt c a s =>
      obtain ⟨g, rfl, hblk⟩ := hE'
      have st' := st ⟨g, 0, none⟩
      have HK := Lib.hid hblk
      clear hblk st
      go_wp2
      go_ret
      exact .inl ⟨c, a, s, g, HE.out.symm, rfl, HK.out, rfl⟩
    | txt s => exact hE'.elim
    | step word e =>
      obtain ⟨g, v', rfl, hblk, hv', hnn⟩ := hE'
      have hc1 := (hblk.keep HB.out).cell 1
      simp at hc1
      have HV := Lib.hid hv'
      have HU := Lib.hid (stepUnwrap g v' _ hc1)
      obtain ⟨T, x, rfl⟩ := Err.At.iface_ hv' hnn
      have HK := Lib.hid hk
      have HN := Lib.hid hnn
      clear hblk st hv' hk hc1 hnn hne'
      go_wp2_with (go_at_call 193; refine HU.out.mono ?_; rintro ev w' ⟨rfl, rfl⟩)
      go_roundg e.depth
      case measure => have := HK.out; simp only [Err.depth] at this; omega
      case rel => exact ⟨e, HV.out, rfl, HE.out, HN.out, rfl⟩
end Go.Proofs.YtmonepclhbappaaGreatDoor
/-
  The fault package over whole chains: errors.As, fault.fault, fault.Code, fault.At.
-/
namespace Go.Proofs.YtmonepclhbappaaGreatDoor
open Go.RowKit Go.Extern.Stop Go.Stop Go.Extern

set_option maxHeartbeats 2000000 in
theorem As_any (E : Err) (v : Value) (w0 w : World) (hE : E.At w0 v) (hw : Below w0.heap.size w0 w) (hne : E ≠ .nil) (t : Addr) (old : Value) (hg : w.cell? ⟨0, 0, none⟩ = some (.iface 204 (.agg #[.pointer (some ⟨5, 42, none⟩)]))) (ht0 : w.cell? t = some old) (hf0 : w.frozen? t = false) :
    Calls Tryz.prog 98 #[v, .iface 162 (.pointer (some t))] w fun ev w' => ∃ W W1, AsPost E w0 W1 t ev w' ∧ W = ((w.alloc (.cells #[.pointer (some t)] 162)).alloc (.cells #[.pointer (some ⟨5, 162, none⟩), .pointer (some ⟨w.heap.size, 0, none⟩), .int .u64 150] 182)) ∧ W1 = W.alloc (.cells #[.pointer (some ⟨5, 162, none⟩), .pointer (some ⟨w.heap.size, 0, none⟩), .int .u64 150] 182) := by
  have h83 := @run_callFunc_extern Tryz.prog 118 _ (fun args => ReflectliteValue.unpack (args.getD 0 (.tuple #[]))) Tryz.func118 (by kernel_rfl) (by kernel_rfl) (by kernel_rfl) (by kernel_rfl)
  have h84 := @run_callFunc_extern Tryz.prog 119 _ (ReflectliteValue.methodAny (ReflectliteValue.valueError "reflectlite.Value.Type" 0) (fun t _ _ _ => ReflectliteType.toType t)) Tryz.func119 (by kernel_rfl) (by kernel_rfl) (by kernel_rfl) (by kernel_rfl)
  have h85 := @run_callFunc_extern Tryz.prog 120 _ (ReflectliteValue.method (ReflectliteValue.valueError "reflectlite.Value.IsNil" 0) ReflectliteValue.isNil) Tryz.func120 (by kernel_rfl) (by kernel_rfl) (by kernel_rfl) (by kernel_rfl)
  have h112 := @run_callFunc_extern Tryz.prog 186 _ (ReflectliteType.abiMethod fun t => do pure (.int .u8 (← Rtype.kind t))) Tryz.func186 (by kernel_rfl) (by kernel_rfl) (by kernel_rfl) (by kernel_rfl)
  have h127 := @run_callFunc_extern Tryz.prog 200 _ (ReflectliteType.method ReflectliteType.elem) Tryz.func200 (by kernel_rfl) (by kernel_rfl) (by kernel_rfl) (by kernel_rfl)
  have h128 := @run_callFunc_extern Tryz.prog 201 _ (ReflectliteType.relation "Implements" ReflectliteType.implements_) Tryz.func201 (by kernel_rfl) (by kernel_rfl) (by kernel_rfl) (by kernel_rfl)
  have f83 := fx_valueOf
  have f84 := fx_type
  have mK := fx_methodKind
  have mE := fx_methodElem
  have mI := fx_methodImplements
  have kPP := fx_kindPP
  have kP := fx_kindP
  have eP := fx_elem
  have iP := fx_implements
  have hlt : 0 < w.heap.size := World.block_lt_of_cell? w _ hg
  have htl := World.block_lt_of_cell? w t ht0
  have n8 := fx_isNil ⟨w.heap.size, 0, none⟩ t ((w.alloc (.cells #[.pointer (some t)] 162)).alloc (.cells #[.pointer (some ⟨5, 162, none⟩), .pointer (some ⟨w.heap.size, 0, none⟩), .int .u64 150] 182)) (by simp)
  have hg2 : ((w.alloc (.cells #[.pointer (some t)] 162)).alloc (.cells #[.pointer (some ⟨5, 162, none⟩), .pointer (some ⟨w.heap.size, 0, none⟩), .int .u64 150] 182)).cell? ⟨0, 0, none⟩ = some (.iface 204 (.agg #[.pointer (some ⟨5, 42, none⟩)])) := by
    rw [World.cell?_alloc_lt _ _ ⟨0, 0, none⟩ (by simp <;> omega), World.cell?_alloc_lt _ _ ⟨0, 0, none⟩ hlt]; exact hg
  have hin := as_any E v w0 ((w.alloc (.cells #[.pointer (some t)] 162)).alloc (.cells #[.pointer (some ⟨5, 162, none⟩), .pointer (some ⟨w.heap.size, 0, none⟩), .int .u64 150] 182)) hE (bel_al (bel_al hw _) _) hne t ⟨w.heap.size, 0, none⟩ old
    (by rw [World.cell?_alloc_lt _ _ ⟨w.heap.size, 0, none⟩ (by simp)]; simp)
    (by rw [World.cell?_alloc_lt _ _ t (by simp; omega), World.cell?_alloc_lt _ _ t htl]; exact ht0)
    (by rw [World.frozen?_alloc_old _ _ t (by simp; omega), World.frozen?_alloc_old _ _ t (Nat.ne_of_lt htl)]; exact hf0)
  have HIN := Lib.hid hin
  obtain ⟨T, x, rfl⟩ := Err.At.iface_ hE hne
  clear hin hE hne ht0 hf0 hw
  go_enter Tryz.func98, Tryz.ntmps98
  go_wp2_with (go_at_call 121; refine HIN.out.mono ?_)
  intro ev w' hp
  have HP := Lib.hid hp
  rcases hp with ⟨c, a, s, g, h1, rfl, h2, rfl⟩ | ⟨h1, rfl, rfl⟩
  · clear h1 h2
    go_wp2
    go_ret
    exact ⟨_, _, HP.out, rfl, rfl⟩
  · clear h1
    go_wp2
    go_ret
    exact ⟨_, _, HP.out, rfl, rfl⟩

/-- What errors.As leaves, its target the one cell t. -/
def AsDone (E : Err) (w0 w : World) (t : Addr) (old : Value) (ev : Ending) (w' : World) : Prop :=
  Below t.block w w' ∧
  ((∃ c a s g, E.flt? = some (c, a, s) ∧ ev = .returned (.bool true) ∧ Blk w0 g 107 #[.int .i64 c, .int .i64 a, .string s] ∧ w'.cell? t = some (.pointer (some ⟨g, 0, none⟩))) ∨
   (E.flt? = none ∧ ev = .returned (.bool false) ∧ w'.cell? t = some old))

theorem As_done (E : Err) (v : Value) (w0 w : World) (hE : E.At w0 v) (hw : Below w0.heap.size w0 w) (t : Addr) (old : Value) (hg : ErrT w) (ht0 : w.cell? t = some old) (hf0 : w.frozen? t = false) :
    Calls Tryz.prog 98 #[v, .iface 162 (.pointer (some t))] w (AsDone E w0 w t old) := by
  have htl := World.block_lt_of_cell? w t ht0
  by_cases hne : E = .nil
  · subst hne
    obtain rfl : v = .nilIface := hE
    refine (as_nil _ _).mono ?_
    rintro ev w' ⟨rfl, rfl⟩
    exact ⟨Below.refl _ _, .inr ⟨rfl, rfl, ht0⟩⟩
  · refine (As_any E v w0 w hE hw hne t old hg ht0 hf0).mono ?_
    rintro ev w' ⟨W, W1, hp, hW, hW1⟩
    have hb : Below w.heap.size w W1 := by rw [hW1, hW]; exact bel_al (bel_al (bel_al (Below.refl _ _) _) _) _
    have hc : W1.cell? t = some old := (hb.cell htl).trans ht0
    rcases hp with ⟨c, a, s, g, h1, rfl, h2, rfl⟩ | ⟨h1, rfl, rfl⟩
    · refine ⟨((bel_al hb _).mono (Nat.le_of_lt htl)).setCell (Nat.le_refl _) _, .inl ⟨c, a, s, g, h1, rfl, h2, ?_⟩⟩
      exact World.cell?_setCell_same _ _ _ (((bel_al hb _).cell htl).trans ht0)
    · exact ⟨hb.mono (Nat.le_of_lt htl), .inr ⟨h1, rfl, hc⟩⟩

/-- fault.fault: a pointer to the chain's first fault, or none. -/
def FaultPost (E : Err) (w : World) (ev : Ending) (w' : World) : Prop :=
  Below w.heap.size w w' ∧
  ((∃ c a s g, E.flt? = some (c, a, s) ∧ ev = .returned (.pointer (some ⟨g, 0, none⟩)) ∧ Blk w' g 107 #[.int .i64 c, .int .i64 a, .string s]) ∨ (E.flt? = none ∧ ev = .returned (.pointer none)))

theorem fault_any (E : Err) (v : Value) (w : World) (hE : E.At w v) (hg : ErrT w) : Calls Tryz.prog 60 #[v] w (FaultPost E w) := by
  have hb0 := bel_al (Below.refl w.heap.size w) (.cells #[.pointer none] 104)
  have HA := Lib.hid (As_done E v w _ hE hb0 ⟨w.heap.size, 0, none⟩ (.pointer none) (hg.keep hb0) (by simp) (by simp))
  have HE := Lib.hid hE
  clear hE hb0
  go_enter Tryz.func60, Tryz.ntmps60
  go_wp2_with (go_at_call 98; refine HA.out.mono ?_)
  rintro ev w' ⟨hb, hp⟩
  have hb' : Below w.heap.size w w' := (bel_al (Below.refl _ _) _).trans hb
  rcases hp with ⟨c, a, s, g, h1, rfl, h2, h3⟩ | ⟨h1, rfl, h3⟩
  · have H1 := Lib.hid h1
    have H2 := Lib.hid h2
    clear h1 h2
    go_wp2
    go_ret
    exact ⟨hb', .inl ⟨c, a, s, g, H1.out, rfl, H2.out.keep hb'⟩⟩
  · have H1 := Lib.hid h1
    clear h1
    go_wp2
    go_ret
    exact ⟨hb', .inr ⟨H1.out, rfl⟩⟩

theorem Code_any (E : Err) (v : Value) (w : World) (hE : E.At w v) (hg : ErrT w) :
    Calls Tryz.prog 21 #[v] w fun e w' => e = .returned (.int .i64 E.code) ∧ Below w.heap.size w w' := by
  by_cases hne : E = .nil
  · subst hne
    obtain rfl : v = .nilIface := hE
    refine (Code_nil w).mono ?_
    rintro e w' ⟨rfl, rfl⟩
    exact ⟨rfl, Below.refl _ _⟩
  · have hcode := Err.code_of E hne w v hE
    have HC := Lib.hid hcode
    have HA := Lib.hid (fault_any E v w hE hg)
    obtain ⟨T, x, rfl⟩ := Err.At.iface_ hE hne
    clear hE hcode hne
    go_enter Tryz.func21, Tryz.ntmps21
    go_wp2_with (go_at_call 60; refine HA.out.mono ?_)
    rintro ev w' ⟨hb, hp⟩
    rcases hp with ⟨c, a, s, g, h1, rfl, h2⟩ | ⟨h1, rfl⟩
    · have H1 := Lib.hid h1
      have hc0 := h2.cell 0
      simp at hc0
      clear h1 h2
      go_wp2
      go_ret
      exact ⟨by rw [HC.out, H1.out]; rfl, hb⟩
    · have H1 := Lib.hid h1
      clear h1
      go_wp2
      go_ret
      exact ⟨by rw [HC.out, H1.out]; rfl, hb⟩

end Go.Proofs.YtmonepclhbappaaGreatDoor
/-
  Bytes, words, sums and parcels, plainly: no program in sight.
-/
namespace Go.Proofs.YtmonepclhbappaaGreatDoor

/-- A list of bytes. -/
def Bys (l : List Int) : Prop := ∀ x ∈ l, 0 ≤ x ∧ x ≤ 255
theorem Bys.nil : Bys [] := fun _ h => absurd h (by simp)
theorem Bys.append {a b : List Int} (ha : Bys a) (hb : Bys b) : Bys (a ++ b) := fun x hx => (List.mem_append.1 hx).elim (ha x) (hb x)
theorem Bys.left {a b : List Int} (h : Bys (a ++ b)) : Bys a := fun x hx => h x (List.mem_append_left _ hx)
theorem Bys.right {a b : List Int} (h : Bys (a ++ b)) : Bys b := fun x hx => h x (List.mem_append_right _ hx)
theorem Bys.take {a : List Int} (h : Bys a) (k : Nat) : Bys (a.take k) := fun x hx => h x (List.mem_of_mem_take hx)
theorem Bys.drop {a : List Int} (h : Bys a) (k : Nat) : Bys (a.drop k) := fun x hx => h x (List.mem_of_mem_drop hx)
theorem Bys.cons {x : Int} {a : List Int} (h0 : 0 ≤ x) (h1 : x ≤ 255) (h : Bys a) : Bys (x :: a) := fun y hy => by
  rcases List.mem_cons.1 hy with rfl | hy
  · exact ⟨h0, h1⟩
  · exact h y hy
theorem Bys.set {a : List Int} (h : Bys a) (k : Nat) {x : Int} (h0 : 0 ≤ x) (h1 : x ≤ 255) : Bys (a.set k x) := fun y hy => by
  rcases List.mem_or_eq_of_mem_set hy with hy | rfl
  · exact h y hy
  · exact ⟨h0, h1⟩

/-- A number's 4 bytes, the highest first. -/
def wordL (n : Nat) : List Int := [((n / 16777216 % 256 : Nat) : Int), ((n / 65536 % 256 : Nat) : Int), ((n / 256 % 256 : Nat) : Int), ((n % 256 : Nat) : Int)]
theorem wordL_len (n : Nat) : (wordL n).length = 4 := rfl
theorem wordL_bys (n : Nat) : Bys (wordL n) := by
  intro x hx
  simp only [wordL, List.mem_cons, List.not_mem_nil, or_false] at hx
  rcases hx with rfl | rfl | rfl | rfl <;> omega
/-- 4 bytes as a number. -/
def wordN : List Int → Nat
  | a :: b :: c :: d :: _ => a.toNat * 16777216 + b.toNat * 65536 + c.toNat * 256 + d.toNat
  | _ => 0
theorem wordN_of {n : Nat} (h : n < 4294967296) (r : List Int) : wordN (wordL n ++ r) = n := by
  simp only [wordL, List.cons_append, List.nil_append, wordN, Int.toNat_natCast]
  omega
theorem wordN_lt : ∀ {l : List Int}, Bys l → wordN l < 4294967296
  | a :: b :: c :: d :: _, h => by
    have h1 := h a (by simp)
    have h2 := h b (by simp)
    have h3 := h c (by simp)
    have h4 := h d (by simp)
    simp only [wordN]
    omega
  | [], _ => by simp [wordN]
  | [_], _ => by simp [wordN]
  | [_, _], _ => by simp [wordN]
  | [_, _, _], _ => by simp [wordN]
theorem four : ∀ {l : List Int}, 4 ≤ l.length → ∃ a b c d, l.take 4 = [a, b, c, d] ∧ l = a :: b :: c :: d :: l.drop 4
  | a :: b :: c :: d :: r, _ => ⟨a, b, c, d, rfl, rfl⟩
  | [], h => by simp at h
  | [_], h => by simp at h
  | [_, _], h => by simp at h
  | [_, _, _], h => by simp at h
theorem wordL_of {l : List Int} (h : Bys l) (hl : 4 ≤ l.length) : wordL (wordN l) = l.take 4 := by
  obtain ⟨a, b, c, d, h4, he⟩ := four hl
  rw [he] at h
  have h1 := h a (by simp)
  have h2 := h b (by simp)
  have h3 := h c (by simp)
  have h5 := h d (by simp)
  rw [h4, he]
  simp only [wordN, wordL]
  congr 1
  · omega
  · congr 1
    · omega
    · congr 1
      · omega
      · congr 1; omega
theorem wordN_take {l : List Int} (hl : 4 ≤ l.length) : wordN (l.take 4) = wordN l := by
  obtain ⟨a, b, c, d, h4, he⟩ := four hl
  rw [h4]
  conv => rhs; rw [he]
  rfl
theorem wordN_inj {l r : List Int} (h : Bys l) (hr : Bys r) (hl : 4 ≤ l.length) (hlr : 4 ≤ r.length) (e : wordN l = wordN r) : l.take 4 = r.take 4 := by
  rw [← wordL_of h hl, ← wordL_of hr hlr, e]

/-- A byte more in a sum. -/
def sstep (s : Nat × Nat) (c : Int) : Nat × Nat := ((s.1 + c.toNat) % 65521, (s.2 + (s.1 + c.toNat) % 65521) % 65521)
def sumS (l : List Int) : Nat × Nat := l.foldl sstep (1, 0)
theorem sumS_snoc (l : List Int) (c : Int) : sumS (l ++ [c]) = sstep (sumS l) c := by simp [sumS, List.foldl_append]
theorem sumS_lt (l : List Int) : (sumS l).1 < 65521 ∧ (sumS l).2 < 65521 := by
  have : ∀ (l : List Int) (s : Nat × Nat), s.1 < 65521 → s.2 < 65521 → (l.foldl sstep s).1 < 65521 ∧ (l.foldl sstep s).2 < 65521 := by
    intro l
    induction l with
    | nil => intro s h1 h2; exact ⟨h1, h2⟩
    | cons c l ih => intro s h1 h2; exact ih _ (Nat.mod_lt _ (by omega)) (Nat.mod_lt _ (by omega))
  exact this l (1, 0) (by decide) (by decide)
/-- The sum of bytes. -/
def sumL (l : List Int) : Nat := (sumS l).2 * 65536 + (sumS l).1
theorem sumL_lt (l : List Int) : sumL l < 4294967296 := by
  have := sumS_lt l
  unfold sumL; omega
def tot : List Int → Nat
  | [] => 0
  | c :: l => c.toNat + tot l
theorem tot_append : ∀ a b, tot (a ++ b) = tot a + tot b
  | [], b => by simp [tot]
  | c :: a, b => by rw [List.cons_append, tot, tot, tot_append a b]; omega
theorem sumS_fst (l : List Int) : (sumS l).1 = (1 + tot l) % 65521 := by
  have : ∀ (l : List Int) (s : Nat × Nat), s.1 < 65521 → (l.foldl sstep s).1 = (s.1 + tot l) % 65521 := by
    intro l
    induction l with
    | nil => intro s h1; simp only [List.foldl_nil, tot]; omega
    | cons c l ih =>
      intro s h1
      rw [List.foldl_cons, ih _ (Nat.mod_lt _ (by omega)), tot]
      simp only [sstep]
      omega
  exact this l (1, 0) (by decide)
theorem sumL_fst {a b : List Int} (h : sumL a = sumL b) : (sumS a).1 = (sumS b).1 := by
  have h1 := sumS_lt a
  have h2 := sumS_lt b
  unfold sumL at h
  omega
/-- One byte turned: another sum. -/
theorem sumL_turn (a b : List Int) (x y : Int) (hx : 0 ≤ x ∧ x ≤ 255) (hy : 0 ≤ y ∧ y ≤ 255) (hne : x ≠ y) : sumL (a ++ x :: b) ≠ sumL (a ++ y :: b) := by
  intro h
  have := sumL_fst h
  rw [sumS_fst, sumS_fst, tot_append, tot_append, tot, tot] at this
  omega

/-- FWRK. -/
def fwrk : List Int := [70, 87, 82, 75]
/-- What the sum is of. -/
def preL (kind : Int) (body : List Int) : List Int := fwrk ++ kind :: (wordL body.length ++ body)
/-- A parcel. -/
def packL (kind : Int) (body : List Int) : List Int := preL kind body ++ wordL (sumL (preL kind body))
theorem preL_len (kind : Int) (body : List Int) : (preL kind body).length = body.length + 9 := by simp [preL, fwrk, wordL]
theorem packL_len (kind : Int) (body : List Int) : (packL kind body).length = body.length + 13 := by rw [packL, List.length_append, preL_len, wordL_len]
theorem preL_bys {kind : Int} {body : List Int} (hk : 0 ≤ kind ∧ kind ≤ 255) (hb : Bys body) : Bys (preL kind body) :=
  Bys.append (by unfold fwrk Bys; intro x hx; simp only [List.mem_cons, List.not_mem_nil, or_false] at hx; rcases hx with rfl | rfl | rfl | rfl <;> omega) (Bys.cons hk.1 hk.2 ((wordL_bys _).append hb))
theorem packL_bys {kind : Int} {body : List Int} (hk : 0 ≤ kind ∧ kind ≤ 255) (hb : Bys body) : Bys (packL kind body) := (preL_bys hk hb).append (wordL_bys _)

/-- What is wrong with a parcel: nothing (0), its beginning (1), its end (2), its length: too long (3), too short (4), its sum (5). -/
def unW (b : List Int) : Nat :=
  if 4 ≤ b.length ∧ b.take 4 ≠ fwrk then 1
  else if b.length < 13 then 2
  else if b.length - 13 < wordN (b.drop 5) then 3
  else if wordN (b.drop 5) < b.length - 13 then 4
  else if wordN (b.drop (9 + wordN (b.drop 5))) ≠ sumL (b.take (9 + wordN (b.drop 5))) then 5
  else 0
theorem unW_ok {b : List Int} (hb : Bys b) (h : unW b = 0) : ∃ kind body, b = packL kind body ∧ body.length = wordN (b.drop 5) ∧ b[4]? = some kind ∧ (b.drop 9).take body.length = body ∧ 0 ≤ kind ∧ kind ≤ 255 ∧ Bys body := by
  unfold unW at h
  split at h
  · omega
  split at h
  · omega
  split at h
  · omega
  split at h
  · omega
  split at h
  · omega
  rename_i h1 h2 h3 h4 h5
  have hm : b.take 4 = fwrk := Decidable.byContradiction fun e => h1 ⟨by omega, e⟩
  have hn : wordN (b.drop 5) = b.length - 13 := by omega
  have h5 : wordN (b.drop (9 + wordN (b.drop 5))) = sumL (b.take (9 + wordN (b.drop 5))) := Decidable.byContradiction h5
  have hk : b[4]? = some b[4] := List.getElem?_eq_getElem (by omega)
  have hbl : ((b.drop 9).take (b.length - 13)).length = b.length - 13 := by rw [List.length_take, List.length_drop]; omega
  have hpre : b.take (9 + wordN (b.drop 5)) = preL b[4] ((b.drop 9).take (b.length - 13)) := by
    have hw := wordL_of (hb.drop 5) (by rw [List.length_drop]; omega)
    unfold preL
    rw [hbl, ← hm, ← hn, hw, hn]
    have e1 : b.take (9 + (b.length - 13)) = b.take 9 ++ (b.drop 9).take (b.length - 13) := List.take_add ..
    have e2 : b.take 9 = b.take 5 ++ (b.drop 5).take 4 := List.take_add (i := 5) (j := 4) ..
    have e3 : b.take 5 = b.take 4 ++ [b[4]] := List.take_succ_eq_append_getElem (by omega)
    rw [e1, e2, e3]
    simp only [List.append_assoc, List.cons_append, List.nil_append]
  refine ⟨b[4], (b.drop 9).take (b.length - 13), ?_, by rw [hbl, hn], hk, by rw [hbl], (hb _ (List.getElem_mem (by omega))).1, (hb _ (List.getElem_mem (by omega))).2, (hb.drop 9).take _⟩
  unfold packL
  rw [← hpre, ← h5, wordL_of (hb.drop _) (by rw [List.length_drop]; omega)]
  have e1 : (b.drop (9 + wordN (b.drop 5))).take 4 = b.drop (9 + wordN (b.drop 5)) := List.take_of_length_le (by rw [List.length_drop]; omega)
  rw [e1, List.take_append_drop]
theorem packL_parts (kind : Int) (body : List Int) : (packL kind body).take 4 = fwrk ∧ (packL kind body).drop 5 = wordL body.length ++ (body ++ wordL (sumL (preL kind body))) ∧ (packL kind body).take (9 + body.length) = preL kind body ∧ (packL kind body).drop (9 + body.length) = wordL (sumL (preL kind body)) ∧ (packL kind body)[4]? = some kind ∧ ((packL kind body).drop 9).take body.length = body := by
  have hl := preL_len kind body
  refine ⟨rfl, ?_, ?_, ?_, rfl, ?_⟩
  · show (fwrk ++ kind :: (wordL body.length ++ body) ++ wordL (sumL (preL kind body))).drop 5 = _
    rw [List.append_assoc, List.cons_append, List.append_assoc]
    rfl
  · exact List.take_left' (by omega)
  · exact List.drop_left' (by omega)
  · show ((fwrk ++ kind :: (wordL body.length ++ body) ++ wordL (sumL (preL kind body))).drop 9).take body.length = _
    rw [List.append_assoc, List.cons_append, List.append_assoc]
    show ((body ++ wordL (sumL (preL kind body)))).take body.length = _
    exact List.take_left
theorem unW_pack (kind : Int) (body : List Int) (h : body.length < 4294967296) : unW (packL kind body) = 0 := by
  obtain ⟨h1, h2, h3, h4, _, _⟩ := packL_parts kind body
  have hl := packL_len kind body
  have hw : wordN ((packL kind body).drop 5) = body.length := by rw [h2, wordN_of h]
  unfold unW
  rw [hw, h1, h3, h4, hl]
  have hs : wordN (wordL (sumL (preL kind body))) = sumL (preL kind body) := by
    have := wordN_of (sumL_lt (preL kind body)) []
    rwa [List.append_nil] at this
  rw [hs, if_neg (by simp), if_neg (by omega), if_neg (by omega), if_neg (by omega), if_neg (by simp)]
end Go.Proofs.YtmonepclhbappaaGreatDoor
