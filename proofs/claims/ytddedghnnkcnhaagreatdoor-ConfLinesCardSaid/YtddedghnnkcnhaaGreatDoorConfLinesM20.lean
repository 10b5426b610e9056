/-
  Part 20 of the proof of ConfLines: CfP, PgE, ConfT.
-/
import Derived.BigQuiet
import Derived.Laws.OwnMore
import Derived.Test.YtddedghnnkcnhaaGreatDoorConfLinesM15
import Derived.Test.YtddedghnnkcnhaaGreatDoorConfLinesM19
import Derived.Test.YtddedghnnkcnhaaGreatDoorConfLinesM17
import Derived.Test.YtddedghnnkcnhaaGreatDoorConfLinesM18
/-
  conf: the walk of Prog (slices.Clone, Grow, Concat of programs of tests).
-/
namespace Go.Proofs.YtddedghnnkcnhaaGreatDoor
open Go.RowKit Go.Proofs.YtddedghnnkcnhaaGreatDoor.Pg
attribute [local go_sem ↓] Go.wp_at_zero Go.wp_at_succ
set_option maxRecDepth 100000
set_option linter.unusedVariables false

set_option maxHeartbeats 2000000 in
theorem CloneP_own (p : List (Int × Int)) (A : Option Addr) (n c : Nat) (w : World) (hl : p.length = n) (hn : n ≤ 1000000) (hs : Sl w 2 A n (Rk.cells p)) :
    Calls Tryz.prog 127 #[.slice A n c] w fun e w' => ∃ v, e = .returned v ∧ w'.ownsRow w.heap.size 94 2 v n (Rk.cells p) ∧ Below w.heap.size w w' := by
  have nn := fun (w : World) (a : Option Addr) (n c : Nat) => Lib.run_eql_slice_nil (P := Tryz.prog) w 78 94 a n c 0 0 Tryz.underlying78
  have HS := Lib.hid hs
  go_enter Tryz.func127, Tryz.ntmps127
  rcases A with _ | A
  · have hn0 : n = 0 := by
      rcases Nat.eq_zero_or_pos n with h | h
      · exact h
      · obtain ⟨_, _, h, _⟩ := hs.2 h; cases h
    subst hn0
    clear hs
    go_wp2_with fail
    go_ret
    obtain rfl := List.eq_nil_of_length_eq_zero hl
    exact ⟨_, rfl, World.ownsRow_nil _ _ _ _, Below.refl _ _⟩
  · have hbA := bel_al (Below.refl w.heap.size w) (.cells #[] 94)
    have HOE := Lib.hid (World.ownsRow_made (e := 94) (size := 2) w #[] 0 (Nat.le_refl _) (Nat.zero_le _) rfl)
    have HBA := Lib.hid hbA
    have SPA := Lib.hid (HS.out.keep hbA)
    clear hs hbA
    go_wp2_with (at_builtin; refine wpList_cat_at elemOp _ _ rfl rfl HOE.out HBA.out.size SPA.out rfl rfl (cells_one p) (by unfold lim; omega) (by unfold lim; omega) ?_; intro v8 w8 hown8 hg8; have HO8 := Lib.hid hown8; have HB8 := Lib.hid (HBA.out.trans (hg8.belowOwn HBA.out.size HOE.out)); clear hown8 hg8 HOE HBA SPA)
    go_ret
    have hown := HO8.out
    rw [List.nil_append, Nat.zero_add] at hown
    exact ⟨_, rfl, hown, HB8.out⟩
def growP_ren : Go.Shelf.Ren := ⟨fun | 4 => 182 | n => n, fun | 22 => 78 | 25 => 94 | 3 => 3 | 4 => 4 | 9 => 9 | 20 => 20 | 0 => 0 | n => n, fun | n => n⟩
theorem growP_lays : Go.Proofs.Lays8.n4 Tryz.prog growP_ren := {
  mixed := by kernel_rfl
  f4 := ⟨Tryz.f182.name, by kernel_rfl, Tryz.func182.trans (congrArg some (by kernel_rfl))⟩
  t0 := Tryz.underlying0
  a0 := Tryz.isAgg0
  z0 := Tryz.sizeOf0
  v0 := Tryz.zeroValue0
  t3 := Tryz.underlying3
  a3 := Tryz.isAgg3
  z3 := Tryz.sizeOf3
  v3 := Tryz.zeroValue3
  t4 := Tryz.underlying4
  a4 := Tryz.isAgg4
  z4 := Tryz.sizeOf4
  v4 := Tryz.zeroValue4
  t9 := Tryz.underlying9
  a9 := Tryz.isAgg9
  z9 := Tryz.sizeOf9
  v9 := Tryz.zeroValue9
  t20 := Tryz.underlying20
  a20 := Tryz.isAgg20
  z20 := Tryz.sizeOf20
  v20 := Tryz.zeroValue20
  t22 := Tryz.underlying78
  a22 := Tryz.isAgg78
  z22 := Tryz.sizeOf78
  v22 := Tryz.zeroValue78 }

theorem GrowNilP_any (n : Nat) (w : World) (hn : n ≤ 1000000) :
    Calls Tryz.prog 182 #[.slice none 0 0, .int .i64 n] w fun e w' => ∃ v, e = .returned v ∧ w'.ownsRow w.heap.size 94 2 v 0 [] ∧ Below w.heap.size w w' := by
  rcases Nat.eq_zero_or_pos n with h | h
  · subst h
    refine (Go.Proofs.Any8.slices_Grow_room growP_lays none 0 0 0 w (Nat.le_refl _) (by omega) (by omega) (by omega)).mono ?_
    rintro e w' ⟨rfl, rfl⟩
    exact ⟨_, rfl, World.ownsRow_nil _ _ _ _, Below.refl _ _⟩
  · obtain ⟨i, hi, hz, hsize, hby⟩ := info_parts elemOp.hi
    refine (Go.Proofs.Any8.slices_Grow_grow growP_lays i (.agg #[.int .i64 0, .int .i64 0]) hi hz (by rw [hsize]; omega) none 0 0 n [] w (Nat.le_refl _) (by omega) (by rw [hby]; omega) (by omega) (by simp) (fun _ => rfl) (fun _ h => by cases h)).mono ?_
    rintro e w' ⟨rfl, rfl⟩
    have h1 := grownCap_ge w (0 + n) 0 (growP_ren.t 25)
    have h2 := grownCap_le_maxLen w (0 + n) 0 (growP_ren.t 25) (by unfold maxLen; omega)
    generalize grownCap w (0 + n) 0 (growP_ren.t 25) = G at *
    refine ⟨_, rfl, World.ownsRow_made (e := 94) (size := 2) w.drew _ _ (Nat.le_refl _) h2 ?_, bel_al (show Below w.heap.size w w.drew from drew_bel ⟨1, rfl⟩) _⟩
    simp only [List.toArray, Array.size_append, size_zeroCells]
    have h3 : (Value.agg #[.int .i64 0, .int .i64 0]).cells.size = 2 := rfl
    rw [h3]
    simp
    omega


/-- What some of two rows hold. -/
def pre2 (p q : List (Int × Int)) (k : Nat) : List (Int × Int) := if k = 0 then [] else if k = 1 then p else p ++ q
set_option maxHeartbeats 2000000 in
theorem ConcatP_any (p q : List (Int × Int)) (A1 A2 A : Option Addr) (n1 n2 c1 c2 c : Nat) (w : World) (hn1 : n1 ≤ 100000) (hn2 : n2 ≤ 100000) (hs : Sl w 1 A 2 [.slice A1 n1 c1, .slice A2 n2 c2]) (h1 : Sl w 2 A1 n1 (Rk.cells p)) (h2 : Sl w 2 A2 n2 (Rk.cells q)) :
    Calls Tryz.prog 126 #[.slice A 2 c] w fun e w' => ∃ v, e = .returned v ∧ w'.ownsRow w.heap.size 94 2 v (n1 + n2) (Rk.cells (p ++ q)) ∧ Below w.heap.size w w' := by
  have HS := Lib.hid hs
  have H1 := Lib.hid h1
  have H2 := Lib.hid h2
  have HL1 := Lib.hid h1.len2
  have HL2 := Lib.hid h2.len2
  clear hs h1 h2
  go_enter Tryz.func126, Tryz.ntmps126
  go_wp2_with fail
  go_loop [3, 11] (fun sv iv => ∃ k z : Nat, k ≤ 2 ∧ iv = .int .i64 (k : Int) ∧ sv = .int .i64 (z : Int) ∧ Hid (z = (pre2 p q k).length)) (fun _ iv => 2 - (intOf iv).toNat)
  case atStart => exact ⟨0, 0, Nat.zero_le _, rfl, rfl, Lib.hid rfl⟩
  case round =>
    obtain ⟨k, z, hk, rfl, rfl, HZ⟩ := hrel
    rcases (show k = 0 ∨ k = 1 ∨ k = 2 by omega) with rfl | rfl | rfl
    · obtain ⟨b, off, u, rfl, e1, c0⟩ := HS.out.one (k := 0) (by omega)
      obtain rfl : Value.slice A1 n1 c1 = u := Option.some.inj e1
      simp only [Nat.add_zero] at c0
      obtain rfl : z = 0 := HZ.out
      have hw2 : IntKind.i64.wrap (0 + (n1 : Int)) = (n1 : Int) := by rw [IntKind.wrap_i64]; omega
      have hw3 : IntKind.i64.wrap (n1 : Int) = (n1 : Int) := by rw [IntKind.wrap_i64]; omega
      have hneg : ¬ (n1 : Int) < 0 := by omega
      clear e1
      go_wp2_with fail
      go_round
      case rel => exact ⟨1, n1, by omega, by go_num, by go_num, Lib.hid HL1.out.symm⟩
      case measure => simp [intOf]
    · obtain ⟨b, off, u, rfl, e1, c0⟩ := HS.out.one (k := 1) (by omega)
      obtain rfl : Value.slice A2 n2 c2 = u := Option.some.inj e1
      obtain rfl : z = n1 := HZ.out.trans HL1.out
      have hw2 : IntKind.i64.wrap ((z : Int) + (n2 : Int)) = ((z + n2 : Nat) : Int) := by rw [IntKind.wrap_i64]; omega
      have hw4 : wrap64 ((z : Int) + (n2 : Int)) = ((z + n2 : Nat) : Int) := by unfold wrap64; omega
      have hneg : ¬ ((z + n2 : Nat) : Int) < 0 := by omega
      clear e1
      go_wp2_with fail
      go_round
      case rel => exact ⟨2, z + n2, by omega, by go_num, by go_num, Lib.hid (by show _ = (p ++ q).length; rw [List.length_append, HL1.out, HL2.out])⟩
      case measure => simp [intOf]
    · obtain rfl : z = n1 + n2 := HZ.out.trans (by show (p ++ q).length = _; rw [List.length_append, HL1.out, HL2.out])
      have HG := Lib.hid (GrowNilP_any (n1 + n2) w (by omega))
      rw [show (((n1 + n2 : Nat)) : Int) = (n1 : Int) + (n2 : Int) from by omega] at HG ⊢
      go_wp2_with fail
      refine HG.out.mono ?_
      rintro e w1 ⟨v, rfl, hown, hb1⟩
      have HO := Lib.hid hown
      have HB := Lib.hid hb1
      clear hown hb1
      go_wp2_with fail
      go_loopw [6, 27] (fun nv iv wr => ∃ (j : Nat), j ≤ 2 ∧ iv = .int .i64 (j : Int) ∧ wr.ownsRow w.heap.size 94 2 nv (pre2 p q j).length (Rk.cells (pre2 p q j)) ∧ Below w.heap.size w wr) (fun _ iv _ => 2 - (intOf iv).toNat)
      case atStart => exact ⟨0, Nat.zero_le _, rfl, HO.out, HB.out⟩
      case round =>
        obtain ⟨j, hj, rfl, hown, hb⟩ := hrel
        clear HO HB
        have HO := Lib.hid hown
        have HB := Lib.hid hb
        clear hown hb
        rcases (show j = 0 ∨ j = 1 ∨ j = 2 by omega) with rfl | rfl | rfl
        · obtain ⟨b, off, u, rfl, e1, c0⟩ := (HS.out.keep HB.out).one (k := 0) (by omega)
          obtain rfl : Value.slice A1 n1 c1 = u := Option.some.inj e1
          simp only [Nat.add_zero] at c0
          have HR1 := Lib.hid (H1.out.keep HB.out)
          have HO' := Lib.hid (show wr.ownsRow w.heap.size 94 2 _ 0 [] from HO.out)
          clear e1
          go_wp2_with (at_builtin; refine wpList_cat_at elemOp _ _ rfl rfl HO'.out HB.out.size HR1.out rfl rfl (cells_one p) (by unfold lim; omega) (by unfold lim; omega) ?_; intro v8 w8 hown8 hg8; have HO8 := Lib.hid hown8; have HB8 := Lib.hid (HB.out.trans (hg8.belowOwn HB.out.size HO'.out)); clear hown8 hg8)
          go_roundw
          case rel => exact ⟨1, by omega, by go_num, by have h := HO8.out; rw [Nat.zero_add, List.nil_append, ← HL1.out] at h; exact h, HB8.out⟩
          case measure => simp [intOf]
        · obtain ⟨b, off, u, rfl, e1, c0⟩ := (HS.out.keep HB.out).one (k := 1) (by omega)
          obtain rfl : Value.slice A2 n2 c2 = u := Option.some.inj e1
          have HR2 := Lib.hid (H2.out.keep HB.out)
          have HO' := Lib.hid (show wr.ownsRow w.heap.size 94 2 _ n1 (Rk.cells p) from by have h := HO.out; rw [show (pre2 p q 1).length = n1 from HL1.out] at h; exact h)
          clear e1
          go_wp2_with (at_builtin; refine wpList_cat_at elemOp _ _ rfl rfl HO'.out HB.out.size HR2.out rfl rfl (cells_one q) (by unfold lim; omega) (by unfold lim; omega) ?_; intro v8 w8 hown8 hg8; have HO8 := Lib.hid hown8; have HB8 := Lib.hid (HB.out.trans (hg8.belowOwn HB.out.size HO'.out)); clear hown8 hg8)
          go_roundw
          case rel => exact ⟨2, by omega, by go_num, by have h := HO8.out; rw [show (pre2 p q 2).length = n1 + n2 from by show (p ++ q).length = _; rw [List.length_append, HL1.out, HL2.out], show Rk.cells (pre2 p q 2) = Rk.cells p ++ Rk.cells q from by show Rk.cells (p ++ q) = _; unfold Rk.cells; rw [List.flatMap_append]]; exact h, HB8.out⟩
          case measure => simp [intOf]
        · have HO' := Lib.hid (show wr.ownsRow w.heap.size 94 2 _ (n1 + n2) (Rk.cells (p ++ q)) from by have h := HO.out; rw [show (pre2 p q 2).length = n1 + n2 from by show (p ++ q).length = _; rw [List.length_append, HL1.out, HL2.out]] at h; exact h)
          go_wp2_with fail
          go_ret
          exact ⟨_, rfl, HO'.out, HB.out⟩
/-- What a job keeps. -/
def progC (c : Cf.CF) : List (Int × Int) := if c.kind = 2 then (1, 0) :: c.keep else c.keep
set_option maxHeartbeats 1000000 in
theorem CfProg_any (c : Cf.CF) (A : Option Addr) (n d : Nat) (w : World) (hn : n ≤ 1000) (hl : c.keep.length = n) (hs : Sl w 2 A n (Rk.cells c.keep)) :
    Calls Tryz.prog 54 #[confV c A n d] w fun e w' => ∃ v, e = .returned v ∧ w'.ownsRow w.heap.size 94 2 v (progC c).length (Rk.cells (progC c)) ∧ Below w.heap.size w w' := by
  have HB0 := Lib.hid (bel_al (Below.refl w.heap.size w) (.cells #[.int .i64 c.kind, .int .i64 c.size, .int .i64 c.sup, .int .i64 c.wk, .int .i64 c.cap, .slice A n d] 80))
  have HC := Lib.hid (CloneP_own c.keep A n d (w.alloc (.cells #[.int .i64 c.kind, .int .i64 c.size, .int .i64 c.sup, .int .i64 c.wk, .int .i64 c.cap, .slice A n d] 80)) hl (by omega) (hs.keep HB0.out))
  by_cases h2 : c.kind = 2
  · have HP := Lib.hid (show progC c = [(1, 0)] ++ c.keep from by unfold progC; rw [if_pos h2]; rfl)
    obtain ⟨w1, hw1⟩ : ∃ W, W = (w.alloc (.cells #[.int .i64 c.kind, .int .i64 c.size, .int .i64 c.sup, .int .i64 c.wk, .int .i64 c.cap, .slice A n d] 80)).alloc (.cells #[.int .i64 1, .int .i64 0] 94) := ⟨_, rfl⟩
    obtain ⟨w2, hw2⟩ : ∃ W, W = w1.alloc (.cells #[.slice (some ⟨w.heap.size + 1, 0, none⟩) 1 1, .slice A n d] 78) := ⟨_, rfl⟩
    have hz1 : w1.heap.size = w.heap.size + 2 := by rw [hw1]; simp
    have HB1 := Lib.hid (show Below w.heap.size w w1 from by rw [hw1]; exact bel_al HB0.out _)
    have HB2 := Lib.hid (show Below w.heap.size w w2 from by rw [hw2]; exact bel_al HB1.out _)
    have HCo := Lib.hid (ConcatP_any [(1, 0)] c.keep (some ⟨w.heap.size + 1, 0, none⟩) A (some ⟨w.heap.size + 2, 0, none⟩) 1 n 1 d 2 w2 (by omega) (by omega) (by
      rw [hw2, ← hz1]
      exact Sl.newAt w1 [.slice (some ⟨w.heap.size + 1, 0, none⟩) 1 1, .slice A n d] 78 2 rfl) (by
      rw [hw2, hw1]
      have h := Sl.of_own (World.ownsRow_lit (base := 0) (e := 94) (size := 2) (w.alloc (.cells #[.int .i64 c.kind, .int .i64 c.size, .int .i64 c.sup, .int .i64 c.wk, .int .i64 c.cap, .slice A n d] 80)) #[.int .i64 1, .int .i64 0] 1 (Nat.zero_le _) (by unfold maxLen; omega) rfl)
      rw [World.size_alloc] at h
      exact h.alloc _) (hs.keep HB2.out))
    rw [hw2, hw1] at HCo HB2
    have HL := Lib.hid hl
    clear hs hl HC hw1 hw2 hz1 HB1
    obtain ⟨kd, sz, sp, wk, cp, kp⟩ := c
    simp only at h2 HP HCo HL HB2 HB0 ⊢
    subst h2
    go_enter Tryz.func54, Tryz.ntmps54
    go_wp2_with (go_at_call 126; refine HCo.out.mono ?_; clear HCo; rintro e w3 ⟨v, rfl, hown, hb3⟩; have HO := Lib.hid hown; have HB3 := Lib.hid (HB2.out.andThen hb3); clear hown hb3)
    go_ret
    refine ⟨v, rfl, ?_, HB3.out⟩
    have h := own_mono HO.out (show w.heap.size ≤ _ from HB2.out.size)
    rw [HP.out, List.length_append, HL.out]
    exact h
  · have HP := Lib.hid (show progC c = c.keep from by unfold progC; rw [if_neg h2])
    have h2' : (c.kind == 2) = false := by simpa using h2
    have HL := Lib.hid hl
    clear hs hl h2
    obtain ⟨kd, sz, sp, wk, cp, kp⟩ := c
    simp only at h2' HP HC HL HB0 ⊢
    go_enter Tryz.func54, Tryz.ntmps54
    go_wp2_with (go_at_call 127; refine HC.out.mono ?_; clear HC; rintro e w3 ⟨v, rfl, hown, hb3⟩; have HO := Lib.hid hown; have HB3 := Lib.hid (HB0.out.andThen hb3); clear hown hb3)
    go_ret
    refine ⟨v, rfl, ?_, HB3.out⟩
    have h := own_mono HO.out (show w.heap.size ≤ _ from HB0.out.size)
    rw [HP.out, HL.out]
    exact h
end Go.Proofs.YtddedghnnkcnhaaGreatDoor
/-
  The document's text of a program of tests.
-/
namespace Go.Proofs.YtddedghnnkcnhaaGreatDoor
open Go.RowKit Go.Proofs.YtddedghnnkcnhaaGreatDoor.Pg
attribute [local go_sem ↓] Go.wp_at_zero Go.wp_at_succ
set_option maxRecDepth 100000
set_option linter.unusedVariables false

theorem join_snoc (c : List UInt8) : ∀ (r : List (List UInt8)) (x : List UInt8), Lib.join (r ++ [x]) c = Lib.join r c ++ (if r = [] then [] else c) ++ x
  | [], x => by
    rw [List.nil_append, Lib.join_cons]
    show x ++ Lib.joinTail c [] = _
    unfold Lib.joinTail
    simp [Lib.join]
  | y :: r, x => by
    rw [List.cons_append, Lib.join_cons, Lib.join_cons, if_neg (by simp)]
    unfold Lib.joinTail
    simp
theorem textG_snoc (q : List (Int × Int)) (o : Int × Int) : textG (q ++ [o]) = textG q ++ (if q = [] then [] else [59]) ++ opL o := by
  unfold textG
  rw [List.map_append]
  show Lib.join (q.map opL ++ [opL o]) [59] = _
  rw [join_snoc]
  cases q <;> simp
theorem textG_len (q : List (Int × Int)) (h : ∀ o ∈ q, opOK o) : (textG q).length ≤ q.length * 31 := by
  unfold textG
  have := joinC_len 59 (q.map opL) 30 (fun b hb => by
    obtain ⟨o, ho, rfl⟩ := List.mem_map.1 hb
    exact opL_len (h o ho).1 ⟨by have := (h o ho).2.1; omega, by have := (h o ho).2.1; omega⟩)
  rwa [List.length_map] at this
def names9 : List ByteArray := ⟨#[]⟩ :: namesB
theorem names9_at : ∀ {k : Int}, 1 ≤ k → k ≤ 8 → names9[k.toNat]? = some (bz (nameL k)) :=
  fun {k} h1 h8 => nat8 (P := fun k => names9[k.toNat]? = some (bz (nameL k))) ⟨rfl, rfl, rfl, rfl, rfl, rfl, rfl, rfl⟩ h1 h8
set_option maxHeartbeats 8000000 in
theorem RefText17_any (p : List (Int × Int)) (A : Option Addr) (n c : Nat) (w : World) (hn : n ≤ 1000) (hs : Sl w 2 A n (Rk.cells p)) (hp : ∀ o ∈ p, opOK o) :
    Calls Tryz.prog 70 #[.slice A n c] w fun e w' => e = .returned (.string (bz (textG p))) ∧ Below w.heap.size w w' := by
  have HS := Lib.hid hs
  have HM := Lib.hid hs.len2
  have HP := Lib.hid hp
  clear hs hp
  go_enter Tryz.func70, Tryz.ntmps70
  go_upto_region 2 with (fail)
  obtain ⟨w0, hw0⟩ : ∃ w0, w0 = w.alloc (.cells (names9.map Value.string).toArray 9) := ⟨_, rfl⟩
  have HB0 := Lib.hid (show Below w.heap.size w w0 from by rw [hw0]; exact bel_al (Below.refl _ _) _)
  have HK0 := Lib.hid (show Blk w0 w.heap.size 9 (names9.map Value.string).toArray from by rw [hw0]; exact Blk.new _ _ _)
  rw [show w.alloc (.cells #[.string ⟨#[]⟩, .string ⟨#[99, 108, 105, 113, 117, 101]⟩, .string ⟨#[108, 97, 98, 101, 108, 115]⟩, .string ⟨#[100, 101, 103, 114, 101, 101]⟩, .string ⟨#[115, 105, 122, 101]⟩, .string ⟨#[101, 100, 103, 101, 115]⟩, .string ⟨#[117, 110, 108, 105, 107, 101]⟩, .string ⟨#[111, 110, 108, 121]⟩, .string ⟨#[102, 114, 101, 101]⟩] 9) = w0 from hw0.symm]
  have HSz := Lib.hid (show w0.heap.size = w.heap.size + 1 from by rw [hw0]; simp)
  clear hw0
  go_wp2_with fail
  go_loopw [4, 5] (fun sv iv wr => ∃ k : Nat, k ≤ n ∧ iv = .int .i64 (k : Int) ∧ sv = .string (bz (textG (p.take k))) ∧ Hid (Below w0.heap.size w0 wr)) (fun _ iv _ => n - (intOf iv).toNat)
  case atStart => exact ⟨0, Nat.zero_le _, rfl, rfl, Lib.hid (Below.refl _ _)⟩
  case round =>
    obtain ⟨k, hk, rfl, rfl, HB⟩ := hrel
    by_cases hlt : k < n
    · have hlt' : (k : Int) < (n : Int) := by omega
      have hk0 : (0 : Int) ≤ (k : Int) := by omega
      obtain ⟨⟨x, y⟩, he⟩ : ∃ e, p[k]? = some e := ⟨_, List.getElem?_eq_getElem (by rw [HM.out]; exact hlt)⟩
      obtain ⟨b1, off1, rfl, c0, c1⟩ := (HS.out.keep (HB0.out.andThen HB.out)).edge hlt he
      simp only at c0 c1
      have hok := HP.out _ (List.mem_of_getElem? he)
      have hx1 := hok.1.1
      have hx8 := hok.1.2
      have hy0 := hok.2.1.1
      have hy9 := hok.2.1.2
      simp only at hx1 hx8 hy0 hy9
      obtain ⟨u, rfl⟩ : ∃ u : Nat, y = (u : Int) := ⟨y.toNat, by omega⟩
      obtain ⟨i, rfl⟩ : ∃ i : Nat, x = (i : Int) := ⟨x.toNat, by omega⟩
      have HSl := Lib.hid (HS.out.keep (HB0.out.andThen HB.out))
      have cN := (HK0.out.below HB.out (by rw [HSz.out]; omega)).cell i
      rw [List.getElem?_toArray, List.getElem?_map, show names9[i]? = some (bz (nameL (i : Int))) from by have := names9_at hx1 hx8; rwa [Int.toNat_natCast] at this] at cN
      have hi9 : (i : Int) < 9 := by omega
      have hi0 : (0 : Int) ≤ (i : Int) := by omega
      have HE := Lib.hid (show textG (p.take (k + 1)) = textG (p.take k) ++ (if p.take k = [] then [] else [59]) ++ opL ((i : Int), (u : Int)) from by
        obtain ⟨h1, h2⟩ := List.getElem?_eq_some_iff.1 he
        rw [List.take_succ_eq_append_getElem h1, h2, textG_snoc])
      have HOp := Lib.hid (show opL ((i : Int), (u : Int)) = nameL (i : Int) ++ if takesZ (i : Int) = true then 32 :: Lib.itoa (u : Int) else [] from rfl)
      have hln := textG_len (p.take k) (fun o ho => HP.out o (List.mem_of_mem_take ho))
      have hz1 := (name_ne hx1 hx8).2.2.2.2
      have hz3 : (textG (p.take k)).length ≤ 31000 := by
        have := List.length_take_le k p
        have : (p.take k).length * 31 ≤ 1000 * 31 := Nat.mul_le_mul_right _ (by omega)
        omega
      have HEm := Lib.hid (show k = 0 ↔ p.take k = [] from ⟨fun h => by subst h; rfl, fun h => by
        have h2 := congrArg List.length h
        rw [List.length_take, HM.out, List.length_nil] at h2
        omega⟩)
      have HNm := Lib.hid (fun W => RefNum_any u W (by omega))
      have HTk := Lib.hid (fun W => RefTakes_any (i : Int) W)
      have hu9 := decB_size (u := u) (by omega)
      have HDc := Lib.hid (show decB u = bz (Lib.itoa (u : Int)) from (decB_itoa u).symm)
      obtain ⟨T, hT⟩ : ∃ T, T = bz (textG (p.take k)) := ⟨_, rfl⟩
      obtain ⟨M, hM⟩ : ∃ M, M = bz (nameL (i : Int)) := ⟨_, rfl⟩
      obtain ⟨D, hD⟩ : ∃ D, D = decB u := ⟨_, rfl⟩
      have hT9 : T.size ≤ 31000 := by rw [hT, bz_size]; exact hz3
      have hM9 : M.size ≤ 6 := by rw [hM, bz_size]; exact hz1
      have HTd := Lib.hid hT
      have HMd := Lib.hid hM
      rw [← hD] at HNm hu9 HDc
      rw [← hM] at cN
      simp only [Option.map_some] at cN
      rw [← hT]
      clear hT hM hD he hok hln hz1 hz3 hx1 hx8 hy0 hy9
      have h59 : (⟨#[59]⟩ : ByteArray).size = 1 := rfl
      have h32 : (⟨#[32]⟩ : ByteArray).size = 1 := rfl
      by_cases hk1 : 0 < k
      · have hk1' : (0 : Int) < (k : Int) := by omega
        have a1 : ∀ W, (Op.stringOp .add T ⟨#[59]⟩).run Tryz.prog W = .ok (.string (T ++ ⟨#[59]⟩)) W := fun W => run_string_add_sum W _ _ (by omega)
        have a2 : ∀ W, (Op.stringOp .add (T ++ ⟨#[59]⟩) M).run Tryz.prog W = .ok (.string (T ++ ⟨#[59]⟩ ++ M)) W := fun W => run_string_add_sum W _ _ (by rw [ByteArray.size_append]; omega)
        have a3 : ∀ W, (Op.stringOp .add (T ++ ⟨#[59]⟩ ++ M) ⟨#[32]⟩).run Tryz.prog W = .ok (.string (T ++ ⟨#[59]⟩ ++ M ++ ⟨#[32]⟩)) W := fun W => run_string_add_sum W _ _ (by simp only [ByteArray.size_append]; omega)
        have a4 : ∀ W, (Op.stringOp .add (T ++ ⟨#[59]⟩ ++ M ++ ⟨#[32]⟩) D).run Tryz.prog W = .ok (.string (T ++ ⟨#[59]⟩ ++ M ++ ⟨#[32]⟩ ++ D)) W := fun W => run_string_add_sum W _ _ (by simp only [ByteArray.size_append]; omega)
        cases ht : takesZ (i : Int) with
        | true =>
          rw [ht] at HTk
          have HFin := Lib.hid (show T ++ ⟨#[59]⟩ ++ M ++ ⟨#[32]⟩ ++ D = bz (textG (p.take (k + 1))) from by
            rw [HE.out, HOp.out, if_pos ht, if_neg (fun h => by have := HEm.out.2 h; omega), HTd.out, HMd.out, HDc.out, show (⟨#[59]⟩ : ByteArray) = bz [59] from rfl, show (⟨#[32]⟩ : ByteArray) = bz [32] from rfl, bz_app, bz_app, bz_app, bz_app]
            simp)
          clear ht h59 h32 hT9 hM9
          go_wp2_with (first
            | (go_at_call 144; refine (HTk.out _).mono ?_; rintro e w3 ⟨rfl, rfl⟩)
            | (go_at_call 40; refine (HNm.out _).mono ?_; rintro e w4 ⟨rfl, hb4⟩; have HB4 := Lib.hid (HB.out.andThen hb4); clear hb4))
          go_roundw
          case rel => exact ⟨k + 1, by omega, by go_num, congrArg Value.string HFin.out, HB4⟩
          case measure => simp [intOf]; omega
        | false =>
          rw [ht] at HTk
          have HFin := Lib.hid (show T ++ ⟨#[59]⟩ ++ M = bz (textG (p.take (k + 1))) from by
            rw [HE.out, HOp.out, if_neg (show ¬ takesZ (i : Int) = true from by rw [ht]; decide), if_neg (fun h => by have := HEm.out.2 h; omega), HTd.out, HMd.out, show (⟨#[59]⟩ : ByteArray) = bz [59] from rfl, bz_app, bz_app]
            simp)
          clear ht h59 h32 hT9 hM9 a3 a4
          go_wp2_with (go_at_call 144; refine (HTk.out _).mono ?_; rintro e w3 ⟨rfl, rfl⟩)
          go_roundw
          case rel => exact ⟨k + 1, by omega, by go_num, congrArg Value.string HFin.out, HB⟩
          case measure => simp [intOf]; omega
      · have hk1' : ¬ (0 : Int) < (k : Int) := by omega
        have hke := HEm.out.1 (by omega)
        have a2 : ∀ W, (Op.stringOp .add T M).run Tryz.prog W = .ok (.string (T ++ M)) W := fun W => run_string_add_sum W _ _ (by omega)
        have a3 : ∀ W, (Op.stringOp .add (T ++ M) ⟨#[32]⟩).run Tryz.prog W = .ok (.string (T ++ M ++ ⟨#[32]⟩)) W := fun W => run_string_add_sum W _ _ (by simp only [ByteArray.size_append]; omega)
        have a4 : ∀ W, (Op.stringOp .add (T ++ M ++ ⟨#[32]⟩) D).run Tryz.prog W = .ok (.string (T ++ M ++ ⟨#[32]⟩ ++ D)) W := fun W => run_string_add_sum W _ _ (by simp only [ByteArray.size_append]; omega)
        cases ht : takesZ (i : Int) with
        | true =>
          rw [ht] at HTk
          have HFin := Lib.hid (show T ++ M ++ ⟨#[32]⟩ ++ D = bz (textG (p.take (k + 1))) from by
            rw [HE.out, HOp.out, if_pos ht, if_pos hke, HTd.out, HMd.out, HDc.out, show (⟨#[32]⟩ : ByteArray) = bz [32] from rfl, bz_app, bz_app, bz_app]
            simp)
          clear ht hke h59 h32 hT9 hM9
          go_wp2_with (first
            | (go_at_call 144; refine (HTk.out _).mono ?_; rintro e w3 ⟨rfl, rfl⟩)
            | (go_at_call 40; refine (HNm.out _).mono ?_; rintro e w4 ⟨rfl, hb4⟩; have HB4 := Lib.hid (HB.out.andThen hb4); clear hb4))
          go_roundw
          case rel => exact ⟨k + 1, by omega, by go_num, congrArg Value.string HFin.out, HB4⟩
          case measure => simp [intOf]; omega
        | false =>
          rw [ht] at HTk
          have HFin := Lib.hid (show T ++ M = bz (textG (p.take (k + 1))) from by
            rw [HE.out, HOp.out, if_neg (show ¬ takesZ (i : Int) = true from by rw [ht]; decide), if_pos hke, HTd.out, HMd.out, bz_app]
            simp)
          clear ht hke h59 h32 hT9 hM9 a3 a4
          go_wp2_with (go_at_call 144; refine (HTk.out _).mono ?_; rintro e w3 ⟨rfl, rfl⟩)
          go_roundw
          case rel => exact ⟨k + 1, by omega, by go_num, congrArg Value.string HFin.out, HB⟩
          case measure => simp [intOf]; omega
    · obtain rfl : k = n := by omega
      have hlt' : ¬ (k : Int) < (k : Int) := by omega
      have HF := Lib.hid (show p.take k = p from List.take_of_length_le (by rw [HM.out]; exact Nat.le_refl _))
      rw [HF.out]
      go_wp2_with fail
      go_ret
      exact ⟨rfl, HB0.out.andThen HB.out⟩
end Go.Proofs.YtddedghnnkcnhaaGreatDoor
/-
  Jobs' texts plainly: how long they are.
-/
namespace Go.Proofs.YtddedghnnkcnhaaGreatDoor.Cf
open Go Go.Proofs.YtddedghnnkcnhaaGreatDoor.Tx Go.Proofs.YtddedghnnkcnhaaGreatDoor.Pg
set_option linter.unusedVariables false

theorem text_len {c : CF} (h : rightC c) : (tellL (linesC c)).length ≤ 1000 := by
  obtain ⟨h1, h2, h3, h4, h5, h6, h7⟩ := h
  have k1 := (job_name h3.1 h3.2).2.2.2
  have k2 := fun v (h : -1000000 ≤ v ∧ v ≤ 1000000) => Lib.itoa_length_le v (by omega) (by omega)
  have k3 := k2 c.size (by omega)
  have k4 := k2 c.wk (by omega)
  have k5 := k2 c.cap (by omega)
  have k6 := k2 c.sup (by split at h7 <;> omega)
  have k7 := textG_len c.keep h1.2
  rw [lines_mid, tell_app, tell_app, tell_one, tell_one, List.length_append, List.length_append, List.length_append, List.length_append]
  have km : (tellL (midC c)).length ≤ 700 := by
    unfold midC
    rw [tell_app, tell_app, tell_app, tell_one, tell_one, List.length_append, List.length_append, List.length_append, List.length_append, List.length_append]
    have a1 : (tellL (if c.kind = 3 then [lineW wSupport (Lib.itoa c.sup)] else [])).length ≤ 40 := by
      split
      · rw [tell_one, List.length_append]
        unfold lineW
        simp only [List.length_append, List.length_cons, List.length_nil]
        omega
      · exact Nat.zero_le _
    have a2 : (tellL (if c.keep = [] then [] else [lineW wKeep (textG c.keep)])).length ≤ 500 := by
      split
      · exact Nat.zero_le _
      · rw [tell_one, List.length_append]
        unfold lineW
        simp only [List.length_append, List.length_cons, List.length_nil]
        omega
    generalize (tellL (if c.kind = 3 then [lineW wSupport (Lib.itoa c.sup)] else [])).length = x1 at a1 ⊢
    generalize (tellL (if c.keep = [] then [] else [lineW wKeep (textG c.keep)])).length = x2 at a2 ⊢
    unfold lineW
    simp only [List.length_append, List.length_cons, List.length_nil]
    omega
  unfold lineW
  simp only [List.length_append, List.length_cons, List.length_nil]
  omega
end Go.Proofs.YtddedghnnkcnhaaGreatDoor.Cf
