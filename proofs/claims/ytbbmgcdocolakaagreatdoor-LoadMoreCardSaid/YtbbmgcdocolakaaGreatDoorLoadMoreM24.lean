/-
  Part 24 of the proof of LoadMore: LdT, LdZ, LoadMore.
-/
import Derived.BigQuiet
import Derived.Test.YtbbmgcdocolakaaGreatDoorLoadMoreM22
import Derived.Test.YtbbmgcdocolakaaGreatDoorLoadMoreM23
import Derived.Test.YtbbmgcdocolakaaGreatDoorLoadMoreM18
import Derived.Test.YtbbmgcdocolakaaGreatDoorLoadMoreM15
import Derived.Test.YtbbmgcdocolakaaGreatDoorLoadMoreM19
import Derived.BigRegion
import Derived.Test.YtbbmgcdocolakaaGreatDoorLoadMoreM6
set_option linter.unusedVariables false
/-
  load.Text of texts that are known, each in one shape.
-/
namespace Go.Proofs.YtbbmgcdocolakaaGreatDoor
open Go.RowKit Go.Proofs.YtbbmgcdocolakaaGreatDoor.Pg Go.Proofs.YtbbmgcdocolakaaGreatDoor.Tx Go.Proofs.YtbbmgcdocolakaaGreatDoor.Cf
set_option maxRecDepth 100000
set_option linter.unusedVariables false

theorem GrOK.natG {L : List Int} {F : List (Int × Int)} (h : GrOK L F) : Ld.NatG L F := Ld.natG_of h.l9 h.f9 h.lab h.has
theorem NatG.six {L : List Int} {F : List (Int × Int)} (h : Ld.NatG L F) (h1 : ∀ x ∈ L, x < 1000000) (h2 : ∀ e ∈ F, e.1 < 1000000 ∧ e.2 < 1000000) : (∀ x ∈ L, Ld.lab6 x) ∧ (∀ e ∈ F, Ld.lab6 e.1 ∧ Ld.lab6 e.2) :=
  ⟨fun x hx => ⟨(h.lab x hx).1, h1 x hx⟩, fun e he => ⟨⟨(h.edg e he).1.1, (h2 e he).1⟩, (h.edg e he).2.1, (h2 e he).2⟩⟩
theorem GrOK.six {L : List Int} {F : List (Int × Int)} (h : GrOK L F) : (∀ x ∈ L, Ld.lab6 x) ∧ (∀ e ∈ F, Ld.lab6 e.1 ∧ Ld.lab6 e.2) :=
  NatG.six h.natG (fun x hx => by have := h.lab x hx; omega) (fun e he => by
    have h1 := h.has.ok e he
    have h2 := h.l9
    unfold Pt.EdgeOK at h1
    omega)
theorem print_len {L : List Int} {F : List (Int × Int)} (h : Ld.NatG L F) : (Ld.printL L F).length ≤ 46 * L.length + 46 * F.length := by
  have h1 := Ld.vTell_len L.length (L := L) (Nat.le_refl _) h.l9 (fun x hx => (h.lab x hx).2)
  have h2 := Ld.eTell_len F.length (F := F) (Nat.le_refl _) (fun e he => ⟨(h.edg e he).1.2, (h.edg e he).2.2⟩)
  rw [List.take_length] at h1 h2
  unfold Ld.printL
  rw [List.length_append]
  omega
theorem LText_ok {s : List UInt8} {L : List Int} {E F : List (Int × Int)} {w : World} (ht : Ld.textL s = .ok L E) (hn : Gh.newR L E = .ok F) (hz : s.length ≤ 200000) (hg : ErrT w) (hL : LibW w) :
    Calls Tryz.prog 10 #[.string (bz s)] w (OkRes L (Gh.sortG F) w) :=
  (LText_any s _ w rfl hz hg hL).mono fun e w' ⟨h1, h2⟩ => by
    rw [ht] at h2
    rcases h2 with ⟨F', g, h3, h4, h5⟩ | ⟨h3, _⟩
    · rw [hn] at h3
      injection h3 with h3
      subst h3
      exact ⟨g, h4, h5, h1⟩
    · exact absurd hn (h3 _)
theorem LText_print {L : List Int} {F : List (Int × Int)} {w : World} (h : GrOK L F) (h1 : L.length ≤ 100) (h2 : F.length ≤ 100) (hg : ErrT w) (hL : LibW w) :
    Calls Tryz.prog 10 #[.string (bz (Ld.printL L F))] w (OkRes L F w) := by
  have h3 := LText_ok (Ld.text_print h.six.1 h.six.2 (by omega)) (Gh.new_same h.l9 h.f9 h.lab h.has) (by have := print_len h.natG; omega) hg hL
  rwa [h.sort] at h3
theorem LText_bad {s : List UInt8} {k : Nat} {w : World} (ht : Ld.textL s = .bad k) (hz : s.length ≤ 200000) (hg : ErrT w) (hL : LibW w) :
    Calls Tryz.prog 10 #[.string (bz s)] w fun e w' => ∃ (T : TypeId) (x : Value), e = .returned (.tuple #[.pointer none, .iface T x]) ∧ (Err.flt 11 (k : Nat) tLine).At w' (.iface T x) ∧ Below w.heap.size w w' :=
  (LText_any s _ w rfl hz hg hL).mono fun e w' ⟨h1, h2⟩ => by
    rw [ht] at h2
    obtain ⟨v, h3, h4⟩ := h2
    obtain ⟨T, x, rfl⟩ := Err.At.iface_ h4 (fun e => by cases e)
    exact ⟨T, x, h3, h4, h1⟩
end Go.Proofs.YtbbmgcdocolakaaGreatDoor
/-
  A vertex that no edge has: its degree; a text with a line more, plainly.
-/
namespace Go.Proofs.YtbbmgcdocolakaaGreatDoor
open Go.RowKit Go.Proofs.YtbbmgcdocolakaaGreatDoor.Pg Go.Proofs.YtbbmgcdocolakaaGreatDoor.Tx Go.Proofs.YtbbmgcdocolakaaGreatDoor.Cf
set_option maxRecDepth 100000
set_option linter.unusedVariables false

section
attribute [local go_sem ↓] Go.wp_at_zero Go.wp_at_succ
set_option maxHeartbeats 4000000 in
theorem GNear_last {w : World} {g n : Nat} {L : List Int} {F : List (Int × Int)} (hG : GraphAt w g L F) (hl : L.length = n + 1) (hh : Gh.Has n F) (hn : n ≤ 1000000) (hm : F.length ≤ 1000000) :
    Calls Tryz.prog 36 #[.pointer (some ⟨g, 0, none⟩), .int .i64 (n : Int)] w fun e w' => ∃ C k, e = .returned (.slice C 0 k) ∧ Below w.heap.size w w' := by
  have HGr := Lib.hid hG
  have HH := Lib.hid (GHas_t hG (v := n) (by omega))
  have hd1 : Pt.degs F n = 2 * F.length := Pt.degs_all F hh.ok
  have hd2 : Pt.degs F (n + 1) = 2 * F.length := Pt.degs_all F (hh.more (Nat.le_succ n)).ok
  obtain ⟨A, c, B, d, C, N, I, hk, _, _, hf, ⟨xs, hne⟩, _⟩ := hG
  rw [hl] at hk hf
  obtain ⟨s, hs⟩ : ∃ s, s = 2 * F.length := ⟨_, rfl⟩
  have e1 := hf.again (k := n) (by omega) (by rw [List.getElem?_map, Gh.tab_get _ (by omega)]; rfl)
  have e2 := hf.again (k := n + 1) (by omega) (by rw [List.getElem?_map, Gh.tab_get _ (by omega)]; rfl)
  unfold Gh.sumF at e1 e2
  rw [hd1, ← hs] at e1
  rw [hd2, ← hs] at e2
  rw [← hs] at hk
  have HAll := Lib.hid (show ∀ W, Below w.heap.size w W → (W.cell? ⟨g, 2, none⟩ = some (.slice (some ⟨C, 0, none⟩) (n + 1 + 1) (n + 1 + 1)) ∧ W.cell? ⟨g, 3, none⟩ = some (.slice (some ⟨N, 0, none⟩) s s)) ∧ W.cell? ⟨C, n, none⟩ = some (.int .i64 (s : Int)) ∧ W.cell? ⟨C, n + 1, none⟩ = some (.int .i64 (s : Int)) from fun W hW => by
    have h2 := (hk.keep hW).cell 2
    have h3 := (hk.keep hW).cell 3
    simp at h2 h3
    have h4 := (hW.cell (World.block_lt_of_cell? w _ e1)).trans e1
    have h5 := (hW.cell (World.block_lt_of_cell? w _ e2)).trans e2
    simp only [Nat.zero_add] at h4 h5
    exact ⟨⟨h2, h3⟩, h4, h5⟩)
  have hs9 : s ≤ 2000000 := by omega
  have hn0 : (0 : Int) ≤ (n : Int) := by omega
  have HCl := Lib.hid (fun (W : World) (A5 : Option Addr) (c5 : Nat) => CloneI_any [] A5 0 c5 W rfl (by omega) (Sl.nil _ _ _))
  obtain ⟨t, ht⟩ : ∃ t, t = n + 1 + 1 := ⟨_, rfl⟩
  have ht1 : (n : Int) < (t : Int) := by omega
  obtain ⟨n1, hn1⟩ : ∃ n1, n1 = n + 1 := ⟨_, rfl⟩
  have ht2 : (n1 : Int) < (t : Int) := by omega
  have hn2 : (0 : Int) ≤ (n1 : Int) := by omega
  have hw1 : IntKind.i64.wrap ((n : Int) + 1) = (n1 : Int) := by rw [IntKind.wrap_i64]; omega
  have hs0 : (0 : Int) ≤ (s : Int) := by omega
  rw [← ht, ← hn1] at HAll
  clear hk hf hne e1 e2 hd1 hd2 hh hl hs ht hn1
  go_enter Tryz.func36, Tryz.ntmps36
  go_upto_region 3 with (go_at_call 68; refine HH.out.mono ?_; clear HH; rintro e w1 ⟨rfl, rfl⟩)
  refine wp_region_qtail (fun W => Below w.heap.size w W) 20 rfl (by kernel_rfl) (by kernel_rfl) (bel_drewN (Below.refl _ _) 1) ?_
  simp only [List.take_succ_cons, List.take_zero, List.drop_succ_cons, List.drop_zero]
  repeat (
    first
      | (apply qq_want
         · rfl
         · intro W hW
           have zz := HAll.out W hW
           go_simp
           first
             | done
             | exact rfl)
      | (refine qq_pass ?_ ?_
         · rfl)
    try simp only [Act.put, List.setIfInBounds_toArray, List.set_cons_zero, List.set_cons_succ])
  refine qq_nil ?_
  intro wq hbq
  have HBq := Lib.hid hbq
  clear hbq
  clear hw1
  unfold Oper.wp
  go_simp
  refine (HCl.out _ _ _).mono ?_
  clear HCl
  rintro e w2 ⟨C2, k2, rfl, _, _, hb2⟩
  have HB2 := Lib.hid (HBq.out.andThen hb2)
  clear hb2
  repeat (
    first
      | (apply qq_want
         · rfl
         · intro W hW
           go_simp
           first
             | done
             | exact rfl)
      | (refine qq_pass ?_ ?_
         · rfl)
    try simp only [Act.put, List.setIfInBounds_toArray, List.set_cons_zero, List.set_cons_succ])
  refine qq_nil ?_
  go_wp2_with fail
  go_ret
  exact ⟨C2, k2, rfl, HB2.out⟩
theorem GDegree_last {w : World} {g n : Nat} {L : List Int} {F : List (Int × Int)} (hG : GraphAt w g L F) (hl : L.length = n + 1) (hh : Gh.Has n F) (hn : n ≤ 1000000) (hm : F.length ≤ 1000000) :
    Calls Tryz.prog 14 #[.pointer (some ⟨g, 0, none⟩), .int .i64 (n : Int)] w fun e w' => e = .returned (.int .i64 0) ∧ Below w.heap.size w w' := by
  have HNr := Lib.hid (GNear_last hG hl hh hn hm)
  clear hG hl hh
  go_enter Tryz.func14, Tryz.ntmps14
  go_wp2_with (go_at_call 36; refine HNr.out.mono ?_; clear HNr; rintro e w2 ⟨C2, k2, rfl, hb2⟩; have HB2 := Lib.hid hb2; clear hb2)
  go_ret
  exact ⟨rfl, HB2.out⟩
end
/-- Edges the other way round, from the last one on. -/
theorem back_get {F : List (Int × Int)} {k p : Nat} {x y : Int} (hk : k + p + 1 = F.length) (h : F[p]? = some (x, y)) : (Gh.backE F)[k]? = some (y, x) := by
  unfold Gh.backE
  rw [List.getElem?_map, List.getElem?_reverse (by omega), show F.length - 1 - k = p by omega, h]
  rfl
theorem back_len (F : List (Int × Int)) : (Gh.backE F).length = F.length := by unfold Gh.backE; simp
theorem GrOK.backN {L : List Int} {F : List (Int × Int)} (h : GrOK L F) : Ld.NatG L (Gh.backE F) := by
  refine ⟨h.l9, by rw [back_len]; exact h.f9, h.natG.lab, fun e he => ?_⟩
  unfold Gh.backE at he
  obtain ⟨x, hx, rfl⟩ := List.mem_map.1 he
  have := h.natG.edg x (List.mem_reverse.1 hx)
  exact ⟨this.2, this.1⟩
theorem GrOK.back6 {L : List Int} {F : List (Int × Int)} (h : GrOK L F) : ∀ e ∈ Gh.backE F, Ld.lab6 e.1 ∧ Ld.lab6 e.2 := fun e he => by
  unfold Gh.backE at he
  obtain ⟨x, hx, rfl⟩ := List.mem_map.1 he
  have := h.six.2 x (List.mem_reverse.1 hx)
  exact ⟨this.2, this.1⟩
theorem GrOK.lab7 {L : List Int} {F : List (Int × Int)} (h : GrOK L F) : Gh.labsOK (L ++ [7]) ∧ ∀ x ∈ L ++ [7], Ld.lab6 x := by
  refine ⟨fun x hx => ?_, fun x hx => ?_⟩ <;> rcases List.mem_append.1 hx with hx | hx
  · exact h.lab x hx
  · rw [List.mem_singleton.1 hx]; omega
  · exact h.six.1 x hx
  · rw [List.mem_singleton.1 hx]; exact ⟨by decide, by decide⟩
theorem print_seven (L : List Int) (E : List (Int × Int)) : (((tellL (Ld.vRows 0 L) ++ [118, 32]) ++ Lib.decDigits L.length) ++ [32, 55, 10]) ++ tellL (Ld.eRows E) = Ld.printL (L ++ [7]) E := by
  unfold Ld.printL
  rw [Ld.vRows_snoc, Ld.tell_app, Ld.tell_one5, Nat.zero_add]
  have h7 : Lib.decDigits (7 : Int).toNat = [55] := by
    show Lib.decDigits 7 = [55]
    rw [Lib.decDigits, dif_pos (by omega)]
    rfl
  unfold Ld.row3
  rw [h7]
  simp
theorem print_edge (L : List Int) (E : List (Int × Int)) (a b : Nat) : ((((tellL (Ld.vRows 0 L) ++ tellL (Ld.eRows E)) ++ [101, 32]) ++ Lib.decDigits a) ++ [32]) ++ Lib.decDigits b ++ [10] = Ld.printL L (E ++ [((a : Int), (b : Int))]) := by
  unfold Ld.printL Ld.eRows
  rw [List.map_append, Ld.tell_app, List.map_cons, List.map_nil, Ld.tell_one5]
  unfold Ld.row3
  simp
theorem print_loop (L : List Int) (E : List (Int × Int)) : (tellL (Ld.vRows 0 L) ++ [101, 32, 48, 32, 48, 10]) ++ tellL (Ld.eRows E) = Ld.printL L ((0, 0) :: E) := by
  have h : tellL (Ld.eRows ((0, 0) :: E)) = [101, 32, 48, 32, 48, 10] ++ tellL (Ld.eRows E) := by
    show tellL (Ld.row3 101 (0 : Int).toNat (0 : Int).toNat :: Ld.eRows E) = _
    have h0 : Lib.decDigits (0 : Int).toNat = [48] := by
      show Lib.decDigits 0 = [48]
      rw [Lib.decDigits, dif_pos (by omega)]
      rfl
    unfold Ld.row3
    rw [h0]
    rfl
  unfold Ld.printL
  rw [h]
  simp
/-- What Text says of a graph whose edge can't be. -/
theorem LText_edge {s : List UInt8} {L : List Int} {E : List (Int × Int)} {c : Int} {i : Nat} {w : World} (ht : Ld.textL s = .ok L E) (hn : Gh.newR L E = .edge c i) (hz : s.length ≤ 200000) (hg : ErrT w) (hL : LibW w) :
    Calls Tryz.prog 10 #[.string (bz s)] w fun e w' => ∃ (T : TypeId) (x : Value), e = .returned (.tuple #[.pointer none, .iface T x]) ∧ (Err.step tGraph (.flt 11 ((L.length + i : Nat) : Int) tEdge)).At w' (.iface T x) ∧ Below w.heap.size w w' :=
  (LText_any s _ w rfl hz hg hL).mono fun e w' ⟨h1, h2⟩ => by
    rw [ht] at h2
    rcases h2 with ⟨F', g, h3, _⟩ | ⟨_, v, h3, h4⟩
    · rw [hn] at h3
      cases h3
    · rw [hn] at h4
      obtain ⟨T, x, rfl⟩ := Err.At.iface_ h4 (fun e => by cases e)
      exact ⟨T, x, h3, h4, h1⟩
end Go.Proofs.YtbbmgcdocolakaaGreatDoor
/-
  LoadMore.
-/
namespace Go.Proofs.YtbbmgcdocolakaaGreatDoor
open Go.RowKit Go.Proofs.YtbbmgcdocolakaaGreatDoor.Pg Go.Proofs.YtbbmgcdocolakaaGreatDoor.Tx Go.Proofs.YtbbmgcdocolakaaGreatDoor.Cf
attribute [local go_sem ↓] Go.wp_at_zero Go.wp_at_succ
set_option maxRecDepth 100000
set_option linter.unusedVariables false

set_option maxHeartbeats 64000000 in
theorem LoadMore_walk (L : List Int) (E : List (Int × Int)) (v : Int) (A B : Option Addr) (n c m d : Nat) (w : World) (hg : ErrT w) (hL : LibW w) (hl : L.length = n) (hs : Sl w 1 A n (L.map (Value.int .i64))) (ht : Sl w 2 B m (Rk.cells E)) (hi : ∀ e ∈ E, i64e e.1 ∧ i64e e.2) (hv : 0 ≤ v ∧ v ≤ 255) :
    Calls Tryz.prog 3 #[.slice A n c, .slice B m d, .int .u8 v] w fun e w' => e = .returned (.bool true) ∧ Below w.heap.size w w' := by
  have HG := Lib.hid hg
  have HLw := Lib.hid hL
  have HL := Lib.hid hl
  have HS := Lib.hid hs
  have HAl := Lib.hid (alive05 w hg hL)
  have HMd := Lib.hid (fun W (hW : Below w.heap.size w W) => Made_any L E A B n c m d W hl (hs.keep hW) (ht.keep hW) hi)
  clear hg hL hl hs ht hi
  go_enter Tryz.func3, Tryz.ntmps3
  go_upto_region 3 with (go_at_call 7; refine HAl.out.mono ?_; clear HAl; rintro e w1 ⟨rfl, hb1⟩; have HB1 := Lib.hid hb1; clear hb1)
  have hMd := HMd.out w1 HB1.out
  clear HMd
  rcases hMd with hMd | ⟨hn10, hm30, F, hOK, hFm, hMd⟩
  · have HMn := Lib.hid hMd
    clear hMd
    go_wp2_with (go_at_call 8; refine HMn.out.mono ?_; clear HMn; rintro e w2 ⟨rfl, hb2⟩; have HB2 := Lib.hid (HB1.out.andThen hb2); clear hb2)
    go_ret
    exact ⟨rfl, bel_al HB2.out _⟩
  have HMo := Lib.hid hMd
  have HOK := Lib.hid hOK
  have HFm := Lib.hid hFm
  clear hMd hOK hFm
  go_upto_region 6 with (go_at_call 8; refine HMo.out.mono ?_; clear HMo; rintro e w2 ⟨g, D, dk, rfl, hg2, hd2, hb2⟩; have HG2 := Lib.hid hg2; have HD2 := Lib.hid hd2; have HB2 := Lib.hid (HB1.out.andThen hb2); clear hg2 hd2 hb2)
  obtain ⟨w3, hw3⟩ : ∃ W, W = w2.alloc (.cells #[.slice A n c, .slice D m dk] 27) := ⟨_, rfl⟩
  obtain ⟨q, hq⟩ : ∃ q, q = w2.heap.size := ⟨_, rfl⟩
  have hal := bel_al (Below.refl w2.heap.size w2) (.cells #[.slice A n c, .slice D m dk] 27)
  have HB3 := Lib.hid (show Below w.heap.size w w3 from by rw [hw3]; exact HB2.out.andThen hal)
  have HK3 := Lib.hid (show Blk w3 q 27 #[.slice A n c, .slice D m dk] from by rw [hw3, hq]; exact Blk.new _ _ _)
  have HG3 := Lib.hid (show GraphAt w3 g L F from by rw [hw3]; exact HG2.out.keep hal)
  have HD3 := Lib.hid (show Sl w3 2 D m (Rk.cells F) from by rw [hw3]; exact HD2.out.keep hal)
  rw [← hw3, ← hq]
  clear hw3 hq hal
  have HS3 := Lib.hid (HS.out.keep HB3.out)
  go_upto_region 8 with (fail)
  go_loopw [10, 11] (fun sv kv wr => ∃ k : Nat, k ≤ n ∧ sv = .string (bz (tellL (Ld.vRows 0 (L.take k)))) ∧ kv = .int .i64 (k : Int) ∧ Hid (Below w3.heap.size w3 wr)) (fun _ kv _ => n - (intOf kv).toNat)
  case atStart => exact ⟨0, Nat.zero_le _, rfl, rfl, Lib.hid (Below.refl _ _)⟩
  case round =>
    obtain ⟨k, hk, rfl, rfl, HB⟩ := hrel
    by_cases hlt : k < n
    · have hlt' : (k : Int) < (n : Int) := by omega
      have hk0 : (0 : Int) ≤ (k : Int) := by omega
      obtain ⟨x, hx⟩ : ∃ x, L[k]? = some x := ⟨_, List.getElem?_eq_getElem (by rw [HL.out]; exact hlt)⟩
      have hx9 := HOK.out.natG.lab x (List.mem_of_getElem? hx)
      obtain ⟨u, rfl⟩ : ∃ u : Nat, x = (u : Int) := ⟨x.toNat, by omega⟩
      obtain ⟨b1, o1, hA, _⟩ := (HS3.out.keep HB.out).at_ hlt
      subst hA
      have HAll := Lib.hid (show ∀ W, Below wr.heap.size wr W → W.cell? ⟨b1, o1 + k, none⟩ = some (.int .i64 (u : Int)) from fun W hW => ((HS3.out.keep HB.out).keep hW).again hlt (by rw [List.getElem?_map, hx]; rfl))
      have hvl := Ld.vTell_len k (L := L) (by rw [HL.out]; exact hk) HOK.out.l9 (fun x hx => (HOK.out.natG.lab x hx).2)
      obtain ⟨X1, X2, X3, X4, a1, a2, a3, a4, a5⟩ := line_facts (tellL (Ld.vRows 0 (L.take k))) 118 k u (by omega) (by omega) (by omega)
      have HS5 := Lib.hid (Ld.vTell_snoc hx)
      obtain ⟨T, hT⟩ : ∃ T, T = bz (tellL (Ld.vRows 0 (L.take k))) := ⟨_, rfl⟩
      obtain ⟨U, hU⟩ : ∃ U, U = bz (tellL (Ld.vRows 0 (L.take k)) ++ (Ld.row3 118 k u ++ [10])) := ⟨_, rfl⟩
      have HU := Lib.hid hU
      rw [← hT] at a1
      rw [← hU] at a5
      rw [← hT]
      have HN1 := Lib.hid (show ∀ W, Below wr.heap.size wr W → Calls Tryz.prog 9 #[.int .i64 (k : Int)] W fun e w' => e = .returned (.string (decB k)) ∧ Below wr.heap.size wr w' from fun W hW => (RefNum_any k W (by omega)).mono fun e w' h => ⟨h.1, hW.andThen h.2⟩)
      have HN2 := Lib.hid (show ∀ W, Below wr.heap.size wr W → Calls Tryz.prog 9 #[.int .i64 (u : Int)] W fun e w' => e = .returned (.string (decB u)) ∧ Below wr.heap.size wr w' from fun W hW => (RefNum_any u W (by omega)).mono fun e w' h => ⟨h.1, hW.andThen h.2⟩)
      generalize decB k = D1 at *
      generalize decB u = D2 at *
      clear hT hU hx hx9 hvl
      go_upto_region 10 with (fail)
      refine wp_region_qq (fun W => Below wr.heap.size wr W) (by kernel_rfl) (by kernel_rfl) (bel_drewN (Below.refl _ _) 1) ?_
      repeat (
        first
          | (apply qq_want
             · rfl
             · intro W hW
               have zz := HAll.out W hW
               go_simp
               first
                 | done
                 | exact rfl
                 | with_reducible exact HN1.out W hW
                 | with_reducible exact HN2.out W hW)
          | (refine qq_pass ?_ ?_
             · rfl)
        try simp only [Act.put, List.setIfInBounds_toArray, List.set_cons_zero, List.set_cons_succ])
      refine qq_nil ?_
      intro wq hbq
      have HBq := Lib.hid (HB.out.andThen hbq)
      clear hbq
      go_wp2_with fail
      go_roundw
      case rel => exact ⟨k + 1, by omega, by rw [HU.out, HS5.out]; rfl, by go_num, HBq⟩
      case measure => simp [intOf]; omega
    obtain rfl : k = n := by omega
    have hlt' : ¬ (k : Int) < (k : Int) := by omega
    rw [List.take_of_length_le (Nat.le_of_eq HL.out)]
    have hvl : (tellL (Ld.vRows 0 L)).length ≤ 460 := by
      have h := Ld.vTell_len L.length (L := L) (Nat.le_refl _) HOK.out.l9 (fun x hx => (HOK.out.natG.lab x hx).2)
      rw [List.take_length, HL.out] at h
      omega
    obtain ⟨w4, hw4⟩ : ∃ W, W = wr := ⟨_, rfl⟩
    rw [← hw4] at HB ⊢
    clear hw4
    have HQ4 := Lib.hid HB.out
    clear HB
    obtain ⟨S, hS⟩ : ∃ S, S = bz (tellL (Ld.vRows 0 L)) := ⟨_, rfl⟩
    have HSs := Lib.hid hS
    have HVl := Lib.hid hvl
    rw [← hS]
    clear hS hvl
    have HKc := Lib.hid (show ∀ W, Below w3.heap.size w3 W → W.cell? ⟨q, 0, none⟩ = some (.slice A k c) ∧ W.cell? ⟨q, 1, none⟩ = some (.slice D m dk) from fun W hW => by
      have h0 := (HK3.out.keep hW).cell 0
      have h1 := (HK3.out.keep hW).cell 1
      simp at h0 h1
      exact ⟨h0, h1⟩)
    go_upto_region 13 with (fail)
    clear hlt'
    go_loopw [12, 13] (fun sv kv wr => ∃ j : Nat, j ≤ m ∧ sv = .string (bz (tellL (Ld.eRows ((Gh.backE F).take j)))) ∧ kv = .int .i64 (j : Int) ∧ Hid (Below w3.heap.size w3 wr)) (fun _ kv _ => m - (intOf kv).toNat)
    case atStart => exact ⟨0, Nat.zero_le _, rfl, rfl, HQ4⟩
    case round =>
      obtain ⟨j, hj, rfl, rfl, HB⟩ := hrel
      clear HQ4
      obtain ⟨k0, k1⟩ := HKc.out wr HB.out
      by_cases hlt : j < m
      · have hlt' : (j : Int) < (m : Int) := by omega
        obtain ⟨p, hp⟩ : ∃ p, p = m - 1 - j := ⟨_, rfl⟩
        have hpm : p < m := by omega
        have hpi : (m : Int) - 1 - (j : Int) = (p : Int) := by omega
        have hp0 : (0 : Int) ≤ (p : Int) := by omega
        have hp1 : (p : Int) < (m : Int) := by omega
        obtain ⟨⟨x, y⟩, he⟩ : ∃ e, F[p]? = some e := ⟨_, List.getElem?_eq_getElem (by rw [HFm.out]; exact hpm)⟩
        have he9 := HOK.out.natG.edg _ (List.mem_of_getElem? he)
        simp only at he9
        obtain ⟨xa, rfl⟩ : ∃ u : Nat, x = (u : Int) := ⟨x.toNat, by omega⟩
        obtain ⟨ya, rfl⟩ : ∃ v : Nat, y = (v : Int) := ⟨y.toNat, by omega⟩
        obtain ⟨b2, o2, hDD, c0, c1⟩ := (HD3.out.keep HB.out).edge hpm he
        subst hDD
        simp only at c0 c1
        have HS5 := Lib.hid (Ld.eTell_snoc (back_get (F := F) (k := j) (p := p) (by rw [HFm.out]; omega) he))
        have hel := Ld.eTell_len j (F := Gh.backE F) (by rw [back_len, HFm.out]; exact hj) (fun e he => ⟨(HOK.out.backN.edg e he).1.2, (HOK.out.backN.edg e he).2.2⟩)
        obtain ⟨X1, X2, X3, X4, a1, a2, a3, a4, a5⟩ := line_facts (tellL (Ld.eRows ((Gh.backE F).take j))) 101 ya xa (by omega) (by omega) (by omega)
        obtain ⟨T, hT⟩ : ∃ T, T = bz (tellL (Ld.eRows ((Gh.backE F).take j))) := ⟨_, rfl⟩
        obtain ⟨U, hU⟩ : ∃ U, U = bz (tellL (Ld.eRows ((Gh.backE F).take j)) ++ (Ld.row3 101 ya xa ++ [10])) := ⟨_, rfl⟩
        have HU := Lib.hid hU
        rw [← hT] at a1
        rw [← hU] at a5
        rw [← hT]
        have HN1 := Lib.hid (show ∀ W, Calls Tryz.prog 9 #[.int .i64 (ya : Int)] W fun e w' => e = .returned (.string (decB ya)) ∧ Below W.heap.size W w' from fun W => (RefNum_any ya W (by omega)))
        have HN2 := Lib.hid (show ∀ W, Calls Tryz.prog 9 #[.int .i64 (xa : Int)] W fun e w' => e = .returned (.string (decB xa)) ∧ Below W.heap.size W w' from fun W => (RefNum_any xa W (by omega)))
        generalize decB ya = D1 at *
        generalize decB xa = D2 at *
        clear hT hU he he9 hel k0 hp
        go_upto_region 16 with (fail)
        obtain ⟨we, hwe⟩ : ∃ W, W = wr.alloc (.cells #[.int .i64 (xa : Int), .int .i64 (ya : Int)] 32) := ⟨_, rfl⟩
        obtain ⟨qe, hqe⟩ : ∃ q, q = wr.heap.size := ⟨_, rfl⟩
        have HBe := Lib.hid (show Below w3.heap.size w3 we from by rw [hwe]; exact bel_al HB.out _)
        have HKe := Lib.hid (show Blk we qe 32 #[.int .i64 (xa : Int), .int .i64 (ya : Int)] from by rw [hwe, hqe]; exact Blk.new _ _ _)
        rw [← hwe, ← hqe]
        clear hwe hqe c0 c1 k1 hpi
        have HAll := Lib.hid (show ∀ W, Below we.heap.size we W → W.cell? ⟨qe, 0, none⟩ = some (.int .i64 (xa : Int)) ∧ W.cell? ⟨qe, 1, none⟩ = some (.int .i64 (ya : Int)) from fun W hW => by
          have h0 := (HKe.out.keep hW).cell 0
          have h1 := (HKe.out.keep hW).cell 1
          simp at h0 h1
          exact ⟨h0, h1⟩)
        have HM1 := Lib.hid (fun W (hW : Below we.heap.size we W) => (HN1.out W).mono fun e w' h => (⟨h.1, hW.andThen h.2⟩ : e = .returned (.string D1) ∧ Below we.heap.size we w'))
        have HM2 := Lib.hid (fun W (hW : Below we.heap.size we W) => (HN2.out W).mono fun e w' h => (⟨h.1, hW.andThen h.2⟩ : e = .returned (.string D2) ∧ Below we.heap.size we w'))
        refine wp_region_qq (fun W => Below we.heap.size we W) (by kernel_rfl) (by kernel_rfl) (bel_drewN (Below.refl _ _) 1) ?_
        repeat (
          first
            | (apply qq_want
               · rfl
               · intro W hW
                 have zz := HAll.out W hW
                 go_simp
                 first
                   | done
                   | exact rfl
                   | with_reducible exact HM1.out W hW
                   | with_reducible exact HM2.out W hW)
            | (refine qq_pass ?_ ?_
               · rfl)
          try simp only [Act.put, List.setIfInBounds_toArray, List.set_cons_zero, List.set_cons_succ])
        refine qq_nil ?_
        intro wq hbq
        have HBq := Lib.hid (HBe.out.andThen hbq)
        clear hbq
        go_wp2_with fail
        go_roundw
        case rel => exact ⟨j + 1, by omega, by rw [HU.out, HS5.out]; rfl, by go_num, HBq⟩
        case measure => simp [intOf]; omega
      obtain rfl : j = m := by omega
      have hlt' : ¬ (j : Int) < (j : Int) := by omega
      rw [List.take_of_length_le (by rw [back_len, HFm.out]; exact Nat.le_refl _)]
      obtain ⟨w5, hw5⟩ : ∃ W, W = wr := ⟨_, rfl⟩
      rw [← hw5] at HB k0 k1 ⊢
      clear hw5
      have HQ5 := Lib.hid HB.out
      clear HB
      obtain ⟨Z, hZ⟩ : ∃ S, S = bz (tellL (Ld.eRows (Gh.backE F))) := ⟨_, rfl⟩
      rw [← hZ]
      have hel : (tellL (Ld.eRows (Gh.backE F))).length ≤ 1380 := by
        have h := Ld.eTell_len (Gh.backE F).length (F := Gh.backE F) (Nat.le_refl _) (fun e he => ⟨(HOK.out.backN.edg e he).1.2, (HOK.out.backN.edg e he).2.2⟩)
        rw [List.take_length, back_len, HFm.out] at h
        omega
      have hvl := HVl.out
      have hd := Ld.dec_len5 (u := k) (by omega)
      obtain ⟨Y0, hY0⟩ : ∃ Y, Y = bz (Ld.printL L (Gh.backE F)) := ⟨_, rfl⟩
      obtain ⟨Y1, hY1⟩ : ∃ Y, Y = bz (tellL (Ld.vRows 0 L) ++ [118, 32]) := ⟨_, rfl⟩
      obtain ⟨Y2, hY2⟩ : ∃ Y, Y = bz ((tellL (Ld.vRows 0 L) ++ [118, 32]) ++ Lib.decDigits k) := ⟨_, rfl⟩
      obtain ⟨Y3, hY3⟩ : ∃ Y, Y = bz (((tellL (Ld.vRows 0 L) ++ [118, 32]) ++ Lib.decDigits k) ++ [32, 55, 10]) := ⟨_, rfl⟩
      obtain ⟨Y4, hY4⟩ : ∃ Y, Y = bz (Ld.printL (L ++ [7]) (Gh.backE F)) := ⟨_, rfl⟩
      obtain ⟨Z1, hZ1⟩ : ∃ Y, Y = bz (tellL (Ld.vRows 0 L) ++ [101, 32, 48, 32, 48, 10]) := ⟨_, rfl⟩
      obtain ⟨Z2, hZ2⟩ : ∃ Y, Y = bz (Ld.printL L ((0, 0) :: Gh.backE F)) := ⟨_, rfl⟩
      have HP7 := Lib.hid (show (((tellL (Ld.vRows 0 L) ++ [118, 32]) ++ Lib.decDigits k) ++ [32, 55, 10]) ++ tellL (Ld.eRows (Gh.backE F)) = Ld.printL (L ++ [7]) (Gh.backE F) from by rw [← HL.out]; exact print_seven L _)
      have a0 : ∀ W, (Op.stringOp .add S Z).run Tryz.prog W = .ok (.string Y0) W := Ld.addT HSs.out hZ rfl (by rw [List.length_append]; omega) hY0
      have b1 : ∀ W, (Op.stringOp .add S ⟨#[118, 32]⟩).run Tryz.prog W = .ok (.string Y1) W := Ld.addT (m := [118, 32]) HSs.out rfl rfl (by simp; omega) hY1
      have b2 : ∀ W, (Op.stringOp .add Y1 (decB k)).run Tryz.prog W = .ok (.string Y2) W := Ld.addT (m := Lib.decDigits k) hY1 rfl rfl (by simp; omega) hY2
      have b3 : ∀ W, (Op.stringOp .add Y2 ⟨#[32, 55, 10]⟩).run Tryz.prog W = .ok (.string Y3) W := Ld.addT (m := [32, 55, 10]) hY2 rfl rfl (by simp; omega) hY3
      have b4 : ∀ W, (Op.stringOp .add Y3 Z).run Tryz.prog W = .ok (.string Y4) W := Ld.addT hY3 hZ HP7.out (by rw [← HP7.out]; simp; omega) hY4
      have z1 : ∀ W, (Op.stringOp .add S ⟨#[101, 32, 48, 32, 48, 10]⟩).run Tryz.prog W = .ok (.string Z1) W := Ld.addT (m := [101, 32, 48, 32, 48, 10]) HSs.out rfl rfl (by simp; omega) hZ1
      have z2 : ∀ W, (Op.stringOp .add Z1 Z).run Tryz.prog W = .ok (.string Z2) W := Ld.addT hZ1 hZ (print_loop L _) (by rw [← print_loop]; simp; omega) hZ2
      have HNw := Lib.hid (show Gh.newR L (Gh.backE F) = .ok F.reverse from Gh.new_back HOK.out.l9 HOK.out.f9 HOK.out.lab HOK.out.has)
      have HBs := Lib.hid (show Gh.sortG F.reverse = F from Gh.back_sort HOK.out.has HOK.out.rise)
      have HTx := Lib.hid (show ∀ W, Below w3.heap.size w3 W → Calls Tryz.prog 10 #[.string Y0] W (OkRes L F W) from fun W hW => by
        rw [hY0]
        have h := LText_ok (Ld.text_print HOK.out.six.1 HOK.out.back6 (by rw [HL.out]; omega)) HNw.out (by unfold Ld.printL; rw [List.length_append]; omega) (HG.out.keep (HB3.out.andThen hW)) (HLw.out.keep (HB3.out.andThen hW))
        rwa [HBs.out] at h)
      have HTy := Lib.hid (show ∀ W, Below w3.heap.size w3 W → Calls Tryz.prog 10 #[.string Y4] W (OkRes (L ++ [7]) F W) from fun W hW => by
        rw [hY4]
        have h := LText_ok (w := W) (Ld.text_print HOK.out.lab7.2 HOK.out.back6 (by simp; rw [HL.out]; omega)) (Gh.new_back (L := L ++ [7]) (by simp; rw [HL.out]; omega) HOK.out.f9 HOK.out.lab7.1 (HOK.out.has.more (by simp))) (by rw [← HP7.out]; simp; omega) (HG.out.keep (HB3.out.andThen hW)) (HLw.out.keep (HB3.out.andThen hW))
        rwa [HBs.out] at h)
      have HTi := Lib.hid (show ∀ W, Below w3.heap.size w3 W → Calls Tryz.prog 10 #[.string Z2] W fun e w' => ∃ (T : TypeId) (x : Value), e = .returned (.tuple #[.pointer none, .iface T x]) ∧ (Err.step tGraph (.flt 11 (k : Int) tEdge)).At w' (.iface T x) ∧ Below W.heap.size W w' from fun W hW => by
        rw [hZ2]
        obtain ⟨c5, h5⟩ := Gh.new_loop (L := L) (E := Gh.backE F) HOK.out.l9 (by rw [back_len, HFm.out]; omega) HOK.out.lab
        have h := LText_edge (w := W) (Ld.text_print (L := L) (F := (0, 0) :: Gh.backE F) HOK.out.six.1 (fun e he => by
          rcases List.mem_cons.1 he with rfl | he
          · exact ⟨⟨by decide, by decide⟩, by decide, by decide⟩
          · exact HOK.out.back6 e he) (by rw [HL.out]; omega)) h5 (by rw [← print_loop]; simp; omega) (HG.out.keep (HB3.out.andThen hW)) (HLw.out.keep (HB3.out.andThen hW))
        rwa [show ((L.length + 0 : Nat) : Int) = (k : Int) from by rw [HL.out]; rfl] at h)
      have HNm := Lib.hid (fun W => RefNum_any k W (by omega))
      generalize decB k = Dk at *
      have HZz := Lib.hid hZ
      have HEl := Lib.hid hel
      have HY0 := Lib.hid hY0
      clear hZ hY0 hY1 hY2 hY3 hY4 hZ1 hZ2 hvl hel hd
      go_upto_region 17 with (fail)
      clear k0 k1 hlt'
      go_upto_region 18 with (go_at_call 10; refine (HTx.out _ HQ5.out).mono ?_; clear HTx; rintro e w6 ⟨gx, rfl, hx, hb6⟩; have HQ6 := Lib.hid (HQ5.out.andThen hb6); have HX6 := Lib.hid hx; clear hx hb6)
      go_upto_region 19 with (first
        | (go_at_call 9; refine (HNm.out _).mono ?_; clear HNm; rintro e w7 ⟨rfl, hb7⟩; have HQ7 := Lib.hid (HQ6.out.andThen hb7); have HX7 := Lib.hid (HX6.out.keep hb7); clear hb7)
        | (go_at_call 10; refine (HTy.out _ HQ7.out).mono ?_; clear HTy; rintro e w8 ⟨gy, rfl, hy, hb8⟩; have HQ8 := Lib.hid (HQ7.out.andThen hb8); have HX8 := Lib.hid (HX7.out.keep hb8); have HY8 := Lib.hid hy; clear hy hb8))
      have HSm := Lib.hid (GSame_same HX8.out (HG3.out.keep HQ8.out) HOK.out.l9 HOK.out.f9)
      go_upto_region 21 with (first
        | (go_at_call 11; refine HSm.out.mono ?_; clear HSm; rintro e w9 ⟨rfl, hb9⟩; have HQ9 := Lib.hid (HQ8.out.andThen hb9); have HY9 := Lib.hid (HY8.out.keep hb9); have HG9 := Lib.hid (HG3.out.keep (HQ8.out.andThen hb9)); have HLy := Lib.hid (show Calls Tryz.prog 12 #[.pointer (some ⟨gy, 0, none⟩)] w9 fun e w' => e = .returned (.int .i64 ((k : Int) + 1)) ∧ w9 = w' from (GLen_any (HY8.out.keep hb9)).mono fun e w' h => ⟨by rw [h.1, List.length_append, HL.out]; rfl, h.2⟩); have HLg := Lib.hid (GLen_any (HG3.out.keep (HQ8.out.andThen hb9))); have HSy := Lib.hid (GSize_any (HY8.out.keep hb9)); have HSg := Lib.hid (GSize_any (HG3.out.keep (HQ8.out.andThen hb9))); have HDy := Lib.hid (GDegree_last (n := k) (HY8.out.keep hb9) (by rw [List.length_append, HL.out]; rfl) (by rw [← HL.out]; exact HOK.out.has) (by omega) (by rw [HFm.out]; omega)); rw [HL.out] at HLg; rw [HFm.out] at HSy HSg; clear hb9)
        | (go_at_call 12; refine HLy.out.mono ?_; clear HLy; rintro e w' ⟨rfl, rfl⟩)
        | (go_at_call 12; refine HLg.out.mono ?_; clear HLg; rintro e w' ⟨rfl, rfl⟩)
        | (go_at_call 13; refine HSy.out.mono ?_; clear HSy; rintro e w' ⟨rfl, rfl⟩)
        | (go_at_call 13; refine HSg.out.mono ?_; clear HSg; rintro e w' ⟨rfl, rfl⟩)
        | (go_at_call 14; refine HDy.out.mono ?_; clear HDy; rintro e w10 ⟨rfl, hb10⟩; have HQ10 := Lib.hid (HQ9.out.andThen hb10); clear hb10))
      obtain ⟨k0, k1⟩ := HKc.out w10 HQ10.out
      clear b1 b2 b3 b4 HX6 HX7 HX8 HY8 HY9 HG9 HQ5 HQ6 HQ7 HQ8 HQ9
      by_cases hj0 : j = 0
      · subst hj0
        go_wp2_with fail
        go_ret
        exact ⟨rfl, HB3.out.andThen HQ10.out⟩
      have hjb : ((j : Int) == 0) = false := by simpa using hj0
      have hjne : ¬ (j : Int) = 0 := by omega
      obtain ⟨p, hpj, hrem⟩ : ∃ p : Nat, p < j ∧ Int.tmod v (j : Int) = (p : Int) := ⟨(v % (j : Int)).toNat, by have := Int.emod_lt_of_pos v (show (0 : Int) < (j : Int) by omega); have := Int.emod_nonneg v hjne; omega, by rw [Int.tmod_eq_emod_of_nonneg (by omega)]; have := Int.emod_nonneg v hjne; omega⟩
      have hp0 : (0 : Int) ≤ (p : Int) := by omega
      have hp1 : (p : Int) < (j : Int) := by omega
      obtain ⟨hv0, hv1⟩ := hv
      obtain ⟨⟨x, y⟩, he⟩ : ∃ e, F[p]? = some e := ⟨_, List.getElem?_eq_getElem (by rw [HFm.out]; exact hpj)⟩
      have he9 := HOK.out.natG.edg _ (List.mem_of_getElem? he)
      simp only at he9
      obtain ⟨xa, rfl⟩ : ∃ u : Nat, x = (u : Int) := ⟨x.toNat, by omega⟩
      obtain ⟨ya, rfl⟩ : ∃ v : Nat, y = (v : Int) := ⟨y.toNat, by omega⟩
      have hDe := (HD3.out.keep HQ10.out).edge hpj he
      obtain ⟨b2, o2, hDD, c0, c1⟩ := hDe
      subst hDD
      simp only at c0 c1
      have HMm := Lib.hid (List.mem_of_getElem? he)
      have HE9 := Lib.hid he9
      clear he he9
      have HKa := HKc.out (w10.alloc (.cells #[.int .i64 0, .int .i64 0] 32)) (HQ10.out.andThen (bel_al (Below.refl _ _) _))
      obtain ⟨_, m1⟩ := HKa
      have d0 := (bel_al (Below.refl w10.heap.size w10) (.cells #[.int .i64 0, .int .i64 0] 32)).cell (World.block_lt_of_cell? w10 _ c0)
      have d1 := (bel_al (Below.refl w10.heap.size w10) (.cells #[.int .i64 0, .int .i64 0] 32)).cell (World.block_lt_of_cell? w10 _ c1)
      rw [c0] at d0
      rw [c1] at d1
      have hwv : IntKind.i64.wrap v = v := by rw [IntKind.wrap_i64]; omega
      go_upto_region 23 with (fail)
      go_region
      clear k0 k1 m1 d0 d1 c0 c1 hwv hrem hv0 hv1
      generalize hW : (w10.alloc (.cells #[.int .i64 (xa : Int), .int .i64 (ya : Int)] 32)).drew = w11
      obtain ⟨qd, hqd⟩ : ∃ q, q = w10.heap.size := ⟨_, rfl⟩
      have HQ11 := Lib.hid (show Below w3.heap.size w3 w11 from by rw [← hW]; exact bel_drewN (bel_al HQ10.out _) 1)
      have HKd := Lib.hid (show Blk w11 qd 32 #[.int .i64 (xa : Int), .int .i64 (ya : Int)] from by rw [← hW, hqd]; exact Blk.new w10 _ _)
      rw [← hqd]
      clear hW hqd
      have hxy := HE9.out
      have hd1 := Ld.dec_len5 (u := xa) (by omega)
      have hd2 := Ld.dec_len5 (u := ya) (by omega)
      have hvl := HVl.out
      have hel := HEl.out
      obtain ⟨V1, hV1⟩ : ∃ Y, Y = bz ((tellL (Ld.vRows 0 L) ++ tellL (Ld.eRows (Gh.backE F))) ++ [101, 32]) := ⟨_, rfl⟩
      obtain ⟨V2, hV2⟩ : ∃ Y, Y = bz (((tellL (Ld.vRows 0 L) ++ tellL (Ld.eRows (Gh.backE F))) ++ [101, 32]) ++ Lib.decDigits xa) := ⟨_, rfl⟩
      obtain ⟨V3, hV3⟩ : ∃ Y, Y = bz ((((tellL (Ld.vRows 0 L) ++ tellL (Ld.eRows (Gh.backE F))) ++ [101, 32]) ++ Lib.decDigits xa) ++ [32]) := ⟨_, rfl⟩
      obtain ⟨V4, hV4⟩ : ∃ Y, Y = bz (((((tellL (Ld.vRows 0 L) ++ tellL (Ld.eRows (Gh.backE F))) ++ [101, 32]) ++ Lib.decDigits xa) ++ [32]) ++ Lib.decDigits ya) := ⟨_, rfl⟩
      obtain ⟨V5, hV5⟩ : ∃ Y, Y = bz (Ld.printL L (Gh.backE F ++ [((xa : Int), (ya : Int))])) := ⟨_, rfl⟩
      have v1 : ∀ W, (Op.stringOp .add Y0 ⟨#[101, 32]⟩).run Tryz.prog W = .ok (.string V1) W := Ld.addT (l := tellL (Ld.vRows 0 L) ++ tellL (Ld.eRows (Gh.backE F))) (m := [101, 32]) HY0.out rfl rfl (by simp; omega) hV1
      have v2 : ∀ W, (Op.stringOp .add V1 (decB xa)).run Tryz.prog W = .ok (.string V2) W := Ld.addT (m := Lib.decDigits xa) hV1 rfl rfl (by simp; omega) hV2
      have v3 : ∀ W, (Op.stringOp .add V2 ⟨#[32]⟩).run Tryz.prog W = .ok (.string V3) W := Ld.addT (m := [32]) hV2 rfl rfl (by simp; omega) hV3
      have v4 : ∀ W, (Op.stringOp .add V3 (decB ya)).run Tryz.prog W = .ok (.string V4) W := Ld.addT (m := Lib.decDigits ya) hV3 rfl rfl (by simp; omega) hV4
      have v5 : ∀ W, (Op.stringOp .add V4 ⟨#[10]⟩).run Tryz.prog W = .ok (.string V5) W := Ld.addT (m := [10]) hV4 rfl (print_edge L _ xa ya) (by rw [← print_edge]; simp; omega) hV5
      have HTh := Lib.hid (show ∀ W, Below w3.heap.size w3 W → Calls Tryz.prog 10 #[.string V5] W fun e w' => ∃ (T : TypeId) (x : Value), e = .returned (.tuple #[.pointer none, .iface T x]) ∧ (Err.step tGraph (.flt 11 ((k : Int) + (j : Int)) tEdge)).At w' (.iface T x) ∧ Below W.heap.size W w' from fun W hW => by
        rw [hV5]
        have h := LText_edge (w := W) (Ld.text_print (L := L) (F := Gh.backE F ++ [((xa : Int), (ya : Int))]) HOK.out.six.1 (fun e he => by
          rcases List.mem_append.1 he with he | he
          · exact HOK.out.back6 e he
          · rw [List.mem_singleton.1 he]; exact HOK.out.six.2 _ HMm.out) (by rw [HL.out]; omega)) (Gh.new_twice HOK.out.l9 (by rw [HFm.out]; omega) HOK.out.lab HOK.out.has HMm.out) (by rw [← print_edge]; simp; omega) (HG.out.keep (HB3.out.andThen hW)) (HLw.out.keep (HB3.out.andThen hW))
        rwa [show ((L.length + F.length : Nat) : Int) = (k : Int) + (j : Int) from by rw [HL.out, HFm.out]; omega] at h)
      have HM1 := Lib.hid (show ∀ W, Below w11.heap.size w11 W → Calls Tryz.prog 9 #[.int .i64 (xa : Int)] W fun e w' => e = .returned (.string (decB xa)) ∧ Below w11.heap.size w11 w' from fun W hW => (RefNum_any xa W (by omega)).mono fun e w' h => ⟨h.1, hW.andThen h.2⟩)
      have HM2 := Lib.hid (show ∀ W, Below w11.heap.size w11 W → Calls Tryz.prog 9 #[.int .i64 (ya : Int)] W fun e w' => e = .returned (.string (decB ya)) ∧ Below w11.heap.size w11 w' from fun W hW => (RefNum_any ya W (by omega)).mono fun e w' h => ⟨h.1, hW.andThen h.2⟩)
      have HAll := Lib.hid (show ∀ W, Below w11.heap.size w11 W → W.cell? ⟨qd, 0, none⟩ = some (.int .i64 (xa : Int)) ∧ W.cell? ⟨qd, 1, none⟩ = some (.int .i64 (ya : Int)) from fun W hW => by
        have h0 := (HKd.out.keep hW).cell 0
        have h1 := (HKd.out.keep hW).cell 1
        simp at h0 h1
        exact ⟨h0, h1⟩)
      generalize decB xa = D1 at *
      generalize decB ya = D2 at *
      have HZ1 := Lib.hid z1
      have HZ2 := Lib.hid z2
      clear hV1 hV2 hV3 hV4 hV5 hd1 hd2 hvl hel hxy z1 z2
      go_upto_region 24 with (fail)
      refine wp_region_qtail (fun W => Below w11.heap.size w11 W) 14 rfl (by kernel_rfl) (by kernel_rfl) (bel_drewN (Below.refl _ _) 1) ?_
      simp only [List.take_succ_cons, List.take_zero, List.drop_succ_cons, List.drop_zero]
      repeat (
        first
          | (apply qq_want
             · rfl
             · intro W hW
               have zz := HAll.out W hW
               go_simp
               first
                 | done
                 | exact rfl
                 | with_reducible exact HM1.out W hW
                 | with_reducible exact HM2.out W hW)
          | (refine qq_pass ?_ ?_
             · rfl)
        try simp only [Act.put, List.setIfInBounds_toArray, List.set_cons_zero, List.set_cons_succ])
      refine qq_nil ?_
      intro w12 hbq
      have HQ12 := Lib.hid (HQ11.out.andThen hbq)
      clear hbq v1 v2 v3 v4 v5 a0
      unfold Oper.wp
      go_simp
      refine (HTh.out _ HQ12.out).mono ?_
      clear HTh
      rintro e w13 ⟨T13, x13, rfl, hv13, hb13⟩
      have HQ13 := Lib.hid (HQ12.out.andThen hb13)
      have HV13 := Lib.hid hv13
      clear hv13 hb13
      repeat (
        first
          | (apply qq_want
             · rfl
             · intro W hW
               go_simp
               first
                 | done
                 | exact rfl)
          | (refine qq_pass ?_ ?_
             · rfl)
        try simp only [Act.put, List.setIfInBounds_toArray, List.set_cons_zero, List.set_cons_succ])
      refine qq_nil ?_
      have z1 := HZ1.out
      have z2 := HZ2.out
      go_upto_region 26 with (go_at_call 10; refine (HTi.out _ HQ13.out).mono ?_; clear HTi; rintro e w14 ⟨T14, x14, rfl, hv14, hb14⟩; have HQ14 := Lib.hid (HQ13.out.andThen hb14); have HV14 := Lib.hid hv14; have HW14 := Lib.hid (HV13.out.keep hb14); clear hv14 hb14)
      clear z1 z2
      have HErr := Lib.hid (show ∀ W, Below w14.heap.size w14 W → ErrT W from fun W hW => HG.out.keep (HB3.out.andThen (HQ14.out.andThen hW)))
      have HC1 := Lib.hid (show ∀ W, Below w14.heap.size w14 W → Calls Tryz.prog 15 #[.iface T13 x13] W fun e w' => e = .returned (.int .i64 11) ∧ Below w14.heap.size w14 w' from fun W hW => (Code_any _ _ W (HW14.out.keep hW) (HErr.out W hW)).mono fun e w' h => ⟨h.1, hW.andThen h.2⟩)
      have HA1 := Lib.hid (show ∀ W, Below w14.heap.size w14 W → Calls Tryz.prog 16 #[.iface T13 x13] W fun e w' => e = .returned (.int .i64 ((k : Int) + (j : Int))) ∧ Below w14.heap.size w14 w' from fun W hW => (At_any _ _ W (HW14.out.keep hW) (HErr.out W hW)).mono fun e w' h => ⟨h.1, hW.andThen h.2⟩)
      have HC2 := Lib.hid (show ∀ W, Below w14.heap.size w14 W → Calls Tryz.prog 15 #[.iface T14 x14] W fun e w' => e = .returned (.int .i64 11) ∧ Below w14.heap.size w14 w' from fun W hW => (Code_any _ _ W (HV14.out.keep hW) (HErr.out W hW)).mono fun e w' h => ⟨h.1, hW.andThen h.2⟩)
      have HA2 := Lib.hid (show ∀ W, Below w14.heap.size w14 W → Calls Tryz.prog 16 #[.iface T14 x14] W fun e w' => e = .returned (.int .i64 (k : Int)) ∧ Below w14.heap.size w14 w' from fun W hW => (At_any _ _ W (HV14.out.keep hW) (HErr.out W hW)).mono fun e w' h => ⟨h.1, hW.andThen h.2⟩)
      have hwk : IntKind.i64.wrap ((k : Int) + (j : Int)) = (k : Int) + (j : Int) := by rw [IntKind.wrap_i64]; omega
      have HKe := Lib.hid (fun W (hW : Below w14.heap.size w14 W) => HKc.out W (HQ14.out.andThen hW))
      refine wp_region_qq (fun W => Below w14.heap.size w14 W) (by kernel_rfl) (by kernel_rfl) (bel_drewN (Below.refl _ _) 1) ?_
      repeat (
        first
          | (apply qq_want
             · rfl
             · intro W hW
               have zz := HKe.out W hW
               go_simp
               first
                 | done
                 | exact rfl
                 | with_reducible exact HC1.out W hW
                 | with_reducible exact HA1.out W hW
                 | with_reducible exact HC2.out W hW
                 | with_reducible exact HA2.out W hW)
          | (refine qq_pass ?_ ?_
             · rfl)
        try simp only [Act.put, List.setIfInBounds_toArray, List.set_cons_zero, List.set_cons_succ])
      refine qq_nil ?_
      intro w15 hbq
      have HQ15 := Lib.hid (HQ14.out.andThen hbq)
      clear hbq hwk
      go_wp2_with fail
      go_ret
      exact ⟨rfl, HB3.out.andThen HQ15.out⟩

/-- LoadMore, as its frame asks it. -/
theorem LoadMore_main (A0 : Option Addr) (n0 c0 : Nat) (L : List Int) (A1 : Option Addr) (n1 c1 : Nat) (E : List (Int × Int)) (a2 : Int) (w : World) (hg : ErrT w) (hL : LibW w) (m0 : n0 ≤ maxLen) (e0 : L.length = n0) (s0 : Sl w 1 A0 n0 (L.map (Value.int .i64))) (w0 : ∀ z ∈ L, (Lit.int .i64 z).wf = true) (q0 : n0 ≤ c0 ∧ c0 ≤ 9223372036854775807)
    (m1 : n1 ≤ maxLen) (e1 : E.length = n1) (s1 : Sl w 2 A1 n1 (Rk.cells E)) (w1 : ∀ x ∈ E, (Lit.int .i64 x.1).wf = true ∧ (Lit.int .i64 x.2).wf = true) (q1 : n1 ≤ c1 ∧ c1 ≤ 9223372036854775807) (w2 : (Lit.int .u8 a2).wf = true) :
    Calls Tryz.prog 3 #[.slice A0 n0 c0, .slice A1 n1 c1, .int .u8 a2] w fun e w' => e = .returned (.bool true) ∧ Below w.heap.size w w' :=
  LoadMore_walk L E a2 A0 A1 n0 c0 n1 c1 w hg hL e0 s0 s1 (fun e he => ⟨wf_i64 (w1 e he).1, wf_i64 (w1 e he).2⟩) (wf_u8 w2)
end Go.Proofs.YtbbmgcdocolakaaGreatDoor
