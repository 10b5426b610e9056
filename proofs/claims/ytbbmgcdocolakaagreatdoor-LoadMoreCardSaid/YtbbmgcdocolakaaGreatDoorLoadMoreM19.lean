/-
  Part 19 of the proof of LoadMore: GrE, LdE, GrD, GrF.
-/
import Derived.BigQuiet
import Derived.Test.YtbbmgcdocolakaaGreatDoorLoadMoreM16
import Derived.Test.YtbbmgcdocolakaaGreatDoorLoadMoreM18
import Derived.Test.YtbbmgcdocolakaaGreatDoorLoadMoreM3
set_option linter.unusedVariables false
/-
  A graph's methods: Len, Size, Label, Edge, Same.
-/
namespace Go.Proofs.YtbbmgcdocolakaaGreatDoor
open Go.RowKit
attribute [local go_sem ↓] Go.wp_at_zero Go.wp_at_succ
set_option maxRecDepth 100000
set_option linter.unusedVariables false

section
variable {w : World} {g : Nat} {L : List Int} {F : List (Int × Int)}
theorem GLen_any (h : GraphAt w g L F) : Calls Tryz.prog 12 #[.pointer (some ⟨g, 0, none⟩)] w fun e w' => e = .returned (.int .i64 (L.length : Nat)) ∧ w = w' := by
  obtain ⟨A, c, B, d, C, N, I, hk, _⟩ := h
  have c0 := hk.cell 0
  simp at c0
  clear hk
  go_enter Tryz.func12, Tryz.ntmps12
  go_wp2_with fail
  go_ret
  exact ⟨rfl, rfl⟩
theorem GLen_nil (w : World) : Calls Tryz.prog 12 #[.pointer none] w fun e w' => e = .returned (.int .i64 0) ∧ w = w' := by
  go_enter Tryz.func12, Tryz.ntmps12
  go_wp2_with fail
  go_ret
  exact ⟨rfl, rfl⟩
theorem GSize_any (h : GraphAt w g L F) : Calls Tryz.prog 13 #[.pointer (some ⟨g, 0, none⟩)] w fun e w' => e = .returned (.int .i64 (F.length : Nat)) ∧ w = w' := by
  obtain ⟨A, c, B, d, C, N, I, hk, _⟩ := h
  have c1 := hk.cell 1
  simp at c1
  clear hk
  go_enter Tryz.func13, Tryz.ntmps13
  go_wp2_with fail
  go_ret
  exact ⟨rfl, rfl⟩
theorem GSize_nil (w : World) : Calls Tryz.prog 13 #[.pointer none] w fun e w' => e = .returned (.int .i64 0) ∧ w = w' := by
  go_enter Tryz.func13, Tryz.ntmps13
  go_wp2_with fail
  go_ret
  exact ⟨rfl, rfl⟩
theorem GHas_t (h : GraphAt w g L F) {v : Nat} (hv : v < L.length) : Calls Tryz.prog 68 #[.pointer (some ⟨g, 0, none⟩), .int .i64 (v : Int)] w fun e w' => e = .returned (.bool true) ∧ w = w' := by
  have HL := Lib.hid (GLen_any h)
  have v0 : (0 : Int) ≤ (v : Int) := by omega
  have v1 : (v : Int) < (L.length : Int) := by omega
  clear h
  generalize L.length = n at *
  go_enter Tryz.func68, Tryz.ntmps68
  go_wp2_with (go_at_call 12; refine HL.out.mono ?_; rintro e w' ⟨rfl, rfl⟩)
  go_ret
  exact ⟨rfl, rfl⟩
theorem GLabel_any (h : GraphAt w g L F) {v : Nat} {x : Int} (hx : L[v]? = some x) : Calls Tryz.prog 42 #[.pointer (some ⟨g, 0, none⟩), .int .i64 (v : Int)] w fun e w' => e = .returned (.int .i64 x) ∧ w = w' := by
  have hv := (List.getElem?_eq_some_iff.1 hx).1
  have HH := Lib.hid (GHas_t h hv)
  obtain ⟨A, c, B, d, C, N, I, hk, hs, _⟩ := h
  obtain ⟨b1, o1, hA, _⟩ := hs.at_ hv
  subst hA
  have hc := hs.again hv (by rw [List.getElem?_map, hx]; rfl)
  have c0 := hk.cell 0
  simp at c0
  have v0 : (0 : Int) ≤ (v : Int) := by omega
  have v1 : (v : Int) < (L.length : Int) := by omega
  clear hk hs hx
  generalize L.length = n at *
  go_enter Tryz.func42, Tryz.ntmps42
  go_wp2_with (go_at_call 68; refine HH.out.mono ?_; rintro e w' ⟨rfl, rfl⟩)
  go_ret
  exact ⟨rfl, rfl⟩
theorem GEdge_any (h : GraphAt w g L F) {v : Nat} {x y : Int} (hx : F[v]? = some (x, y)) : Calls Tryz.prog 75 #[.pointer (some ⟨g, 0, none⟩), .int .i64 (v : Int)] w fun e w' => e = .returned (.tuple #[.agg #[.int .i64 x, .int .i64 y], .bool true]) ∧ Below w.heap.size w w' := by
  have hv := (List.getElem?_eq_some_iff.1 hx).1
  obtain ⟨w0, hw0⟩ : ∃ W, W = w.alloc (.cells #[.int .i64 0, .int .i64 0] 76) := ⟨_, rfl⟩
  have HB0 := Lib.hid (show Below w.heap.size w w0 from by rw [hw0]; exact bel_al (Below.refl _ _) _)
  have HK0 := Lib.hid (show Blk w0 w.heap.size 76 #[.int .i64 0, .int .i64 0] from by rw [hw0]; exact Blk.new _ _ _)
  have HH := Lib.hid (GSize_any (h.keep HB0.out))
  obtain ⟨A, c, B, d, C, N, I, hk, _, hs, _⟩ := h.keep HB0.out
  obtain ⟨b1, o1, hA, e0, e1⟩ := hs.edge hv hx
  subst hA
  simp only at e0 e1
  have c1 := hk.cell 1
  have k0 := HK0.out.cell 0
  have k1 := HK0.out.cell 1
  have f0 := HK0.out.frozen 0
  have f1 := HK0.out.frozen 1
  simp at c1 k0 k1
  have v0 : ¬ (v : Int) < 0 := by omega
  have v1 : (v : Int) < (F.length : Int) := by omega
  have v2 : ¬ (F.length : Int) ≤ (v : Int) := by omega
  clear hk hs hx h
  generalize F.length = n at *
  go_enter Tryz.func75, Tryz.ntmps75
  go_upto_region 1 with (fail)
  rw [← hw0]
  clear hw0
  go_wp2_with (go_at_call 13; refine HH.out.mono ?_; rintro e w' ⟨rfl, rfl⟩)
  have hx := (HK0.out.set_ 0 (.int .i64 x)).set_ 1 (.int .i64 y)
  have x00 := hx.cell 0
  have x01 := hx.cell 1
  simp at x00 x01
  refine bodyPost_ret (v := .tuple #[.agg #[.int .i64 x, .int .i64 y], .bool true]) (by simp [results, Tryz.results75, go_sem, x00, x01]) rfl ?_
  exact ⟨rfl, (HB0.out.setCell (p := ⟨w.heap.size, 0, none⟩) (Nat.le_refl _) _).setCell (p := ⟨w.heap.size, 1, none⟩) (Nat.le_refl _) _⟩
end
set_option maxHeartbeats 1000000 in
theorem EqualIG_any (p q : List Int) (A B : Option Addr) (n m c d : Nat) (w : World) (hl : p.length = n) (hm : q.length = m) (hs : Sl w 1 A n (p.map (Value.int .i64))) (ht : Sl w 1 B m (q.map (Value.int .i64))) (hn : n ≤ 9223372036854775806) :
    Calls Tryz.prog 34 #[.slice A n c, .slice B m d] w fun e w' => e = .returned (.bool (decide (p = q))) ∧ Below w.heap.size w w' := by
  go_enter Tryz.func34, Tryz.ntmps34
  by_cases hnm : n = m
  · subst hnm
    go_wp2
    go_loopw [13] (fun i wr => ∃ k : Nat, k ≤ n ∧ i = .int .i64 k ∧ p.take k = q.take k ∧ Below w.heap.size w wr) (fun i _ => n - (intOf i).toNat)
    case atStart => exact ⟨0, Nat.zero_le _, rfl, rfl, Below.refl _ _⟩
    case round =>
      obtain ⟨k, hk, rfl, heq, hb⟩ := hrel
      by_cases hlt : k < n
      · have hj : k < p.length := by omega
        have hj' : k < q.length := by omega
        obtain ⟨b, off, u, rfl, e1, c1⟩ := (hs.keep hb).one hlt
        obtain ⟨b', off', u', rfl, e2, c2⟩ := (ht.keep hb).one hlt
        rw [List.getElem?_map, List.getElem?_eq_getElem hj] at e1
        rw [List.getElem?_map, List.getElem?_eq_getElem hj'] at e2
        obtain rfl := Option.some.inj e1
        obtain rfl := Option.some.inj e2
        have HT := Lib.hid (List.take_succ_eq_append_getElem hj)
        have HT' := Lib.hid (List.take_succ_eq_append_getElem hj')
        have HE := Lib.hid heq
        have HP := Lib.hid (fun h : p = q => (by subst h; rfl : p[k] = q[k]))
        generalize p[k] = x at *
        generalize q[k] = y at *
        clear e1 e2 heq hs ht
        by_cases hxy : x = y
        · subst hxy
          have hb0 : (x != x) = false := by simp
          go_wp2_with fail
          go_quiet (fail)
          go_wp2_with fail
          go_roundw
          case rel => exact ⟨k + 1, by omega, by go_num, by rw [HT.out, HT'.out, HE.out], bel_drewN hb _⟩
          case measure => simp [intOf]; omega
        · have hb1 : (x != y) = true := by simpa using hxy
          go_wp2_with fail
          go_quiet (fail)
          go_wp2_with fail
          go_ret
          exact ⟨ret_bool (decide_eq_false (fun h => hxy (HP.out h))).symm, bel_drewN hb _⟩
      · obtain rfl : k = n := by omega
        rw [List.take_of_length_le (by omega), List.take_of_length_le (by omega)] at heq
        have HE := Lib.hid heq
        clear heq hs ht
        go_wp2
        go_ret
        exact ⟨ret_bool (decide_eq_true HE.out).symm, hb⟩
  · have hne : p ≠ q := fun h => hnm (by rw [← hl, ← hm, h])
    have HN := Lib.hid hne
    have hb1 : ((n : Int) != (m : Int)) = true := by simp; omega
    clear hne hs ht
    go_wp2
    go_ret
    exact ⟨ret_bool (decide_eq_false HN.out).symm, Below.refl _ _⟩

set_option maxHeartbeats 2000000 in
theorem EqualE_same (E : List (Int × Int)) (A B : Option Addr) (m c d : Nat) (w : World) (hm : m ≤ 1000000) (hs : Sl w 2 A m (Rk.cells E)) (ht : Sl w 2 B m (Rk.cells E)) :
    Calls Tryz.prog 35 #[.slice A m c, .slice B m d] w fun e w' => e = .returned (.bool true) ∧ Below w.heap.size w w' := by
  have HS := Lib.hid hs
  have HT := Lib.hid ht
  have HL := Lib.hid ht.len2
  clear hs ht
  go_enter Tryz.func35, Tryz.ntmps35
  go_wp2_with fail
  go_loopw [13] (fun i wr => ∃ k : Nat, k ≤ m ∧ i = .int .i64 (k : Int) ∧ Hid (Below w.heap.size w wr)) (fun i _ => m - (intOf i).toNat)
  case atStart => exact ⟨0, Nat.zero_le _, rfl, Lib.hid (Below.refl _ _)⟩
  case round =>
    obtain ⟨k, hk, rfl, HB⟩ := hrel
    by_cases hlt : k < m
    · have hlt' : (k : Int) < (m : Int) := by omega
      have hk0 : (0 : Int) ≤ (k : Int) := by omega
      obtain ⟨⟨x, y⟩, he⟩ : ∃ e, E[k]? = some e := ⟨_, List.getElem?_eq_getElem (by rw [HL.out]; exact hlt)⟩
      obtain ⟨b1, o1, rfl, c0, c1⟩ := (HS.out.keep HB.out).edge hlt he
      obtain ⟨b2, o2, rfl, d0, d1⟩ := (HT.out.keep HB.out).edge hlt he
      simp only at c0 c1 d0 d1
      clear he
      go_wp2_with fail
      go_quiet (fail)
      go_wp2_with fail
      go_roundw
      case rel => exact ⟨k + 1, by omega, by go_num, Lib.hid (bel_drewN HB.out _)⟩
      case measure => simp [intOf]; omega
    · obtain rfl : k = m := by omega
      have hlt' : ¬ (k : Int) < (k : Int) := by omega
      go_wp2_with fail
      go_ret
      exact ⟨rfl, HB.out⟩
set_option maxHeartbeats 2000000 in
theorem GSame_same {w : World} {g h : Nat} {L : List Int} {F : List (Int × Int)} (hg : GraphAt w g L F) (hh : GraphAt w h L F) (hl : L.length ≤ 4096) (hf : F.length ≤ 16384) :
    Calls Tryz.prog 11 #[.pointer (some ⟨g, 0, none⟩), .pointer (some ⟨h, 0, none⟩)] w fun e w' => e = .returned (.bool true) ∧ Below w.heap.size w w' := by
  obtain ⟨A, c, B, d, C, N, I, hk, hs, ht, _⟩ := hg
  obtain ⟨A', c', B', d', C', N', I', hk', hs', ht', _⟩ := hh
  have HAll := Lib.hid (show ∀ W, Below w.heap.size w W → (W.cell? ⟨g, 0, none⟩ = some (.slice A L.length c) ∧ W.cell? ⟨g, 1, none⟩ = some (.slice B F.length d)) ∧ (W.cell? ⟨h, 0, none⟩ = some (.slice A' L.length c') ∧ W.cell? ⟨h, 1, none⟩ = some (.slice B' F.length d')) from fun W hW => ⟨⟨(hk.keep hW).cell 0, (hk.keep hW).cell 1⟩, (hk'.keep hW).cell 0, (hk'.keep hW).cell 1⟩)
  have H1 := Lib.hid (show ∀ W, Below w.heap.size w W → Calls Tryz.prog 34 #[.slice A L.length c, .slice A' L.length c'] W fun e w' => e = .returned (.bool true) ∧ Below w.heap.size w w' from fun W hW => (EqualIG_any L L A A' L.length L.length c c' W rfl rfl (hs.keep hW) (hs'.keep hW) (by omega)).mono fun e w' h => ⟨by rw [h.1]; simp, hW.andThen h.2⟩)
  have H2 := Lib.hid (show ∀ W, Below w.heap.size w W → Calls Tryz.prog 35 #[.slice B F.length d, .slice B' F.length d'] W fun e w' => e = .returned (.bool true) ∧ Below w.heap.size w w' from fun W hW => (EqualE_same F B B' F.length d d' W (by omega) (ht.keep hW) (ht'.keep hW)).mono fun e w' h => ⟨h.1, hW.andThen h.2⟩)
  clear hk hk' hs hs' ht ht'
  generalize L.length = n at *
  generalize F.length = m at *
  go_enter Tryz.func11, Tryz.ntmps11
  go_upto_region 3 with (fail)
  refine wp_region_qq (fun W => Below w.heap.size w W) (by kernel_rfl) (by kernel_rfl) (bel_drewN (Below.refl _ _) 1) ?_
  repeat (
    first
      | (apply qq_want
         · rfl
         · intro W hW
           have zz := HAll.out W hW
           go_simp
           first
             | done
             | exact rfl
             | with_reducible exact H1.out W hW
             | with_reducible exact H2.out W hW)
      | (refine qq_pass ?_ ?_
         · rfl)
    try simp only [Act.put, List.setIfInBounds_toArray, List.set_cons_zero, List.set_cons_succ])
  refine qq_nil ?_
  intro wq hbq
  have HBq := Lib.hid hbq
  clear hbq
  go_wp2_with fail
  go_ret
  exact ⟨rfl, HBq.out⟩
end Go.Proofs.YtbbmgcdocolakaaGreatDoor
/-
  Chapter 5's example, and what is alive.
-/
namespace Go.Proofs.YtbbmgcdocolakaaGreatDoor
open Go.RowKit Go.Proofs.YtbbmgcdocolakaaGreatDoor.Pg
attribute [local go_sem ↓] Go.wp_at_zero Go.wp_at_succ
set_option maxRecDepth 100000
set_option linter.unusedVariables false

def exT5 : List UInt8 := [118, 32, 48, 32, 53, 10, 118, 32, 49, 32, 53, 10, 101, 32, 48, 32, 49, 10]
def exB5 : List UInt8 := [118, 32, 48, 32, 53, 10, 118, 32, 49, 32, 53]
theorem ex_ok5 : Ld.textL exT5 = .ok [5, 5] [(0, 1)] := by rfl
theorem ex_bad5 : Ld.textL exB5 = .bad 1 := by rfl
theorem ex_new5 : Gh.newR [5, 5] [(0, 1)] = .ok [(0, 1)] := by rfl
theorem Text_x5 (w : World) (hg : ErrT w) (hL : LibW w) : Calls Tryz.prog 10 #[.string ⟨#[118, 32, 48, 32, 53, 10, 118, 32, 49, 32, 53, 10, 101, 32, 48, 32, 49, 10]⟩] w fun e w' => ∃ g, e = .returned (.tuple #[.pointer (some ⟨g, 0, none⟩), .nilIface]) ∧ GraphAt w' g [5, 5] [(0, 1)] ∧ Below w.heap.size w w' :=
  (LText_any exT5 _ w rfl (by decide) hg hL).mono fun e w' h => by
    have h2 := h.2
    rw [ex_ok5] at h2
    rcases h2 with ⟨F, g, h3, h4, h5⟩ | ⟨h3, _⟩
    · rw [ex_new5] at h3
      injection h3 with h3
      subst h3
      exact ⟨g, h4, h5, h.1⟩
    · exact absurd ex_new5 (h3 _)
theorem Text_y5 (w : World) (hg : ErrT w) (hL : LibW w) : Calls Tryz.prog 10 #[.string ⟨#[118, 32, 48, 32, 53, 10, 118, 32, 49, 32, 53]⟩] w fun e w' => ∃ v, e = .returned (.tuple #[.pointer none, v]) ∧ (Err.flt 11 1 tLine).At w' v ∧ Below w.heap.size w w' :=
  (LText_any exB5 _ w rfl (by decide) hg hL).mono fun e w' h => by
    have h2 := h.2
    rw [ex_bad5] at h2
    obtain ⟨v, h3, h4⟩ := h2
    exact ⟨v, h3, h4, h.1⟩
theorem alive05 (w : World) (hg : ErrT w) (hL : LibW w) : Calls Tryz.prog 7 #[] w fun e w' => e = .returned (.bool true) ∧ Below w.heap.size w w' := by
  have HX := Lib.hid (Text_x5 w hg hL)
  have HY := Lib.hid (fun W (hW : Below w.heap.size w W) => Text_y5 W (hg.keep hW) (hL.keep hW))
  have HG := Lib.hid hg
  clear hg hL
  go_enter Tryz.func7, Tryz.ntmps7
  go_upto_region 2 with (go_at_call 10; refine HX.out.mono ?_; clear HX; rintro e w1 ⟨g, rfl, hgr, hb1⟩; have HGr := Lib.hid hgr; have HB1 := Lib.hid hb1; clear hgr hb1)
  go_upto_region 3 with (go_at_call 10; refine (HY.out w1 HB1.out).mono ?_; clear HY; rintro e w2 ⟨v2, rfl, hv2, hb2⟩; have HV2 := Lib.hid hv2; have HG2 := Lib.hid (HGr.out.keep hb2); have HB2 := Lib.hid (HB1.out.andThen hb2); obtain ⟨q, rfl, hq⟩ := hv2; have HQ := Lib.hid hq; clear hq hb2)
  have HLn := Lib.hid (GLen_any HG2.out)
  have HSz := Lib.hid (GSize_any HG2.out)
  have HCd := Lib.hid (Code_flt q 11 1 tLine w2 (HG.out.keep HB2.out) HQ.out)
  have HAt := Lib.hid (fun W (hW : Below w2.heap.size w2 W) => At_flt q 11 1 tLine W (HG.out.keep (HB2.out.andThen hW)) (HQ.out.keep hW))
  rw [show (([5, 5] : List Int).length) = 2 from rfl] at HLn
  rw [show (([(0, 1)] : List (Int × Int)).length) = 1 from rfl] at HSz
  go_wp2_with (first
    | (go_at_call 12; refine HLn.out.mono ?_; clear HLn; rintro e w' ⟨rfl, rfl⟩)
    | (go_at_call 13; refine HSz.out.mono ?_; clear HSz; rintro e w' ⟨rfl, rfl⟩)
    | (go_at_call 15; refine HCd.out.mono ?_; clear HCd; rintro e w3 ⟨rfl, hb3⟩; have HB3 := Lib.hid hb3; clear hb3)
    | (go_at_call 16; refine (HAt.out _ HB3.out).mono ?_; clear HAt; rintro e w4 ⟨rfl, hb4⟩; have HB4 := Lib.hid (HB2.out.andThen (HB3.out.andThen hb4)); clear hb4))
  go_ret
  exact ⟨rfl, HB4.out⟩
end Go.Proofs.YtbbmgcdocolakaaGreatDoor
/-
  fretworklaw04.Of; the document's graphs: turned, less, Id.
-/
namespace Go.Proofs.YtbbmgcdocolakaaGreatDoor
open Go.RowKit
attribute [local go_sem ↓] Go.wp_at_zero Go.wp_at_succ
set_option maxRecDepth 100000
set_option linter.unusedVariables false

theorem RTurn_any (a b : Int) (w : World) : Calls Tryz.prog 54 #[.agg #[.int .i64 a, .int .i64 b]] w fun e w' => e = .returned (ev (turnE (a, b))) ∧ Below w.heap.size w w' := by
  by_cases h : b < a
  · have HT := Lib.hid (show turnE (a, b) = (b, a) by unfold turnE; rw [if_neg (by simp only; omega)])
    have HB := Lib.hid ((bel_al (bel_al (Below.refl w.heap.size w) (.cells #[.int .i64 a, .int .i64 b] 32)) (.cells #[.int .i64 b, .int .i64 a] 32)))
    go_enter Tryz.func54, Tryz.ntmps54
    go_wp2_with fail
    refine bodyPost_ret (v := .agg #[.int .i64 b, .int .i64 a]) (by simp [results, Tryz.results54, go_sem]) rfl ?_
    exact ⟨by rw [HT.out]; rfl, HB.out⟩
  · have HT := Lib.hid (show turnE (a, b) = (a, b) by unfold turnE; rw [if_pos (by simp only; omega)])
    have HB := Lib.hid ((bel_al (bel_al (Below.refl w.heap.size w) (.cells #[.int .i64 a, .int .i64 b] 32)) (.cells #[.int .i64 a, .int .i64 b] 32)))
    go_enter Tryz.func54, Tryz.ntmps54
    go_wp2_with fail
    refine bodyPost_ret (v := .agg #[.int .i64 a, .int .i64 b]) (by simp [results, Tryz.results54, go_sem]) rfl ?_
    exact ⟨by rw [HT.out]; rfl, HB.out⟩
theorem RLess_any (a1 a2 b1 b2 : Int) (w : World) : Calls Tryz.prog 56 #[.agg #[.int .i64 a1, .int .i64 a2], .agg #[.int .i64 b1, .int .i64 b2]] w fun e w' => e = .returned (.bool (decide (Pt.ordE (a1, a2) (b1, b2) < 0))) ∧ Below w.heap.size w w' := by
  have HB := Lib.hid ((bel_al (bel_al (Below.refl w.heap.size w) (.cells #[.int .i64 a1, .int .i64 a2] 32)) (.cells #[.int .i64 b1, .int .i64 b2] 32)))
  by_cases h : a1 = b1
  · subst h
    have HD := Lib.hid (show decide (a2 < b2) = decide (Pt.ordE (a1, a2) (a1, b2) < 0) from decide_eq_decide.2 (by rw [Gh.ord_less]; simp))
    go_enter Tryz.func56, Tryz.ntmps56
    go_wp2_with fail
    go_ret
    exact ⟨ret_bool HD.out, HB.out⟩
  · have hne : (a1 == b1) = false := by simpa using h
    have HD := Lib.hid (show decide (a1 < b1) = decide (Pt.ordE (a1, a2) (b1, b2) < 0) from decide_eq_decide.2 (by rw [Gh.ord_less]; simp only; omega))
    go_enter Tryz.func56, Tryz.ntmps56
    go_wp2_with fail
    go_ret
    exact ⟨ret_bool HD.out, HB.out⟩
set_option maxHeartbeats 4000000 in
theorem RId_any (L : List Int) (E : List (Int × Int)) (A B : Option Addr) (n c m d : Nat) (a b : Int) (w : World) (hm : m ≤ 1000000) (ht : Sl w 2 B m (Rk.cells E)) :
    Calls Tryz.prog 55 #[pv A n c B m d, .int .i64 a, .int .i64 b] w fun e w' => ∃ r : Int, e = .returned (.int .i64 r) ∧ decide (0 ≤ r) = (E.any fun e => decide (e = turnE (a, b))) ∧ Below w.heap.size w w' := by
  obtain ⟨w0, hw0⟩ : ∃ W, W = w.alloc (.cells #[.slice A n c, .slice B m d] 27) := ⟨_, rfl⟩
  have HBx := Lib.hid (show Below w.heap.size w w0 from by rw [hw0]; exact bel_al (Below.refl _ _) _)
  have HKx := Lib.hid (show Blk w0 w.heap.size 27 #[.slice A n c, .slice B m d] from by rw [hw0]; exact Blk.new _ _ _)
  obtain ⟨⟨t1, t2⟩, htt⟩ : ∃ t, t = turnE (a, b) := ⟨_, rfl⟩
  have HTu := Lib.hid (show Calls Tryz.prog 54 #[.agg #[.int .i64 a, .int .i64 b]] w0 fun e w' => e = .returned (.agg #[.int .i64 t1, .int .i64 t2]) ∧ Below w0.heap.size w0 w' from (RTurn_any a b w0).mono fun e w' h => ⟨by rw [h.1, ← htt]; rfl, h.2⟩)
  rw [← htt]
  have HT := Lib.hid ht
  have HL := Lib.hid ht.len2
  clear ht htt
  go_enter Tryz.func55, Tryz.ntmps55
  go_upto_region 1 with (fail)
  rw [← hw0]
  clear hw0
  go_upto_region 2 with (go_at_call 54; refine HTu.out.mono ?_; clear HTu; rintro e w1 ⟨rfl, hb1⟩; have HB1 := Lib.hid hb1; clear hb1)
  obtain ⟨w2, hw2⟩ : ∃ W, W = w1.alloc (.cells #[.int .i64 t1, .int .i64 t2] 32) := ⟨_, rfl⟩
  obtain ⟨qb, hqb⟩ : ∃ q, q = w1.heap.size := ⟨_, rfl⟩
  have HB2 := Lib.hid (show Below w.heap.size w w2 from by rw [hw2]; exact bel_al (HBx.out.andThen HB1.out) _)
  have HK2 := Lib.hid (show Blk w2 w.heap.size 27 #[.slice A n c, .slice B m d] from by rw [hw2]; exact (HKx.out.keep HB1.out).alloc _)
  have HKt := Lib.hid (show Blk w2 qb 32 #[.int .i64 t1, .int .i64 t2] from by rw [hw2, hqb]; exact Blk.new _ _ _)
  rw [← hw2, ← hqb]
  clear hw2 hqb HBx HKx HB1
  go_wp2_with fail
  go_loopw [8] (fun i wr => ∃ k : Nat, k ≤ m ∧ i = .int .i64 (k : Int) ∧ Hid (∀ e ∈ E.take k, decide (e = (t1, t2)) = false) ∧ Hid (Below w.heap.size w wr) ∧ Hid (Blk wr qb 32 #[.int .i64 t1, .int .i64 t2]) ∧ Hid (Blk wr w.heap.size 27 #[.slice A n c, .slice B m d])) (fun i _ => m - (intOf i).toNat)
  case atStart => exact ⟨0, Nat.zero_le _, rfl, Lib.hid (fun e he => by simp at he), HB2, HKt, HK2⟩
  case round =>
    obtain ⟨k, hk, rfl, HD, HB, HKr, HGr⟩ := hrel
    clear HB2 HKt HK2
    have g1 := HGr.out.cell 1
    simp at g1
    have b0 := HKr.out.cell 0
    have b1 := HKr.out.cell 1
    simp at b0 b1
    by_cases hlt : k < m
    · have hlt' : (k : Int) < (m : Int) := by omega
      have hk0 : (0 : Int) ≤ (k : Int) := by omega
      obtain ⟨⟨x, y⟩, he⟩ : ∃ e, E[k]? = some e := ⟨_, List.getElem?_eq_getElem (by rw [HL.out]; exact hlt)⟩
      obtain ⟨bb, off, rfl, c0, c1⟩ := (HT.out.keep HB.out).edge hlt he
      simp only at c0 c1
      have HX := Lib.hid he
      clear he
      have HNo := Lib.hid (show (x, y) ≠ (t1, t2) → ∀ e ∈ E.take (k + 1), decide (e = (t1, t2)) = false from fun h e he => by
        obtain ⟨h1, h2⟩ := List.getElem?_eq_some_iff.1 HX.out
        rw [List.take_succ_eq_append_getElem h1, h2] at he
        rcases List.mem_append.1 he with h3 | h3
        · exact HD.out e h3
        · rw [List.mem_singleton.1 h3]; exact decide_eq_false h)
      by_cases hx : x = t1
      · subst hx
        by_cases hy : y = t2
        · subst hy
          have HA := Lib.hid (show decide ((0 : Int) ≤ (k : Int)) = (E.any fun e => decide (e = (x, y))) from by
            rw [decide_eq_true hk0]
            exact (List.any_eq_true.2 ⟨(x, y), List.mem_of_getElem? HX.out, decide_eq_true rfl⟩).symm)
          clear HNo
          go_wp2_with fail
          go_quiet (fail)
          go_wp2_with fail
          go_ret
          exact ⟨(k : Int), rfl, HA.out, bel_drewN HB.out _⟩
        · have e2 : (y == t2) = false := by simpa using hy
          have HN := Lib.hid (HNo.out (fun h => hy (Prod.ext_iff.1 h).2))
          clear hy HNo
          go_wp2_with fail
          go_quiet (fail)
          go_wp2_with fail
          go_roundw
          case rel => exact ⟨k + 1, by omega, by go_num, HN, Lib.hid (bel_drewN HB.out _), Lib.hid (HKr.out.keep (bel_drewN (Below.refl _ _) _)), Lib.hid (HGr.out.keep (bel_drewN (Below.refl _ _) _))⟩
          case measure => simp [intOf]; omega
      · have e1 : (x == t1) = false := by simpa using hx
        have HN := Lib.hid (HNo.out (fun h => hx (Prod.ext_iff.1 h).1))
        clear hx HNo
        go_wp2_with fail
        go_quiet (fail)
        go_wp2_with fail
        go_roundw
        case rel => exact ⟨k + 1, by omega, by go_num, HN, Lib.hid (bel_drewN HB.out _), Lib.hid (HKr.out.keep (bel_drewN (Below.refl _ _) _)), Lib.hid (HGr.out.keep (bel_drewN (Below.refl _ _) _))⟩
        case measure => simp [intOf]; omega
    · obtain rfl : k = m := by omega
      have hlt' : ¬ (k : Int) < (k : Int) := by omega
      have HA := Lib.hid (show decide ((0 : Int) ≤ -1) = (E.any fun e => decide (e = (t1, t2))) from by
        have h := HD.out
        rw [List.take_of_length_le (by rw [HL.out]; exact Nat.le_refl _)] at h
        cases ha : E.any fun e => decide (e = (t1, t2)) with
        | false => rfl
        | true =>
          obtain ⟨x, hx, hq⟩ := List.any_eq_true.1 ha
          rw [h x hx] at hq
          cases hq)
      go_wp2_with fail
      go_ret
      exact ⟨-1, rfl, HA.out, HB.out⟩
end Go.Proofs.YtbbmgcdocolakaaGreatDoor
/-
  Words for the document's New of a graph.
-/
namespace Go.Proofs.YtbbmgcdocolakaaGreatDoor
open Go.RowKit
attribute [local go_sem ↓] Go.wp_at_zero Go.wp_at_succ
set_option maxRecDepth 100000
set_option linter.unusedVariables false

theorem elemEdge32 : Elem Tryz.prog 23 32 (.agg #[.int .i64 0, .int .i64 0]) 2 16 := ⟨Tryz.underlying23, by kernel_rfl, rfl, by decide⟩
theorem cellsG_drop (G : List (Int × Int)) (k : Nat) : (Rk.cells G).drop (k * 2) = Rk.cells (G.drop k) := by
  induction k generalizing G with
  | zero => simp
  | succ k ih =>
    cases G with
    | nil => simp [Rk.cells]
    | cons e G =>
      have h1 : Rk.cells (e :: G) = .int .i64 e.1 :: .int .i64 e.2 :: Rk.cells G := rfl
      rw [h1, show (k + 1) * 2 = k * 2 + 1 + 1 by omega, List.drop_succ_cons, List.drop_succ_cons, ih]
      rfl
theorem cellsG_take (G : List (Int × Int)) (k : Nat) : (Rk.cells G).take (k * 2) = Rk.cells (G.take k) := by
  induction k generalizing G with
  | zero => simp [Rk.cells]
  | succ k ih =>
    cases G with
    | nil => simp [Rk.cells]
    | cons e G =>
      have h1 : Rk.cells (e :: G) = .int .i64 e.1 :: .int .i64 e.2 :: Rk.cells G := rfl
      rw [h1, show (k + 1) * 2 = k * 2 + 1 + 1 by omega, List.take_succ_cons, List.take_succ_cons, ih]
      rfl
theorem cells_oneG (R : List (Int × Int)) : ∀ v ∈ Rk.cells R, v.oneCell' = true := by
  intro v hv
  unfold Rk.cells at hv
  obtain ⟨e, _, h⟩ := List.mem_flatMap.1 hv
  rcases List.mem_cons.1 h with rfl | h
  · rfl
  · rw [List.mem_singleton.1 h]
    rfl
/-- The first of a row of edges. -/
theorem Sl.take2 {w : World} {D : Option Addr} {j k : Nat} {G : List (Int × Int)} (h : Sl w 2 D j (Rk.cells G)) (hk : k ≤ j) : Sl w 2 D k (Rk.cells (G.take k)) := by
  have hl := h.len2
  refine ⟨by rw [← cellsG_take, List.length_take, h.1]; omega, fun h0 => ?_⟩
  obtain ⟨b, off, hD, hc⟩ := h.2 (by omega)
  refine ⟨b, off, hD, fun i u hu => hc i u ?_⟩
  rw [← cellsG_take, List.getElem?_take] at hu
  split at hu
  · exact hu
  · cases hu
/-- .. and the rest. -/
theorem Sl.drop2 {w : World} {b off j k : Nat} {G : List (Int × Int)} (h : Sl w 2 (some ⟨b, off, none⟩) j (Rk.cells G)) (hk : k ≤ j) : Sl w 2 (some ⟨b, off + k * 2, none⟩) (j - k) (Rk.cells (G.drop k)) := by
  refine ⟨by rw [← cellsG_drop, List.length_drop, h.1]; omega, fun h0 => ⟨b, off + k * 2, rfl, fun i u hu => ?_⟩⟩
  obtain ⟨b', off', hD, hc⟩ := h.2 (by omega)
  cases hD
  rw [← cellsG_drop, List.getElem?_drop] at hu
  have := hc (k * 2 + i) u hu
  rwa [Nat.add_assoc]
theorem own_eq5 {w : World} {B size n n' : Nat} {e : TypeId} {v v' : Value} {xs xs' : List Value} (h : w.ownsRow B e size v n xs) (hv : v = v') (hn : n = n') (hx : xs = xs') : w.ownsRow B e size v' n' xs' := by
  subst hv hn hx
  exact h
theorem cells_ins5 (G H : List (Int × Int)) (t1 t2 : Int) : Rk.cells (G ++ (t1, t2) :: H) = Rk.cells G ++ ([.int .i64 t1, .int .i64 t2] ++ Rk.cells H) := by simp [Rk.cells, List.flatMap_append]
theorem own0E (W : World) (B : Nat) (hB : B ≤ W.heap.size) : (W.alloc (.cells #[] 32)).ownsRow B 32 2 (.slice (some ⟨W.heap.size, 0, none⟩) 0 0) 0 [] := by
  have := World.ownsRow_made (base := B) (size := 2) (e := 32) W #[] 0 hB (by unfold maxLen; omega) rfl
  simpa using this
end Go.Proofs.YtbbmgcdocolakaaGreatDoor
