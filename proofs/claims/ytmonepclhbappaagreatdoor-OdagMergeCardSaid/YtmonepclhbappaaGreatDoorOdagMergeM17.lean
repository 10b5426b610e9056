/-
  Part 17 of the proof of OdagMerge: OdRl, OdRm.
-/
import Derived.BigQuiet
import Derived.Deep.DeepCutAuto
import Derived.Test.YtmonepclhbappaaGreatDoorOdagMergeM16
import Derived.Test.YtmonepclhbappaaGreatDoorOdagMergeM5
import Derived.Test.YtmonepclhbappaaGreatDoorOdagMergeM11
/-
  Odags: list: a list that rises, out of a reader.
-/
namespace Go.Proofs.YtmonepclhbappaaGreatDoor
open Go.RowKit
set_option maxRecDepth 100000
set_option linter.unusedVariables false

theorem lst_nn (l : List Int) (a : Nat) : ∀ x ∈ lst l a, 0 ≤ x := by
  have key : ∀ (r : List Int) (j : Nat), ∀ x ∈ wordsL r j, 0 ≤ x := fun r j => by
    induction j with
    | zero => intro x hx; cases hx
    | succ j ih =>
      intro x hx
      rw [wordsL] at hx
      rcases List.mem_append.1 hx with hx | hx
      · exact ih x hx
      · rw [List.mem_singleton.1 hx]
        omega
  exact key _ _
theorem inc_last {xs : List Int} (h : Inc xs) {k : Nat} (hk : xs.length = k + 1) {y : Int} (hy : xs[k]? = some y) : ∀ x ∈ xs, x ≤ y := fun x hx => by
  obtain ⟨i, hi, rfl⟩ := List.mem_iff_getElem.1 hx
  obtain ⟨h1, h2⟩ := List.getElem?_eq_some_iff.1 hy
  rcases Nat.lt_or_ge i k with hlt | hge
  · have := List.pairwise_iff_getElem.1 h i k hi h1 hlt
    omega
  · obtain rfl : i = k := by omega
    omega
/-- What list gives: a list; nothing of a reader that fails; an error. -/
def ListPost (B g : Nat) (A : Option Addr) (n c a : Nat) (E : Err) (l : List Int) (w : World) (e : Ending) (w' : World) : Prop :=
  Below B w w' ∧ Asd g w w' ∧ ((∃ v xs, e = .returned (.tuple #[v, .nilIface]) ∧ w'.ownsRow w.heap.size 3 1 v xs.length (xs.map (Value.int .i64)) ∧
      ((E = .nil ∧ okAt l a 65536 ∧ xs = lst l a ∧ rightO xs ∧ Rd w' B g A n c (nxtA l a) .nil) ∨ (xs = [] ∧ (E = .nil → ¬ okAt l a 65536) ∧ ∃ a' E', rdBad E' ∧ Rd w' B g A n c a' E'))) ∨
    ∃ gv cc t, (cc = 2 ∨ cc = 3) ∧ e = .returned (.tuple #[.slice none 0 0, .iface 104 (.pointer (some ⟨gv, 0, none⟩))]) ∧ Blk w' gv 107 #[.int .i64 cc, .int .i64 0, .string t] ∧ E = .nil ∧ okAt l a 65536 ∧ ¬ rightO (lst l a) ∧ Rd w' B g A n c (nxtA l a) .nil)

set_option maxHeartbeats 8000000 in
theorem OdList_any (g B : Nat) (A : Option Addr) (n c a : Nat) (E : Err) (l : List Int) (w : World) (hR : Rd w B g A n c a E) (hE : E = .nil ∨ rdBad E) (hn : n ≤ 100000) (hnc : n ≤ c) (hc9 : c ≤ 9223372036854775807) (hl : l.length = n) (hb : Bys l) (hB : ∀ w', Below B w w' → Sl w' 1 A n (l.map (Value.int .u8))) :
    Calls Tryz.prog 99 #[.pointer (some ⟨g, 0, none⟩)] w (ListPost B g A n c a E l w) := by
  have HL := Lib.hid (List_rd g B A n c a 65536 E l w hR hE (by omega) hnc hc9 hl hb hB)
  have hBw : B ≤ w.heap.size := by
    obtain ⟨h1, _, _, ev, h4, _⟩ := hR
    exact Nat.le_trans h1 (Nat.le_of_lt h4.lt)
  have HLl := Lib.hid hl
  clear hR hE hb hB
  go_enter Tryz.func99, Tryz.ntmps99
  go_upto_region 2 with (go_at_call 54; refine HL.out.mono ?_; clear HL; rintro e w1 ⟨v, xs, rfl, hown, hb, ha, hd⟩; have HO := Lib.hid hown; have HB := Lib.hid hb; have HA := Lib.hid ha; have HD := Lib.hid hd; obtain ⟨X, xc, rfl, hsl⟩ := Sl.own hown; have HS := Lib.hid hsl; clear hown hb ha hd hsl)
  have hlen : xs.length ≤ 100000 := by
    rcases HD.out with ⟨_, h1, h2, _⟩ | ⟨h2, _⟩
    · rw [h2, wordsL_len]
      have := h1.2.2
      have := HLl.out
      omega
    · rw [h2]; simp
  have hBw1 : B ≤ w1.heap.size := Nat.le_trans hBw HB.out.size
  have HRt := Lib.hid (Right_any xs X xs.length xc w1 rfl HS.out (by omega))
  obtain ⟨k, hk⟩ : ∃ k, k = xs.length := ⟨_, rfl⟩
  by_cases hI : Inc xs
  · rw [decide_eq_true hI] at HRt
    rcases Nat.eq_zero_or_pos k with h0 | h0
    · obtain rfl : xs = [] := List.eq_nil_of_length_eq_zero (by omega)
      simp only [List.length_nil] at HRt HS HO ⊢
      clear hk h0 hlen hI
      go_wp2_with (go_at_call 122; refine HRt.out.mono ?_; clear HRt; rintro e w2 ⟨rfl, hb⟩; have HB2 := Lib.hid hb; clear hb)
      go_ret2
      have hb2 := HB2.out
      refine ⟨HB.out.trans (hb2.mono hBw1), HA.out.trans (Asd.of hb2), .inl ⟨_, [], rfl, ownK HO.out hb2, ?_⟩⟩
      rcases HD.out with ⟨d1, d2, d3, d4⟩ | ⟨d1, d2, a', E', d3, d4⟩
      · exact .inl ⟨d1, d2, d3, ⟨List.Pairwise.nil, fun x hx => by cases hx⟩, d4.keep hb2⟩
      · exact .inr ⟨rfl, d2, a', E', d3, d4.keep hb2⟩
    · obtain ⟨j, rfl⟩ : ∃ j, k = j + 1 := ⟨k - 1, by omega⟩
      obtain ⟨y, hy⟩ : ∃ y, xs[j]? = some y := ⟨_, List.getElem?_eq_getElem (by omega)⟩
      rw [← hk] at HRt HS HO hlen ⊢
      have HK := Lib.hid hk
      obtain ⟨xb, xo, rfl, _⟩ := HS.out.at_ (show 0 < j + 1 by omega)
      have HC := Lib.hid (show ∀ V, Below w1.heap.size w1 V → V.cell? ⟨xb, xo + j, none⟩ = some (.int .i64 y) from fun V hV => (HS.out.keep hV).again (by omega) (by rw [List.getElem?_map, hy]; rfl))
      have hgood : E = .nil ∧ okAt l a 65536 ∧ xs = lst l a ∧ Rd w1 B g A n c (nxtA l a) .nil := by
        rcases HD.out with ⟨d1, d2, d3, d4⟩ | ⟨d1, _⟩
        · exact ⟨d1, d2, d3, d4⟩
        · rw [d1] at hy; simp at hy
      have HGd := Lib.hid hgood
      have hw1 : IntKind.i64.wrap ((j : Int) + 1 - 1) = (j : Int) := by rw [IntKind.wrap_i64]; omega
      have hj0 : (0 : Int) ≤ (j : Int) := by omega
      have hj1 : (0 : Int) < (j : Int) + 1 := by omega
      have hj2 : (j : Int) < (j : Int) + 1 := by omega
      by_cases hy2 : 2147483647 < y
      · have HNo := Lib.hid (show ¬ rightO (lst l a) from fun h => by
          rw [← hgood.2.2.1] at h
          have := (h.2 y (List.mem_of_getElem? hy)).2
          omega)
        clear hgood hy hI hk
        go_wp2_with (first
          | (go_at_call 122; refine HRt.out.mono ?_; clear HRt; rintro e w2 ⟨rfl, hb⟩; have HB2 := Lib.hid hb; have cy := HC.out w2 hb; clear hb)
          | (go_at_call 57; refine (New_err _ _ _ _).mono ?_; rintro e w3 ⟨v, rfl, ⟨gv, rfl, hv⟩, hb⟩; have HV := Lib.hid hv; have HB3 := Lib.hid hb; clear hv hb)
          | fail)
        go_ret2
        have hb3 := HB2.out.andThen HB3.out
        exact ⟨HB.out.trans (hb3.mono hBw1), HA.out.trans (Asd.of hb3), .inr ⟨gv, 3, _, .inr rfl, rfl, HV.out, HGd.out.1, HGd.out.2.1, HNo.out, HGd.out.2.2.2.keep hb3⟩⟩
      · have HRo := Lib.hid (show rightO xs from ⟨hI, fun x hx => by
          have h1 := inc_last hI HK.out.symm hy x hx
          have h2 := lst_nn l a x (by rw [← hgood.2.2.1]; exact hx)
          unfold numOK
          omega⟩)
        clear hgood hy hI hk
        go_wp2_with (first
          | (go_at_call 122; refine HRt.out.mono ?_; clear HRt; rintro e w2 ⟨rfl, hb⟩; have HB2 := Lib.hid hb; have cy := HC.out w2 hb; clear hb)
          | fail)
        go_ret2
        have hb2 := HB2.out
        refine ⟨HB.out.trans (hb2.mono hBw1), HA.out.trans (Asd.of hb2), .inl ⟨_, xs, rfl, by rw [← HK.out]; exact ownK HO.out hb2, ?_⟩⟩
        rcases HD.out with ⟨d1, d2, d3, d4⟩ | ⟨d1, d2, a', E', d3, d4⟩
        · exact .inl ⟨d1, d2, d3, HRo.out, d4.keep hb2⟩
        · exact .inr ⟨d1, d2, a', E', d3, d4.keep hb2⟩
  · rw [decide_eq_false hI] at HRt
    have hgood : E = .nil ∧ okAt l a 65536 ∧ xs = lst l a ∧ Rd w1 B g A n c (nxtA l a) .nil := by
      rcases HD.out with ⟨d1, d2, d3, d4⟩ | ⟨d1, _⟩
      · exact ⟨d1, d2, d3, d4⟩
      · rw [d1] at hI; exact absurd List.Pairwise.nil hI
    have HNo := Lib.hid (show ¬ rightO (lst l a) from fun h => by rw [← hgood.2.2.1] at h; exact hI h.1)
    have HGd := Lib.hid hgood
    clear hgood hI hk
    go_wp2_with (first
      | (go_at_call 122; refine HRt.out.mono ?_; clear HRt; rintro e w2 ⟨rfl, hb⟩; have HB2 := Lib.hid hb; clear hb)
      | (go_at_call 57; refine (New_err _ _ _ _).mono ?_; rintro e w3 ⟨v, rfl, ⟨gv, rfl, hv⟩, hb⟩; have HV := Lib.hid hv; have HB3 := Lib.hid hb; clear hv hb)
      | fail)
    go_ret2
    have hb3 := HB2.out.andThen HB3.out
    exact ⟨HB.out.trans (hb3.mono hBw1), HA.out.trans (Asd.of hb3), .inr ⟨gv, 2, _, .inl rfl, rfl, HV.out, HGd.out.1, HGd.out.2.1, HNo.out, HGd.out.2.2.2.keep hb3⟩⟩
end Go.Proofs.YtmonepclhbappaaGreatDoor
/-
  Odags: what lies in memory while one is read.
-/
namespace Go.Proofs.YtmonepclhbappaaGreatDoor
open Go.RowKit Go.Maps
set_option maxRecDepth 100000
set_option linter.unusedVariables false

/-- Rows of ints, each in cells of ints. -/
def AllT (W : World) (its : List (Option Addr × Nat × List Int)) : Prop := ∀ t ∈ its, RowOK W t ∧ IntAt W t.1
/-- A row grows whose cells are of another type than these. -/
def OthT (W : World) (row : Option Nat) (ts : List TypeId) : Prop := ∀ g, row = some g → ∃ cs t fr, W.heap[g]? = some (.cells cs t fr) ∧ t ∉ ts
section
variable {W W' w0 : World} {B g O b : Nat} {row : Option Nat} {its : List (Option Addr × Nat × List Int)} {v rvv : Value} {bs : List Nat} {od : List Rw} {A : Option Addr} {n c a : Nat} {E : Err}
theorem OthT.ne {t : TypeId} {ts : List TypeId} {cs : Array Value} (h : OthT W row ts) (ht : t ∈ ts) (hb : Blk W g t cs) : some g ≠ row := fun e => by
  obtain ⟨cs', t', fr, h1, h2⟩ := h g e.symm
  unfold Blk at hb
  rw [hb] at h1
  cases h1
  exact h2 ht
theorem OthT.sub {ts ts' : List TypeId} (h : OthT W row ts) (hs : ∀ t ∈ ts', t ∈ ts) : OthT W row ts' := fun g e => by
  obtain ⟨cs, t, fr, h1, h2⟩ := h g e
  exact ⟨cs, t, fr, h1, fun h3 => h2 (hs t h3)⟩
theorem OthT.of_blk {t : TypeId} {ts : List TypeId} {cs : Array Value} (hb : Blk W g t cs) (h : t ∉ ts) : OthT W (some g) ts := fun g' e => by
  cases e
  exact ⟨_, _, _, hb, h⟩
theorem OthT.of_own {e : TypeId} {size k : Nat} {xs : List Value} {ts : List TypeId} (hown : W.ownsRow B e size v k xs) (h : e ∉ ts) : OthT W v.ownBlock ts := fun g' e' => by
  rcases hown.2 with ⟨rfl, _⟩ | ⟨g2, cap, cur, rfl, _, h2, _⟩
  · simp [Value.ownBlock] at e'
  · obtain rfl : g2 = g' := by simpa [Value.ownBlock] using e'
    exact ⟨_, _, _, h2, h⟩
theorem own_oth {e : TypeId} {size k : Nat} {xs : List Value} {ts : List TypeId} (hown : W.ownsRow B e size v k xs) (h : OthT W row ts) (he : e ∈ ts) (hg : W.grownBy W' row) : W'.ownsRow B e size v k xs := own_block hown fun g' hg' => hg.block g' (hown.lt g' hg').2 fun e' => by
  obtain ⟨cs', t', fr, h1, h2⟩ := h g' e'.symm
  rcases hown.2 with ⟨rfl, _⟩ | ⟨g2, cap, cur, rfl, _, h3, _⟩
  · simp [Value.ownBlock] at hg'
  · obtain rfl : g2 = g' := by simpa [Value.ownBlock] using hg'
    rw [h3] at h1
    cases h1
    exact h2 he
theorem AllT.keep (h : AllT W its) (hb : Below W.heap.size W W') : AllT W' its := fun t ht => ⟨(h t ht).1.keep hb, (h t ht).2.keep hb⟩
theorem AllT.oth (h : AllT W its) (ho : OthT W row [3]) (hg : W.grownBy W' row) : AllT W' its := fun t ht => by
  obtain ⟨k1, k2⟩ := h t ht
  have hne : ∀ x : Addr, t.1 = some x → x.block < W.heap.size ∧ some x.block ≠ row := fun x hx => by
    obtain ⟨cs, fr, h4⟩ := k2 x hx
    refine ⟨(Array.getElem?_eq_some_iff.1 h4).1, fun e => ?_⟩
    obtain ⟨cs', t', fr', h5, h6⟩ := ho _ e.symm
    rw [h4] at h5
    cases h5
    exact h6 (by simp)
  refine ⟨⟨k1.1.grownQ hg hne, k1.2⟩, fun x hx => ?_⟩
  obtain ⟨cs, fr, h4⟩ := k2 x hx
  exact ⟨cs, fr, (hg.block _ (hne x hx).1 (hne x hx).2).trans h4⟩
theorem AllT.turned (h : AllT W its) (hm : NC W b) (hg : W.grownBy W' (some b)) : AllT W' its := fun t ht => ⟨(h t ht).1.turned hm hg, (h t ht).2.turned hm hg⟩
theorem OdW.oth (h : OdW B O v bs W od) (ho : OthT W row [3, 114, 117]) (hg : W.grownBy W' row) : OdW B O v bs W' od := by
  obtain ⟨h1, h2, h3, h4, h5⟩ := h
  refine ⟨h1, own_oth h2 ho (by simp) hg, h3, fun i b r hb' hr => (h4 i b r hb' hr).grown hg fun g' e => ?_, h5.grown hg (ho.ne (by simp) h5)⟩
  obtain ⟨cs, t, fr, k1, k2⟩ := ho g' e
  exact ⟨cs, t, fr, k1, fun e' => k2 (by simp [e'])⟩
theorem Rd.oth (h : Rd W B g A n c a E) (ho : OthT W row [150, 107]) (hg : W.grownBy W' row) : Rd W' B g A n c a E := by
  obtain ⟨h1, h2, h3, ev, h4, h5⟩ := h
  exact ⟨h1, h2, h3, ev, h4.grown hg (ho.ne (by simp) h4), h5.far h2 fun g cs h => h.grown hg (ho.ne (by simp) h)⟩
/-- The reader, the rows read, the odag. -/
def Mem (w0 : World) (B g O : Nat) (v : Value) (bs : List Nat) (A : Option Addr) (n c a : Nat) (E : Err) (rvv : Value) (its : List (Option Addr × Nat × List Int)) (od : List Rw) (W : World) : Prop :=
  Rd W B g A n c a E ∧ W.ownsRow B 22 1 rvv its.length (its.map rv) ∧ AllT W its ∧ OdW B O v bs W od ∧ Below B w0 W
theorem Mem.size (h : Mem w0 B g O v bs A n c a E rvv its od W) : B ≤ W.heap.size := by
  obtain ⟨⟨h1, _, _, ev, h4, _⟩, _⟩ := h
  exact Nat.le_trans h1 (Nat.le_of_lt h4.lt)
theorem Mem.keep (h : Mem w0 B g O v bs A n c a E rvv its od W) (hb : Below W.heap.size W W') : Mem w0 B g O v bs A n c a E rvv its od W' := by
  have hs := h.size
  obtain ⟨h1, h2, h3, h4, h5⟩ := h
  exact ⟨h1.keep hb, own_block h2 fun g' hg' => hb.block g' (h2.lt g' hg').2, h3.keep hb, h4.keep hb, h5.trans (hb.mono hs)⟩
theorem Mem.read {a' : Nat} {E' : Err} (h : Mem w0 B g O v bs A n c a E rvv its od W) (hb : Below B W W') (ha : Asd g W W') (hr : Rd W' B g A n c a' E') : Mem w0 B g O v bs A n c a' E' rvv its od W' := by
  obtain ⟨h1, h2, h3, h4, h5⟩ := h
  have hg := gb_asd hb ha
  obtain ⟨cs, hk⟩ := h1.blk
  exact ⟨hr, own_oth h2 (OthT.of_blk (ts := [22]) hk (by decide)) (by simp) hg, h3.oth (OthT.of_blk hk (by decide)) hg, h4.oth (OthT.of_blk hk (by decide)) hg, h5.trans hb⟩
theorem Mem.put {i : Nat} {r : Rw} (h : Mem w0 B g O v bs A n c a E rvv its od W) (hi : bs[i]? = some b) (hB : B ≤ b) (hm : NC W b) (hg : W.grownBy W' (some b)) (hr : MRowT W' b r) : Mem w0 B g O v bs A n c a E rvv its (od.set i r) W' := by
  have hs := h.size
  obtain ⟨h1, h2, h3, h4, h5⟩ := h
  exact ⟨h1.turned hm hg, own_turned h2 hm hg, h3.turned hm hg, h4.put hi hm hg hr, bel_turn h5 hg hB hs⟩
theorem Mem.push {w6 : World} {v6 : Value} {y : Option Addr × Nat × List Int} {o : Obj} (h : Mem w0 B g O v bs A n c a E rvv its od W) (hy : RowOK W y ∧ IntAt W y.1) (hown : w6.ownsRow B 22 1 v6 (its.length + 1) (its.map rv ++ [rv y])) (hgr : Gr (W.alloc o) w6 rvv v6) : Mem w0 B g O v bs A n c a E v6 (its ++ [y]) od w6 := by
  have hs := h.size
  have ha := h.keep (bel_al (Below.refl _ _) o)
  obtain ⟨h1, h2, h3, h4, h5⟩ := ha
  have hy2 : AllT (W.alloc o) [y] := AllT.keep (W := W) (fun t ht => by rw [List.mem_singleton.1 ht]; exact hy) (bel_al (Below.refl _ _) o)
  have hyy : AllT (W.alloc o) (its ++ [y]) := fun t ht => (List.mem_append.1 ht).elim (h3 t) (hy2 t)
  refine ⟨h1.oth (OthT.of_own h2 (by decide)) hgr.g, ?_, hyy.oth (OthT.of_own h2 (by decide)) hgr.g, h4.oth (OthT.of_own h2 (by decide)) hgr.g, h5.trans (hgr.belowOwn (by have := h.size; simp; omega) h2)⟩
  rw [List.length_append, List.map_append]
  exact hown
end
/-- Numbers laid into rows. -/
theorem putR_snoc {r : Rw} {a : Int} (h : ∀ q ∈ r, q.1 < a) (L : List Int) : putR r a L = r ++ [(a, L)] := by
  unfold putR
  have e1 : (r.filter fun p => decide (p.1 < a)) = r := List.filter_eq_self.2 fun q hq => decide_eq_true (h q hq)
  have e2 : (r.filter fun p => decide (a < p.1)) = [] := List.filter_eq_nil_iff.2 fun q hq => by have := h q hq; simp; omega
  rw [e1, e2]
theorem putR_mid {d r : Rw} {a : Int} {L0 : List Int} (h1 : ∀ q ∈ d, q.1 < a) (h2 : ∀ q ∈ r, a < q.1) (L : List Int) : putR (d ++ (a, L0) :: r) a L = d ++ (a, L) :: r := by
  unfold putR
  have e1 : (d.filter fun p => decide (p.1 < a)) = d := List.filter_eq_self.2 fun q hq => decide_eq_true (h1 q hq)
  have e2 : (d.filter fun p => decide (a < p.1)) = [] := List.filter_eq_nil_iff.2 fun q hq => by have := h1 q hq; simp; omega
  have e3 : (r.filter fun p => decide (p.1 < a)) = [] := List.filter_eq_nil_iff.2 fun q hq => by have := h2 q hq; simp; omega
  have e4 : (r.filter fun p => decide (a < p.1)) = r := List.filter_eq_self.2 fun q hq => decide_eq_true (h2 q hq)
  rw [List.filter_append, List.filter_append, List.filter_cons, List.filter_cons, e1, e2, e3, e4]
  simp
theorem lkR_none {r : Rw} {a : Int} (h : ∀ q ∈ r, q.1 = a → q.2 = []) : lkR r a = [] := by
  unfold lkR
  cases hf : r.find? fun p => decide (p.1 = a) with
  | none => rfl
  | some p =>
    have := List.find?_some hf
    exact h p (List.mem_of_find?_eq_some hf) (of_decide_eq_true this)
theorem setL_self {xs : List Int} (h : Inc xs) : setL xs = xs := inc_ext (setL_inc _) h fun y => setL_mem xs y
theorem bare_step {ks : List Int} (h : Inc ks) {k : Nat} {y : Int} (hy : ks[k]? = some y) : putR (bare (ks.take k)) y (setL (lkR (bare (ks.take k)) y ++ [])) = bare (ks.take (k + 1)) := by
  obtain ⟨h1, h2⟩ := List.getElem?_eq_some_iff.1 hy
  have hlt : ∀ q ∈ bare (ks.take k), q.1 < y := fun q hq => by
    obtain ⟨x, hx, rfl⟩ := List.mem_map.1 hq
    obtain ⟨j, hj, rfl⟩ := List.mem_iff_getElem.1 hx
    rw [List.length_take] at hj
    have := List.pairwise_iff_getElem.1 h j k (by omega) h1 (by omega)
    rw [h2] at this
    simpa using this
  rw [lkR_none fun q hq _ => by obtain ⟨x, _, rfl⟩ := List.mem_map.1 hq; rfl, List.append_nil, putR_snoc hlt, List.take_succ_eq_append_getElem h1, h2]
  unfold bare
  rw [List.map_append]
  rfl
theorem link_step {ks : List Int} (h : Inc ks) {k : Nat} {y : Int} (hy : ks[k]? = some y) {d : Rw} (hd : keysR d = ks.take k) {xs : List Int} (hx : Inc xs) : putR (d ++ bare (ks.drop k)) y (setL (lkR (d ++ bare (ks.drop k)) y ++ xs)) = (d ++ [(y, xs)]) ++ bare (ks.drop (k + 1)) := by
  obtain ⟨h1, h2⟩ := List.getElem?_eq_some_iff.1 hy
  have hlt : ∀ q ∈ d, q.1 < y := fun q hq => by
    have hm : q.1 ∈ ks.take k := by rw [← hd]; exact List.mem_map.2 ⟨q, hq, rfl⟩
    obtain ⟨j, hj, e⟩ := List.mem_iff_getElem.1 hm
    rw [List.length_take] at hj
    have := List.pairwise_iff_getElem.1 h j k (by omega) h1 (by omega)
    rw [h2] at this
    rw [← e]
    simpa using this
  have hgt : ∀ q ∈ bare (ks.drop (k + 1)), y < q.1 := fun q hq => by
    obtain ⟨x, hx, rfl⟩ := List.mem_map.1 hq
    obtain ⟨j, hj, rfl⟩ := List.mem_iff_getElem.1 hx
    rw [List.length_drop] at hj
    have := List.pairwise_iff_getElem.1 h k (k + 1 + j) h1 (by omega) (by omega)
    rw [h2] at this
    simpa using this
  have e : bare (ks.drop k) = (y, []) :: bare (ks.drop (k + 1)) := by rw [List.drop_eq_getElem_cons h1, h2]; rfl
  rw [lkR_none (r := d ++ bare (ks.drop k)) fun q hq hqy => by
    rcases List.mem_append.1 hq with hq | hq
    · have := hlt q hq; omega
    · obtain ⟨x, _, rfl⟩ := List.mem_map.1 hq; rfl]
  rw [e, putR_mid hlt hgt, List.nil_append, setL_self hx, List.append_assoc]
  rfl
/-- What list gives, its two results apart. -/
theorem ListPost.out {B g : Nat} {A : Option Addr} {n c a : Nat} {E : Err} {l : List Int} {w : World} {e : Ending} {w' : World} (h : ListPost B g A n c a E l w e w') : ∃ v ev, e = .returned (.tuple #[v, ev]) ∧ Below B w w' ∧ Asd g w w' ∧
    ((ev = .nilIface ∧ ∃ xs, w'.ownsRow w.heap.size 3 1 v xs.length (xs.map (Value.int .i64)) ∧ ((E = .nil ∧ okAt l a 65536 ∧ xs = lst l a ∧ rightO xs ∧ Rd w' B g A n c (nxtA l a) .nil) ∨ (xs = [] ∧ (E = .nil → ¬ okAt l a 65536) ∧ ∃ a' E', rdBad E' ∧ Rd w' B g A n c a' E'))) ∨
      ∃ gv cc t, (cc = 2 ∨ cc = 3) ∧ ev = .iface 104 (.pointer (some ⟨gv, 0, none⟩)) ∧ Blk w' gv 107 #[.int .i64 cc, .int .i64 0, .string t] ∧ E = .nil ∧ okAt l a 65536 ∧ ¬ rightO (lst l a) ∧ Rd w' B g A n c (nxtA l a) .nil) := by
  obtain ⟨h1, h2, h3⟩ := h
  rcases h3 with ⟨v, xs, rfl, h4, h5⟩ | ⟨gv, cc, t, h4, rfl, h5⟩
  · exact ⟨v, _, rfl, h1, h2, .inl ⟨rfl, xs, h4, h5⟩⟩
  · exact ⟨_, _, rfl, h1, h2, .inr ⟨gv, cc, t, h4, rfl, h5⟩⟩
end Go.Proofs.YtmonepclhbappaaGreatDoor
