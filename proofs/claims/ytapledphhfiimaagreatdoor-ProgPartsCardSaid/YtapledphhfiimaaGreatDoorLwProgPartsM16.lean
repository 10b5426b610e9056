/-
  Part 16 of the proof of LwProgParts: TsQ, ProgParts.
-/
import Derived.Test.YtapledphhfiimaaGreatDoorLwProgPartsM10
import Derived.Test.YtapledphhfiimaaGreatDoorLwProgPartsM11
import Derived.Test.YtapledphhfiimaaGreatDoorLwProgPartsM13
import Derived.Test.YtapledphhfiimaaGreatDoorLwProgPartsM15
import Derived.BigQuiet
import Derived.Laws.OwnMore
import Derived.Test.YtapledphhfiimaaGreatDoorLwProgPartsM4
import Derived.Test.YtapledphhfiimaaGreatDoorLwProgPartsM9
/-
  Programs in a row, plainly; a mild program; degrees of patterns that are right; cliques.
-/
namespace Go.Proofs.YtapledphhfiimaaGreatDoor
open Go.RowKit Go.Proofs.YtapledphhfiimaaGreatDoor.Pg
set_option linter.unusedVariables false

namespace Ts
/-- The other end of an edge at a vertex. -/
def oth (v : Int) (e : Int × Int) : Int := if e.1 = v then e.2 else e.1
theorem deg_seven {L : List Int} {E : List (Int × Int)} (h : rightP L E) {v : Int} (h0 : 0 ≤ v) (h1 : v < L.length) : Pt.deg E v ≤ 7 := by
  have hnd : E.Nodup := by
    rw [List.Nodup, List.pairwise_iff_getElem]
    have hlt : ∀ k i (hk : i + k + 1 < E.length), Pt.ordE E[i] E[i + k + 1] < 0 := by
      intro k
      induction k with
      | zero =>
        intro i hk
        exact (h.2 (i + 1) _ (List.getElem?_eq_getElem hk)).2 _ (by omega) (by rw [Nat.add_sub_cancel]; exact List.getElem?_eq_getElem (by omega))
      | succ k ih =>
        intro i hk
        have h1 := ih i (by omega)
        have h2 := (h.2 (i + (k + 1) + 1) _ (List.getElem?_eq_getElem hk)).2 E[i + k + 1] (by omega) (by rw [show i + (k + 1) + 1 - 1 = i + k + 1 by omega]; exact List.getElem?_eq_getElem (by omega))
        exact Pt.cp_edge.lt h1 (by omega)
    intro i j hi hj hij e
    have := hlt (j - i - 1) i (by omega)
    rw [getElem_congr_idx (show i + (j - i - 1) + 1 = j by omega), ← e, Pt.cp_edge.self] at this
    omega
  have hok : ∀ e ∈ E, Pt.EdgeOK L.length e := fun e he => by
    obtain ⟨i, hi⟩ := List.getElem?_of_mem he
    exact (h.2 i e hi).1
  unfold Pt.deg
  have hF : ∀ e ∈ E.filter (fun e => decide (e.1 = v) || decide (e.2 = v)), Pt.EdgeOK L.length e ∧ (e.1 = v ∨ e.2 = v) := fun e he => by
    obtain ⟨h1, h2⟩ := List.mem_filter.1 he
    simp only [Bool.or_eq_true, decide_eq_true_eq] at h2
    exact ⟨hok e h1, h2⟩
  have hn2 : (E.filter fun e => decide (e.1 = v) || decide (e.2 = v)).Nodup := hnd.filter _
  generalize (E.filter fun e => decide (e.1 = v) || decide (e.2 = v)) = F at hF hn2
  have hm : (F.map (oth v)).Nodup := by
    rw [List.Nodup, List.pairwise_map]
    refine List.Pairwise.imp_of_mem (fun {a b} ha hb hne he => hne ?_) hn2
    obtain ⟨⟨a0, a1, a2⟩, a3⟩ := hF a ha
    obtain ⟨⟨b0, b1, b2⟩, b3⟩ := hF b hb
    unfold oth at he
    by_cases ea : a.1 = v <;> by_cases eb : b.1 = v
    · rw [if_pos ea, if_pos eb] at he
      exact Prod.ext (by omega) he
    · rw [if_pos ea, if_neg eb] at he
      omega
    · rw [if_neg ea, if_pos eb] at he
      omega
    · rw [if_neg ea, if_neg eb] at he
      exact Prod.ext he (by omega)
  have hnv : v ∉ F.map (oth v) := fun hx => by
    obtain ⟨e, he, hq⟩ := List.mem_map.1 hx
    obtain ⟨⟨e0, e1, e2⟩, e3⟩ := hF e he
    unfold oth at hq
    by_cases ea : e.1 = v
    · rw [if_pos ea] at hq; omega
    · rw [if_neg ea] at hq; exact ea hq
  have hp := pig L.length (v :: F.map (oth v)) (List.nodup_cons.2 ⟨hnv, hm⟩) (fun x hx => by
    rcases List.mem_cons.1 hx with rfl | hx
    · exact ⟨h0, h1⟩
    · obtain ⟨e, he, hq⟩ := List.mem_map.1 hx
      obtain ⟨⟨e0, e1, e2⟩, e3⟩ := hF e he
      unfold oth at hq
      by_cases ea : e.1 = v
      · rw [if_pos ea] at hq; omega
      · rw [if_neg ea] at hq; omega)
  have := h.1.1
  simp at hp
  omega
def mildP : List (Int × Int) := [(2, 255), (3, 7), (4, 8), (5, 28)]
theorem mild_right : rightG mildP := by decide
theorem mild_keeps {L : List Int} {E : List (Int × Int)} (h : rightP L E) : keepsB mildP L E = true := by
  rw [keepsB_of mild_right h, List.all_eq_true]
  intro o ho
  simp only [mildP, List.mem_cons, List.not_mem_nil, or_false] at ho
  rcases ho with rfl | rfl | rfl | rfl
  · unfold holdsB
    rw [if_neg (by decide), if_pos rfl]
    simp only [Bool.not_eq_true', List.any_eq_false, decide_eq_true_eq]
    intro x hx
    have := h.1.2 x hx
    omega
  · unfold holdsB
    rw [if_neg (by decide), if_neg (by decide), if_pos rfl]
    simp only [List.all_eq_true, decide_eq_true_eq]
    intro v hv
    have := deg_seven h (v := (v : Int)) (by omega) (by have := List.mem_range.1 hv; omega)
    omega
  · unfold holdsB
    rw [if_neg (by decide), if_neg (by decide), if_neg (by decide), if_pos rfl]
    simp only [decide_eq_true_eq]
    have := h.1.1
    omega
  · unfold holdsB
    rw [if_neg (by decide), if_neg (by decide), if_neg (by decide), if_neg (by decide), if_pos rfl]
    simp only [decide_eq_true_eq]
    have := right_few h
    omega
theorem nil_keeps {L : List Int} {E : List (Int × Int)} (h : rightP L E) : keepsB [] L E = true := by
  rw [keepsB_of ⟨by simp, fun o ho => by simp at ho⟩ h]
  rfl
theorem app_right {p q : List (Int × Int)} (hp : rightG p) (hq : rightG q) (h1 : p.length ≤ 8) (h2 : q.length ≤ 8) : rightG (p ++ q) :=
  ⟨by rw [List.length_append]; omega, fun o ho => by
    rcases List.mem_append.1 ho with h | h
    · exact hp.2 o h
    · exact hq.2 o h⟩
theorem app_keeps {p q : List (Int × Int)} {L : List Int} {E : List (Int × Int)} (hp : rightG p) (hq : rightG q) (h1 : p.length ≤ 8) (h2 : q.length ≤ 8) (h : rightP L E) : keepsB (p ++ q) L E = (keepsB p L E && keepsB q L E) := by
  rw [keepsB_of (app_right hp hq h1 h2) h, keepsB_of hp h, keepsB_of hq h, List.all_append]
theorem first_keepsB {p : List (Int × Int)} {L : List Int} {E : List (Int × Int)} (hp : rightG p) (h : rightP L E) : decide (firstZ (fun o => !testB L E o) p 0 < 0) = keepsB p L E := by
  unfold keepsB
  rw [if_pos ⟨hp, h⟩]
  cases ha : p.all (testB L E) with
  | true => exact decide_eq_true (first_keeps.2 ha)
  | false => exact decide_eq_false fun h => by rw [first_keeps.1 h] at ha; cases ha
theorem clique_right {p : List (Int × Int)} (hp : rightG p) (h1 : p.length ≤ 15) : rightG ((1, 0) :: p) :=
  ⟨by rw [List.length_cons]; omega, fun o ho => by
    rcases List.mem_cons.1 ho with rfl | h
    · decide
    · exact hp.2 o h⟩
/-- A clique job's program, of a pattern with all edges. -/
theorem clique_all {p : List (Int × Int)} {L : List Int} {E : List (Int × Int)} (hp : rightG p) (h1 : p.length ≤ 15) (he : E.length = L.length * (L.length - 1) / 2) : keepsB ((1, 0) :: p) L E = keepsB p L E := by
  by_cases h : rightP L E
  · rw [keepsB_of (clique_right hp h1) h, keepsB_of hp h, List.all_cons]
    have : holdsB (1, 0) L E = true := by
      unfold holdsB
      rw [if_pos rfl]
      exact decide_eq_true he
    rw [this, Bool.true_and]
  · unfold keepsB
    rw [if_neg (fun k => h k.2), if_neg (fun k => h k.2)]
/-- .. of a pattern without edges. -/
theorem clique_none {p : List (Int × Int)} {L : List Int} (hp : rightG p) (h1 : p.length ≤ 15) (h8 : L.length ≤ 8) : keepsB ((1, 0) :: p) L [] = (decide (L.length < 2) && keepsB p L []) := by
  by_cases h : rightP L []
  · rw [keepsB_of (clique_right hp h1) h, keepsB_of hp h, List.all_cons]
    have : holdsB (1, 0) L [] = decide (L.length < 2) := by
      unfold holdsB
      rw [if_pos rfl]
      refine decide_eq_decide.2 ?_
      have : ∀ n : Nat, n ≤ 8 → ((0 = n * (n - 1) / 2) ↔ n < 2) := by decide
      exact this _ h8
    rw [this]
  · unfold keepsB
    rw [if_neg (fun k => h k.2), if_neg (fun k => h k.2), Bool.and_false]
end Ts
end Go.Proofs.YtapledphhfiimaaGreatDoor
/-
  ProgParts: the walk.
-/
namespace Go.Proofs.YtapledphhfiimaaGreatDoor
open Go.RowKit Go.Proofs.YtapledphhfiimaaGreatDoor.Pg
attribute [local go_sem ↓] Go.wp_at_zero Go.wp_at_succ
set_option maxRecDepth 100000
set_option linter.unusedVariables false

theorem cellsP_app (l m : List (Int × Int)) : Rk.cells (l ++ m) = Rk.cells l ++ Rk.cells m := by simp [Rk.cells]
theorem cellsP_one (l : List (Int × Int)) : ∀ u ∈ Rk.cells l, u.oneCell' = true := by
  induction l with
  | nil => intro u hu; cases hu
  | cons e r ih =>
    intro u hu
    have h1 : Rk.cells (e :: r) = .int .i64 e.1 :: .int .i64 e.2 :: Rk.cells r := rfl
    rw [h1] at hu
    rcases List.mem_cons.1 hu with rfl | hu
    · rfl
    · rcases List.mem_cons.1 hu with rfl | hu
      · rfl
      · exact ih u hu
theorem own0P (W : World) (cs : Array Value) (h : cs = #[]) : (W.alloc (.cells cs 40)).ownsRow W.heap.size 40 2 (.slice (some ⟨W.heap.size, 0, none⟩) 0 0) 0 [] := by
  subst h
  have := World.ownsRow_made (base := W.heap.size) (size := 2) (e := 40) W #[] 0 (Nat.le_refl _) (by unfold maxLen; omega) rfl
  simpa using this
theorem PgR_t {p : List (Int × Int)} (h : rightG p) (A : Option Addr) (n c : Nat) (w : World) (hn : n ≤ 1000000) (hs : Sl w 2 A n (Rk.cells p)) : Calls Tryz.prog 9 #[.slice A n c] w fun e w' => e = .returned .nilIface ∧ Below w.heap.size w w' :=
  (ProgRight_any p A n c w hn hs).mono fun e w' h' => by
    rcases h' with ⟨_, h1, h2⟩ | ⟨h1, _⟩
    · exact ⟨h1, h2⟩
    · exact absurd h h1
theorem PgR_f {p : List (Int × Int)} (h : ¬ rightG p) (A : Option Addr) (n c : Nat) (w : World) (hn : n ≤ 1000000) (hs : Sl w 2 A n (Rk.cells p)) : Calls Tryz.prog 9 #[.slice A n c] w fun e w' => ∃ g, e = .returned (.iface 111 (.pointer (some ⟨g, 0, none⟩))) ∧ Below w.heap.size w w' :=
  (ProgRight_any p A n c w hn hs).mono fun e w' h' => by
    rcases h' with ⟨h1, _⟩ | ⟨_, _, _, _, g, h1, _, h2, _⟩
    · exact absurd h1 h
    · exact ⟨g, h1, h2⟩

set_option maxHeartbeats 16000000 in
theorem ProgParts_walk (p q : List (Int × Int)) (L : List Int) (E : List (Int × Int)) (P Q A B : Option Addr) (np nq cp cq n c m d : Nat) (w : World) (hp : Sl w 2 P np (Rk.cells p)) (hq : Sl w 2 Q nq (Rk.cells q)) (hl : L.length = n) (hs : Sl w 1 A n (L.map (Value.int .i64))) (ht : Sl w 2 B m (Rk.cells E)) (hg : ErrT w) (hT : TabW w) (hL : LibW w) :
    Calls Tryz.prog 3 #[.slice P np cp, .slice Q nq cq, pv A n c B m d] w fun e w' => e = .returned (.bool true) ∧ Below w.heap.size w w' := by
  have HP := Lib.hid hp
  have HQ := Lib.hid hq
  have HS := Lib.hid hs
  have HE := Lib.hid ht
  have HL := Lib.hid hl
  have HLp := Lib.hid hp.len2
  have HLq := Lib.hid hq.len2
  obtain ⟨w0, hw0⟩ : ∃ W, W = w.alloc (.cells #[.slice A n c, .slice B m d] 26) := ⟨_, rfl⟩
  have HB0 := Lib.hid (show Below w.heap.size w w0 from by rw [hw0]; exact bel_al (Below.refl _ _) _)
  have HK0 := Lib.hid (show Blk w0 w.heap.size 26 #[.slice A n c, .slice B m d] from by rw [hw0]; exact Blk.new _ _ _)
  have HAl := Lib.hid (alive17 w0 (hg.keep HB0.out) (hT.keep HB0.out) (hL.keep HB0.out))
  clear hg hT hL hs ht hl hp hq
  go_enter Tryz.func3, Tryz.ntmps3
  go_upto_region 1 with (fail)
  rw [← hw0]
  clear hw0
  go_upto_region 3 with (go_at_call 6; refine HAl.out.mono ?_; clear HAl; rintro e w1 ⟨rfl, hb1⟩; have HB1 := Lib.hid (HB0.out.andThen hb1); have HK1 := Lib.hid (HK0.out.keep hb1); clear hb1)
  clear HB0 HK0
  have k0 := HK1.out.cell 0
  have k1 := HK1.out.cell 1
  simp at k0 k1
  by_cases hp8 : 8 < np
  · have hp8' : (8 : Int) < (np : Int) := by omega
    go_wp2_with fail
    go_ret
    exact ⟨rfl, HB1.out⟩
  have hp8' : ¬ (8 : Int) < (np : Int) := by omega
  by_cases hq8 : 8 < nq
  · have hq8' : (8 : Int) < (nq : Int) := by omega
    go_wp2_with fail
    go_ret
    exact ⟨rfl, HB1.out⟩
  have hq8' : ¬ (8 : Int) < (nq : Int) := by omega
  by_cases h8 : 8 < n
  · have h8' : (8 : Int) < (n : Int) := by omega
    go_wp2_with fail
    go_ret
    exact ⟨rfl, HB1.out⟩
  have h8' : ¬ (8 : Int) < (n : Int) := by omega
  by_cases h40 : 40 < m
  · have h40' : (40 : Int) < (m : Int) := by omega
    go_wp2_with fail
    go_ret
    exact ⟨rfl, HB1.out⟩
  have h40' : ¬ (40 : Int) < (m : Int) := by omega
  have HOf := Lib.hid (Of08_any E A B n c m d w1 (by omega) (HE.out.keep HB1.out))
  go_upto_region 6 with (go_at_call 7; refine HOf.out.mono ?_; clear HOf; rintro e w2 ⟨D, dk, rfl, hsD, hb2⟩; have HB2 := Lib.hid (HB1.out.andThen hb2); have HD2 := Lib.hid hsD; clear hb2 hsD)
  obtain ⟨wa, hwa⟩ : ∃ W, W = w2.alloc (.cells #[.slice A n c, .slice D m dk] 30) := ⟨_, rfl⟩
  have HBa := Lib.hid (show Below w.heap.size w wa from by rw [hwa]; exact bel_al HB2.out _)
  have HKx := Lib.hid (show Blk wa w2.heap.size 30 #[.slice A n c, .slice D m dk] from by rw [hwa]; exact Blk.new _ _ _)
  have HDa := Lib.hid (show Sl wa 2 D m (Rk.cells E) from by rw [hwa]; exact HD2.out.alloc _)
  have HSa := Lib.hid (HS.out.keep HBa.out)
  rw [← hwa]
  clear hwa k0 k1 HK1 HD2 hp8 hq8 h8 h40
  have HO1 := Lib.hid (Of17_any p P np cp wa (by omega) (HP.out.keep HBa.out))
  have HO2 := Lib.hid (show ∀ W, Below wa.heap.size wa W → Calls Tryz.prog 8 #[.slice Q nq cq] W fun e w' => ∃ (D : Option Addr) (d : Nat), e = .returned (.slice D nq d) ∧ Sl w' 2 D nq (Rk.cells q) ∧ Below W.heap.size W w' from fun W hW => (Of17_any q Q nq cq W (by omega) (HQ.out.keep (HBa.out.andThen hW))).mono fun e w' ⟨D, d, h1, h2, h3⟩ => ⟨D, d, h1, Sl.of_own h2, h3⟩)
  go_upto_region 7 with (first
    | (go_at_call 8; refine (HO2.out _ HB3.out).mono ?_; clear HO2; rintro e w4 ⟨G, gk, rfl, hsG, hb4⟩; have HG4 := Lib.hid hsG; have HF4 := Lib.hid (HF3.out.keep hb4); have HB4 := Lib.hid (HB3.out.andThen hb4); clear hb4 hsG HF3)
    | (go_at_call 8; refine HO1.out.mono ?_; clear HO1; rintro e w3 ⟨F, fk, rfl, hsF, hb3⟩; have HF3 := Lib.hid (Sl.of_own hsF); have HB3 := Lib.hid hb3; clear hb3 hsF))
  have HKx4 := Lib.hid (HKx.out.keep HB4.out)
  clear HKx
  have HKx := HKx4
  clear HKx4
  have HBw := Lib.hid (HBa.out.andThen HB4.out)
  have HSx := Lib.hid (HSa.out.keep HB4.out)
  have HDx := Lib.hid (HDa.out.keep HB4.out)
  clear HBa HSa HDa HB4 HB3 HB2 HB1 HS HE HP HQ
  have HBc := Lib.hid (Below.refl w4.heap.size w4)
  have x0 := (HKx.out.keep HBc.out).cell 0
  have x1 := (HKx.out.keep HBc.out).cell 1
  simp at x0 x1
  by_cases hRp : rightG p
  · have HR1 := Lib.hid (fun W (hW : Below w4.heap.size w4 W) => PgR_t hRp F np fk W (by omega) (HF4.out.keep hW))
    by_cases hRq : rightG q
    · have HR2 := Lib.hid (fun W (hW : Below w4.heap.size w4 W) => PgR_t hRq G nq gk W (by omega) (HG4.out.keep hW))
      by_cases hR : rightP L E
      · have HR3 := Lib.hid (fun W (hW : Below w4.heap.size w4 W) => PatR_t (A := A) (B := D) (n := n) (c := c) (m := m) (d := dk) hR W HL.out (by omega) (by omega) (HSx.out.keep hW) (HDx.out.keep hW))
        have HRp := Lib.hid hRp
        have HRq := Lib.hid hRq
        have HRR := Lib.hid hR
        clear hRp hRq hR
        go_upto_region 9 with (first
          | (go_at_call 9; refine (HR1.out _ HBc.out).mono ?_; clear HR1; rintro e wn ⟨rfl, hb⟩; replace HBc := Lib.hid (HBc.out.andThen hb); clear x0 x1; have x0 := (HKx.out.keep HBc.out).cell 0; have x1 := (HKx.out.keep HBc.out).cell 1; simp at x0 x1; clear hb)
          | (go_at_call 9; refine (HR2.out _ HBc.out).mono ?_; clear HR2; rintro e wn ⟨rfl, hb⟩; replace HBc := Lib.hid (HBc.out.andThen hb); clear x0 x1; have x0 := (HKx.out.keep HBc.out).cell 0; have x1 := (HKx.out.keep HBc.out).cell 1; simp at x0 x1; clear hb)
          | (go_at_call 10; refine (HR3.out _ HBc.out).mono ?_; clear HR3; rintro e wn ⟨rfl, hb⟩; replace HBc := Lib.hid (HBc.out.andThen hb); clear x0 x1; have x0 := (HKx.out.keep HBc.out).cell 0; have x1 := (HKx.out.keep HBc.out).cell 1; simp at x0 x1; clear hb))
        have HF9 := Lib.hid (HF4.out.keep HBc.out)
        have HG9 := Lib.hid (HG4.out.keep HBc.out)
        clear x0 x1
        go_upto_region 10 with (first
          | (at_builtin; refine wpList_cat_at elemOp _ _ rfl rfl HO6.out HL6.out HG6.out rfl rfl (cellsP_one _) (by unfold lim; omega) (by unfold lim; omega) ?_; intro v7 w7 hown7 hgr7; have HO7 := Lib.hid hown7; have HB7 := Lib.hid (HB6.out.trans (hgr7.belowOwn HL6.out HO6.out)); clear hown7 hgr7 HO6)
          | (at_builtin; refine wpList_cat_at elemOp _ _ rfl rfl (own0P _ _ rfl) (Nat.le_of_lt (by simp)) (HF9.out.alloc _) rfl rfl (cellsP_one _) (by unfold lim; omega) (by unfold lim; omega) ?_; intro v6 w6 hown6 hgr6; rw [Nat.zero_add] at hown6; have HO6 := Lib.hid hown6; have HB6 := Lib.hid ((bel_al (Below.refl _ _) _).trans (hgr6.belowOwn (Nat.le_of_lt (by simp)) (own0P _ _ rfl))); have HG6 := Lib.hid (HG9.out.keep HB6.out); have HL6 := Lib.hid HB6.out.size; clear hown6 hgr6))
        obtain ⟨X1, xc1, rfl, _⟩ := Sl.own HO7.out
        have HX7 := Lib.hid (show Sl w7 2 X1 (np + nq) (Rk.cells (p ++ q)) from by have h := Sl.of_own HO7.out; rwa [List.nil_append, ← cellsP_app] at h)
        have HF10 := Lib.hid (HF9.out.keep HB7.out)
        have HG10 := Lib.hid (HG9.out.keep HB7.out)
        clear HG6 HL6 HB6 HO7
        go_upto_region 11 with (first
          | (at_builtin; refine wpList_cat_at elemOp _ _ rfl rfl HO8.out HL8.out HF8.out rfl rfl (cellsP_one _) (by unfold lim; omega) (by unfold lim; omega) ?_; intro v9 w9 hown9 hgr9; have HO9 := Lib.hid hown9; have HB9 := Lib.hid (HB8.out.trans (hgr9.belowOwn HL8.out HO8.out)); clear hown9 hgr9 HO8)
          | (at_builtin; refine wpList_cat_at elemOp _ _ rfl rfl (own0P _ _ rfl) (Nat.le_of_lt (by simp)) (HG10.out.alloc _) rfl rfl (cellsP_one _) (by unfold lim; omega) (by unfold lim; omega) ?_; intro v8 w8 hown8 hgr8; rw [Nat.zero_add] at hown8; have HO8 := Lib.hid hown8; have HB8 := Lib.hid ((bel_al (Below.refl _ _) _).trans (hgr8.belowOwn (Nat.le_of_lt (by simp)) (own0P _ _ rfl))); have HF8 := Lib.hid (HF10.out.keep HB8.out); have HL8 := Lib.hid HB8.out.size; clear hown8 hgr8))
        obtain ⟨X2, xc2, rfl, _⟩ := Sl.own HO9.out
        have HX9 := Lib.hid (show Sl w9 2 X2 (nq + np) (Rk.cells (q ++ p)) from by have h := Sl.of_own HO9.out; rwa [List.nil_append, ← cellsP_app] at h)
        clear HF8 HL8 HB8 HO9
        go_upto_region 12 with (fail)
        obtain ⟨wb, hwb⟩ : ∃ W, W = w9.alloc (.cells #[.int .i64 2, .int .i64 255, .int .i64 3, .int .i64 7, .int .i64 4, .int .i64 8, .int .i64 5, .int .i64 28] 40) := ⟨_, rfl⟩
        have HB9b := Lib.hid (show Below w9.heap.size w9 wb from by rw [hwb]; exact bel_al (Below.refl _ _) _)
        have HMi := Lib.hid (show Sl wb 2 (some ⟨w9.heap.size, 0, none⟩) 4 (Rk.cells Ts.mildP) from by rw [hwb]; exact sl_blk (Blk.new w9 40 #[.int .i64 2, .int .i64 255, .int .i64 3, .int .i64 7, .int .i64 4, .int .i64 8, .int .i64 5, .int .i64 28]) rfl rfl)
        rw [← hwb]
        clear hwb
        have HB4b := Lib.hid (((HBc.out.andThen HB7.out).andThen HB9.out).andThen HB9b.out)
        have HX1 := Lib.hid (HX7.out.keep (HB9.out.andThen HB9b.out))
        have HX2 := Lib.hid (HX9.out.keep HB9b.out)
        have HFb := Lib.hid (HF4.out.keep HB4b.out)
        have HGb := Lib.hid (HG4.out.keep HB4b.out)
        have HSb := Lib.hid (HSx.out.keep HB4b.out)
        have HDb := Lib.hid (HDx.out.keep HB4b.out)
        have HKb := Lib.hid (HKx.out.keep HB4b.out)
        have HBwb := Lib.hid (HBw.out.andThen HB4b.out)
        clear HX7 HX9 HF9 HG9 HF10 HG10 HF4 HG4 HSx HDx HKx HBw HB7 HB9 HB9b HBc HB4b
        have HKx := HKb
        clear HKb
        have HBc := Lib.hid (Below.refl wb.heap.size wb)
        have x0 := (HKx.out.keep HBc.out).cell 0
        have x1 := (HKx.out.keep HBc.out).cell 1
        simp at x0 x1
        have h8l : L.length ≤ 8 := by have := HL.out; omega
        have h8p : p.length ≤ 8 := by have := HLp.out; omega
        have h8q : q.length ≤ 8 := by have := HLq.out; omega
        have HKs := Lib.hid (show ∀ (r : List (Int × Int)) (R : Option Addr) (k c' : Nat), k ≤ 1000000 → Sl wb 2 R k (Rk.cells r) → ∀ W, Below wb.heap.size wb W → Calls Tryz.prog 11 #[.slice R k c', pv A n c D m dk] W fun e w' => e = .returned (.bool (Ts.keepsB r L E)) ∧ Below W.heap.size W w' from fun r R k c' hk hr W hW => Keeps_any r R k c' W (fun o _ ho _ => holds_all ho h8l) hk (hr.keep hW) HL.out (by omega) (by omega) (HSb.out.keep hW) (HDb.out.keep hW))
        have HKf := Lib.hid (HKs.out p F np fk (by omega) HFb.out)
        have HKg := Lib.hid (HKs.out q G nq gk (by omega) HGb.out)
        have HKo := Lib.hid (HKs.out (p ++ q) X1 (np + nq) xc1 (by omega) HX1.out)
        have HKt := Lib.hid (HKs.out (q ++ p) X2 (nq + np) xc2 (by omega) HX2.out)
        have HKm := Lib.hid (HKs.out Ts.mildP (some ⟨w9.heap.size, 0, none⟩) 4 4 (by omega) HMi.out)
        have HKn := Lib.hid (HKs.out [] none 0 0 (by omega) ⟨rfl, fun h => absurd h (Nat.lt_irrefl _)⟩)
        have HFo := Lib.hid (show ∀ W, Below wb.heap.size wb W → Calls Tryz.prog 12 #[.slice X1 (np + nq) xc1, pv A n c D m dk] W fun e w' => e = .returned (.int .i64 (Ts.firstZ (fun o => !Ts.testB L E o) (p ++ q) 0)) ∧ Below W.heap.size W w' from fun W hW => First_any (p ++ q) X1 (np + nq) xc1 W (fun o _ ho _ => holds_all ho h8l) (by omega) (HX1.out.keep hW) HL.out (by omega) (by omega) (HSb.out.keep hW) (HDb.out.keep hW))
        have HAo := Lib.hid (fun W (hW : Below wb.heap.size wb W) => Falls_any (p ++ q) X1 (np + nq) xc1 W (by omega) (HX1.out.keep hW))
        have HAf := Lib.hid (fun W (hW : Below wb.heap.size wb W) => Falls_any p F np fk W (by omega) (HFb.out.keep hW))
        have HAg := Lib.hid (fun W (hW : Below wb.heap.size wb W) => Falls_any q G nq gk W (by omega) (HGb.out.keep hW))
        have HFz := Lib.hid (Ts.first_keepsB (Ts.app_right HRp.out HRq.out h8p h8q) HRR.out)
        rw [Ts.app_keeps HRp.out HRq.out h8p h8q HRR.out] at HKo HFz
        rw [Ts.app_keeps HRq.out HRp.out h8q h8p HRR.out, Bool.and_comm] at HKt
        rw [Ts.mild_keeps HRR.out] at HKm
        rw [Ts.nil_keeps HRR.out] at HKn
        rw [Ts.falls_app] at HAo
        clear h8l h8p h8q HKs
        generalize Ts.firstZ (fun o => !Ts.testB L E o) (p ++ q) 0 = z at HFo HFz
        generalize Ts.keepsB p L E = bf at *
        generalize Ts.keepsB q L E = bg at *
        generalize Ts.fallsB p = ff at *
        generalize Ts.fallsB q = fg at *
        obtain ⟨b, hb⟩ : ∃ b, b = (bf && bg) := ⟨_, rfl⟩
        rw [← hb] at HKo HKt HFz
        have HBd := Lib.hid hb
        clear hb
        go_cut [13] from 70 to 77 (fun s wx => s = .bool b ∧ Hid (Below wb.heap.size wb wx))
        case first =>
          cases bf with
          | true =>
            go_wp2_with (first
              | (go_at_call 11; refine (HKf.out _ HBc.out).mono ?_; clear HKf; rintro e wn ⟨rfl, hb⟩; replace HBc := Lib.hid (HBc.out.andThen hb); clear x0 x1; have x0 := (HKx.out.keep HBc.out).cell 0; have x1 := (HKx.out.keep HBc.out).cell 1; simp at x0 x1; clear hb)
              | (go_at_call 11; refine (HKg.out _ HBc.out).mono ?_; clear HKg; rintro e wn ⟨rfl, hb⟩; replace HBc := Lib.hid (HBc.out.andThen hb); clear x0 x1; have x0 := (HKx.out.keep HBc.out).cell 0; have x1 := (HKx.out.keep HBc.out).cell 1; simp at x0 x1; clear hb))
            go_meet
            exact ⟨by rw [HBd.out]; rfl, HBc⟩
          | false =>
            go_wp2_with ((go_at_call 11; refine (HKf.out _ HBc.out).mono ?_; clear HKf; rintro e wn ⟨rfl, hb⟩; replace HBc := Lib.hid (HBc.out.andThen hb); clear x0 x1; have x0 := (HKx.out.keep HBc.out).cell 0; have x1 := (HKx.out.keep HBc.out).cell 1; simp at x0 x1; clear hb))
            go_meet
            exact ⟨by rw [HBd.out]; rfl, HBc⟩
        case rest =>
        obtain ⟨rfl, HBn⟩ := hcut
        clear HBc x0 x1 HKf HKg HBd
        have HBc := HBn
        clear HBn
        have x0 := (HKx.out.keep HBc.out).cell 0
        have x1 := (HKx.out.keep HBc.out).cell 1
        simp at x0 x1
        have hz : z < 0 ∧ b = true ∨ ¬ z < 0 ∧ b = false := by
          have h := HFz.out
          by_cases hz : z < 0
          · rw [decide_eq_true hz] at h; exact .inl ⟨hz, h.symm⟩
          · rw [decide_eq_false hz] at h; exact .inr ⟨hz, h.symm⟩
        clear HFz
        rcases hz with ⟨hz, rfl⟩ | ⟨hz, rfl⟩
        all_goals (
          cases ff with
          | true =>
            go_wp2_with (first
              | (go_at_call 11; refine (HKo.out _ HBc.out).mono ?_; clear HKo; rintro e wn ⟨rfl, hb⟩; replace HBc := Lib.hid (HBc.out.andThen hb); clear x0 x1; have x0 := (HKx.out.keep HBc.out).cell 0; have x1 := (HKx.out.keep HBc.out).cell 1; simp at x0 x1; clear hb)
              | (go_at_call 11; refine (HKt.out _ HBc.out).mono ?_; clear HKt; rintro e wn ⟨rfl, hb⟩; replace HBc := Lib.hid (HBc.out.andThen hb); clear x0 x1; have x0 := (HKx.out.keep HBc.out).cell 0; have x1 := (HKx.out.keep HBc.out).cell 1; simp at x0 x1; clear hb)
              | (go_at_call 11; refine (HKm.out _ HBc.out).mono ?_; clear HKm; rintro e wn ⟨rfl, hb⟩; replace HBc := Lib.hid (HBc.out.andThen hb); clear x0 x1; have x0 := (HKx.out.keep HBc.out).cell 0; have x1 := (HKx.out.keep HBc.out).cell 1; simp at x0 x1; clear hb)
              | (go_at_call 11; refine (HKn.out _ HBc.out).mono ?_; clear HKn; rintro e wn ⟨rfl, hb⟩; replace HBc := Lib.hid (HBc.out.andThen hb); clear x0 x1; have x0 := (HKx.out.keep HBc.out).cell 0; have x1 := (HKx.out.keep HBc.out).cell 1; simp at x0 x1; clear hb)
              | (go_at_call 12; refine (HFo.out _ HBc.out).mono ?_; clear HFo; rintro e wn ⟨rfl, hb⟩; replace HBc := Lib.hid (HBc.out.andThen hb); clear x0 x1; have x0 := (HKx.out.keep HBc.out).cell 0; have x1 := (HKx.out.keep HBc.out).cell 1; simp at x0 x1; clear hb)
              | (go_at_call 13; refine (HAo.out _ HBc.out).mono ?_; clear HAo; rintro e wn ⟨rfl, hb⟩; replace HBc := Lib.hid (HBc.out.andThen hb); clear x0 x1; have x0 := (HKx.out.keep HBc.out).cell 0; have x1 := (HKx.out.keep HBc.out).cell 1; simp at x0 x1; clear hb)
              | (go_at_call 13; refine (HAf.out _ HBc.out).mono ?_; clear HAf; rintro e wn ⟨rfl, hb⟩; replace HBc := Lib.hid (HBc.out.andThen hb); clear x0 x1; have x0 := (HKx.out.keep HBc.out).cell 0; have x1 := (HKx.out.keep HBc.out).cell 1; simp at x0 x1; clear hb)
              | (go_at_call 13; refine (HAg.out _ HBc.out).mono ?_; clear HAg; rintro e wn ⟨rfl, hb⟩; replace HBc := Lib.hid (HBc.out.andThen hb); clear x0 x1; have x0 := (HKx.out.keep HBc.out).cell 0; have x1 := (HKx.out.keep HBc.out).cell 1; simp at x0 x1; clear hb))
            go_ret
            exact ⟨by simp <;> omega, HBwb.out.andThen HBc.out⟩
          | false =>
            go_wp2_with (first
              | (go_at_call 11; refine (HKo.out _ HBc.out).mono ?_; clear HKo; rintro e wn ⟨rfl, hb⟩; replace HBc := Lib.hid (HBc.out.andThen hb); clear x0 x1; have x0 := (HKx.out.keep HBc.out).cell 0; have x1 := (HKx.out.keep HBc.out).cell 1; simp at x0 x1; clear hb)
              | (go_at_call 11; refine (HKt.out _ HBc.out).mono ?_; clear HKt; rintro e wn ⟨rfl, hb⟩; replace HBc := Lib.hid (HBc.out.andThen hb); clear x0 x1; have x0 := (HKx.out.keep HBc.out).cell 0; have x1 := (HKx.out.keep HBc.out).cell 1; simp at x0 x1; clear hb)
              | (go_at_call 11; refine (HKm.out _ HBc.out).mono ?_; clear HKm; rintro e wn ⟨rfl, hb⟩; replace HBc := Lib.hid (HBc.out.andThen hb); clear x0 x1; have x0 := (HKx.out.keep HBc.out).cell 0; have x1 := (HKx.out.keep HBc.out).cell 1; simp at x0 x1; clear hb)
              | (go_at_call 11; refine (HKn.out _ HBc.out).mono ?_; clear HKn; rintro e wn ⟨rfl, hb⟩; replace HBc := Lib.hid (HBc.out.andThen hb); clear x0 x1; have x0 := (HKx.out.keep HBc.out).cell 0; have x1 := (HKx.out.keep HBc.out).cell 1; simp at x0 x1; clear hb)
              | (go_at_call 12; refine (HFo.out _ HBc.out).mono ?_; clear HFo; rintro e wn ⟨rfl, hb⟩; replace HBc := Lib.hid (HBc.out.andThen hb); clear x0 x1; have x0 := (HKx.out.keep HBc.out).cell 0; have x1 := (HKx.out.keep HBc.out).cell 1; simp at x0 x1; clear hb)
              | (go_at_call 13; refine (HAo.out _ HBc.out).mono ?_; clear HAo; rintro e wn ⟨rfl, hb⟩; replace HBc := Lib.hid (HBc.out.andThen hb); clear x0 x1; have x0 := (HKx.out.keep HBc.out).cell 0; have x1 := (HKx.out.keep HBc.out).cell 1; simp at x0 x1; clear hb)
              | (go_at_call 13; refine (HAf.out _ HBc.out).mono ?_; clear HAf; rintro e wn ⟨rfl, hb⟩; replace HBc := Lib.hid (HBc.out.andThen hb); clear x0 x1; have x0 := (HKx.out.keep HBc.out).cell 0; have x1 := (HKx.out.keep HBc.out).cell 1; simp at x0 x1; clear hb))
            go_ret
            exact ⟨by simp <;> omega, HBwb.out.andThen HBc.out⟩)
      · have HR3 := Lib.hid (fun W (hW : Below w4.heap.size w4 W) => PatR_f (A := A) (B := D) (n := n) (c := c) (m := m) (d := dk) hR W HL.out (by omega) (by omega) (HSx.out.keep hW) (HDx.out.keep hW))
        clear hRp hRq hR
        go_wp2_with (first
          | (go_at_call 9; refine (HR1.out _ HBc.out).mono ?_; clear HR1; rintro e wn ⟨rfl, hb⟩; replace HBc := Lib.hid (HBc.out.andThen hb); clear x0 x1; have x0 := (HKx.out.keep HBc.out).cell 0; have x1 := (HKx.out.keep HBc.out).cell 1; simp at x0 x1; clear hb)
          | (go_at_call 9; refine (HR2.out _ HBc.out).mono ?_; clear HR2; rintro e wn ⟨rfl, hb⟩; replace HBc := Lib.hid (HBc.out.andThen hb); clear x0 x1; have x0 := (HKx.out.keep HBc.out).cell 0; have x1 := (HKx.out.keep HBc.out).cell 1; simp at x0 x1; clear hb)
          | (go_at_call 10; refine (HR3.out _ HBc.out).mono ?_; clear HR3; rintro e wn ⟨ge, rfl, hb⟩; replace HBc := Lib.hid (HBc.out.andThen hb); clear hb))
        go_ret
        exact ⟨rfl, HBw.out.andThen HBc.out⟩
    · have HR2 := Lib.hid (fun W (hW : Below w4.heap.size w4 W) => PgR_f hRq G nq gk W (by omega) (HG4.out.keep hW))
      clear hRp hRq
      go_wp2_with (first
        | (go_at_call 9; refine (HR1.out _ HBc.out).mono ?_; clear HR1; rintro e wn ⟨rfl, hb⟩; replace HBc := Lib.hid (HBc.out.andThen hb); clear x0 x1; have x0 := (HKx.out.keep HBc.out).cell 0; have x1 := (HKx.out.keep HBc.out).cell 1; simp at x0 x1; clear hb)
        | (go_at_call 9; refine (HR2.out _ HBc.out).mono ?_; clear HR2; rintro e wn ⟨ge, rfl, hb⟩; replace HBc := Lib.hid (HBc.out.andThen hb); clear hb))
      go_ret
      exact ⟨rfl, HBw.out.andThen HBc.out⟩
  · have HR1 := Lib.hid (fun W (hW : Below w4.heap.size w4 W) => PgR_f hRp F np fk W (by omega) (HF4.out.keep hW))
    clear hRp
    go_wp2_with ((go_at_call 9; refine (HR1.out _ HBc.out).mono ?_; clear HR1; rintro e wn ⟨ge, rfl, hb⟩; replace HBc := Lib.hid (HBc.out.andThen hb); clear hb))
    go_ret
    exact ⟨rfl, HBw.out.andThen HBc.out⟩
theorem ProgParts_main (P : Option Addr) (np cp : Nat) (p : List (Int × Int)) (Q : Option Addr) (nq cq : Nat) (q : List (Int × Int)) (A : Option Addr) (n c : Nat) (B : Option Addr) (m d : Nat) (L : List Int) (E : List (Int × Int)) (w : World) (hg : ErrT w) (hT : TabW w) (hL : LibW w)
    (m0 : np ≤ maxLen) (e0 : p.length = np) (s0 : Sl w 2 P np (Rk.cells p)) (w0 : ∀ x ∈ p, (Lit.int .i64 x.1).wf = true ∧ (Lit.int .i64 x.2).wf = true) (m1 : nq ≤ maxLen) (e1 : q.length = nq) (s1 : Sl w 2 Q nq (Rk.cells q)) (w1 : ∀ x ∈ q, (Lit.int .i64 x.1).wf = true ∧ (Lit.int .i64 x.2).wf = true)
    (hl : L.length = n) (hs : Sl w 1 A n (L.map (Value.int .i64))) (ht : Sl w 2 B m (Rk.cells E)) (hc : n ≤ c ∧ c ≤ 9223372036854775807) (iL : ∀ x ∈ L, i64P x) (iE : ∀ e ∈ E, i64P e.1 ∧ i64P e.2) :
    Calls Tryz.prog 3 #[.slice P np cp, .slice Q nq cq, pv A n c B m d] w fun e w' => e = .returned (.bool true) ∧ Below w.heap.size w w' :=
  ProgParts_walk p q L E P Q A B np nq cp cq n c m d w s0 s1 hl hs ht hg hT hL
end Go.Proofs.YtapledphhfiimaaGreatDoor
