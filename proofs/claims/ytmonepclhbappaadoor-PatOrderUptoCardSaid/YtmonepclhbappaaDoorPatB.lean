/-
  Patterns: walks of Compare, Degree, far.
-/
import Derived.Test.YtmonepclhbappaaDoorPatA1
namespace Go.Proofs.YtmonepclhbappaaDoor
open Go.RowKit
attribute [local go_sem ↓] Go.wp_at_zero Go.wp_at_succ
set_option maxRecDepth 100000
set_option linter.unusedVariables false

/-- A pattern as a value. -/
abbrev pv (A : Option Addr) (n c : Nat) (B : Option Addr) (m d : Nat) : Value := .agg #[.slice A n c, .slice B m d]
theorem Or_four (x y z u : Int) (g c : Nat) (W : World) (h : ∀ i v, [Value.int .i64 x, .int .i64 y, .int .i64 z, .int .i64 u][i]? = some v → W.cell? ⟨g, i, none⟩ = some v) :
    Calls Tryd.prog 46 #[.slice (some ⟨g, 0, none⟩) 4 c] W fun e w' => e = .returned (.int .i64 (orL [x, y, z, u])) ∧ W = w' :=
  Or_any [x, y, z, u] _ 4 c W rfl (by omega) ⟨rfl, fun _ => ⟨g, 0, rfl, fun j v hv => by rw [Nat.zero_add]; exact h j v hv⟩⟩
theorem orL_four (x y z u : Int) : orL [x, y, z, u] = Pt.or2 x (Pt.or2 y (Pt.or2 z u)) := by
  unfold orL orL orL orL orL Pt.or2
  by_cases h1 : x = 0
  · rw [if_pos h1, if_pos h1]
    by_cases h2 : y = 0
    · rw [if_pos h2, if_pos h2]
      by_cases h3 : z = 0
      · rw [if_pos h3, if_pos h3]
        by_cases h4 : u = 0
        · rw [if_pos h4, h4]
        · rw [if_neg h4]
      · rw [if_neg h3, if_neg h3]
    · rw [if_neg h2, if_neg h2]
  · rw [if_neg h1, if_neg h1]
theorem cmpL_by : ∀ a b : List Int, cmpL a b = Pt.cmpBy Pt.cmpI a b
  | [], [] => rfl
  | [], _ :: _ => rfl
  | _ :: _, [] => rfl
  | x :: a, y :: b => by
    rw [cmpL, Pt.cmpBy, ← cmpL_by a b]
    unfold Pt.cmpI
    by_cases h : x < y
    · rw [if_pos h, if_pos h, if_neg (by omega)]
    · rw [if_neg h, if_neg h]
      by_cases h2 : y < x
      · rw [if_pos h2, if_pos h2, if_neg (by omega)]
      · rw [if_neg h2, if_neg h2, if_pos rfl]

set_option maxHeartbeats 16000000 in
theorem PatCompare_any (L L' : List Int) (E E' : List (Int × Int)) (A A' B B' : Option Addr) (n n' m m' c c' d d' : Nat) (w : World)
    (hl : L.length = n) (hl' : L'.length = n') (hn : n ≤ 1000000) (hm : m ≤ 1000000) (hs : Sl w 1 A n (L.map (Value.int .i64))) (hs' : Sl w 1 A' n' (L'.map (Value.int .i64))) (ht : Sl w 2 B m (Rk.cells E)) (ht' : Sl w 2 B' m' (Rk.cells E')) :
    Calls Tryd.prog 16 #[pv A n c B m d, pv A' n' c' B' m' d'] w fun e w' => e = .returned (.int .i64 (Pt.cmpP L E L' E')) ∧ Below w.heap.size w w' := by
  have HO := Lib.hid (show orL [cmpI n n', cmpL L L', cmpI m m', Pt.cmpBy Pt.ordE E E'] = Pt.cmpP L E L' E' by
    rw [orL_four, cmpL_by]
    unfold Pt.cmpP
    rw [hl, hl', ht.len2, ht'.len2]
    rfl)
  have HCI := Lib.hid (fun (W : World) (hW : Below w.heap.size w W) => CompareI_any L L' A A' n n' c c' W hl hl' (hs.keep hW) (hs'.keep hW) (by omega))
  have HCE := Lib.hid (fun (W : World) (hW : Below w.heap.size w W) => CompareE_any E E' B B' m m' d d' W hm (ht.keep hW) (ht'.keep hW))
  have HB0 := Lib.hid (bel_drewN (bel_al (bel_al (Below.refl w.heap.size w) (.cells #[.slice A n c, .slice B m d] 29)) (.cells #[.slice A' n' c', .slice B' m' d'] 29)) 1)
  have HK1 := Lib.hid (((Blk.new w 29 #[.slice A n c, .slice B m d]).alloc (.cells #[.slice A' n' c', .slice B' m' d'] 29)))
  have HK2 := Lib.hid (Blk.new (w.alloc (.cells #[.slice A n c, .slice B m d] 29)) 29 #[.slice A' n' c', .slice B' m' d'])
  rw [World.size_alloc] at HK2
  clear hl hl' hs hs' ht ht'
  go_enter Tryd.func16, Tryd.ntmps16
  go_wp2_with fail
  go_region_held3 (fun w' => w'.cell? ⟨w.heap.size, 0, none⟩ = some (.slice A n c) ∧ w'.cell? ⟨w.heap.size, 1, none⟩ = some (.slice B m d) ∧ w'.cell? ⟨w.heap.size + 1, 0, none⟩ = some (.slice A' n' c') ∧ w'.cell? ⟨w.heap.size + 1, 1, none⟩ = some (.slice B' m' d')) (go_keep)
    (first
      | (go_at_call 47; refine (CmpI_any _ _ _).mono ?_; rintro e w' ⟨rfl, rfl⟩)
      | (go_at_call 48; refine (HCI.out _ (by first | exact HB0.out | exact HB3.out)).mono ?_; rintro e w' ⟨rfl, rfl⟩)
      | (go_at_call 49; refine (HCE.out _ HB0.out).mono ?_; rintro e w3 ⟨rfl, hb3⟩; have k1 := (HK1.out.drew.keep hb3); have k2 := (HK2.out.drew.keep hb3); have k10 := k1.cell 0; have k11 := k1.cell 1; have k20 := k2.cell 0; have k21 := k2.cell 1; have HB3 := Lib.hid (HB0.out.andThen hb3); simp at k10 k11 k20 k21; clear hb3 k1 k2)
      | (go_at_call 46; refine (Or_four (cmpI n n') (cmpL L L') (cmpI m m') (Pt.cmpBy Pt.ordE E E') _ 4 _ (by intro i v hv; (try rw [cell_drew]); rw [cell_new _ _ _ _ _ (by simp), List.getElem?_toArray]; exact hv)).mono ?_; rintro e w' ⟨rfl, rfl⟩))
  all_goals go_wp2_with fail
  all_goals go_ret
  all_goals first | exact ⟨ret_int HO.out, bel_al HB3.out _⟩ | exact ⟨ret_int HO.out, bel_drewN (bel_al HB3.out _) 1⟩
end Go.Proofs.YtmonepclhbappaaDoor
