/-
  Part 18 of the proof of PatBack: PtF, PermD, PatM, PatK.
-/
import Derived.BigQuiet
import Derived.Laws.OwnMore
import Derived.Test.YtapledphhfiimaaGreatDoorPatBackM10
import Derived.Test.YtapledphhfiimaaGreatDoorPatBackM14
import Derived.Test.YtapledphhfiimaaGreatDoorPatBackM17
import Derived.Test.YtapledphhfiimaaGreatDoorPatBackM7
import Derived.Ground.Names2Prog
import Derived.Shelf.Slices.Delete
import Derived.Shelf.Slices.Cells
import Derived.Shelf.Slices.Empties
import Derived.Test.YtapledphhfiimaaGreatDoorPatBackM5
set_option linter.unusedVariables false
/-
  pat.Sub at all vertices: the pattern.
-/
namespace Go.Proofs.YtapledphhfiimaaGreatDoor
open Go.RowKit Go.Proofs.YtapledphhfiimaaGreatDoor.Pg
attribute [local go_sem ↓] Go.wp_at_zero Go.wp_at_succ
set_option maxRecDepth 100000
set_option linter.unusedVariables false

theorem own_bel {w w' : World} {B size n : Nat} {e : TypeId} {v : Value} {xs : List Value} (h : w.ownsRow B e size v n xs) (hb : Below w.heap.size w w') : w'.ownsRow B e size v n xs := own_block h fun g hg => hb.block g (h.lt g hg).2
/-- A row of other cells than the row that grew. -/
theorem own_other {w w' : World} {v v' : Value} (hgr : Gr w w' v v') {B B' size size' n n' : Nat} {e e' : TypeId} {u : Value} {xs xs' : List Value} (hv : w.ownsRow B e size v n xs) (hu : w.ownsRow B' e' size' u n' xs') (hne : e ≠ e') : w'.ownsRow B' e' size' u n' xs' :=
  own_block hu fun g hg => hgr.g.block g (hu.lt g hg).2 fun h => own_ne hv hu hne h.symm hg rfl

/-- A row of other cells than the row that was written. -/
theorem own_gb {w w' : World} {v : Value} (hgr : w.grownBy w' v.ownBlock) {B B' size size' n n' : Nat} {e e' : TypeId} {u : Value} {xs xs' : List Value} (hv : w.ownsRow B e size v n xs) (hu : w.ownsRow B' e' size' u n' xs') (hne : e ≠ e') : w'.ownsRow B' e' size' u n' xs' :=
  own_block hu fun g hg => hgr.block g (hu.lt g hg).2 fun h => own_ne hv hu hne h.symm hg rfl

set_option maxHeartbeats 16000000 in
theorem SubAll_ok (L : List Int) (E : List (Int × Int)) (V A B : Option Addr) (n c m d k : Nat) (w : World) (hl : L.length = n) (hR : rightP L E) (hk : n ≤ k) (hk9 : k ≤ 9223372036854775807) (hV : Sl w 1 V n ((ids n).map (Value.int .i64))) (hs : Sl w 1 A n (L.map (Value.int .i64))) (ht : Sl w 2 B m (Rk.cells E)) :
    Calls Tryz.prog 24 #[pv A n c B m d, .slice V n k] w fun e w' => ∃ A' c' B' d', e = .returned (.tuple #[pv A' n c' B' m d', .nilIface]) ∧ Sl w' 1 A' n (L.map (Value.int .i64)) ∧ Sl w' 2 B' m (Rk.cells E) ∧ Below w.heap.size w w' := by
  have hn : n ≤ 8 := by rw [← hl]; exact hR.1.1
  have hml : E.length = m := ht.len2
  have hm : m ≤ 28 := by rw [← hml]; exact right_few hR
  have HML := Lib.hid hml
  obtain ⟨w0, hw0⟩ : ∃ w0, w0 = (w.alloc (.cells #[.slice A n c, .slice B m d] 30)).alloc (.cells #[.slice none 0 0, .slice none 0 0] 30) := ⟨_, rfl⟩
  have HB0 := Lib.hid (show Below w.heap.size w w0 from by rw [hw0]; exact bel_al (bel_al (Below.refl _ _) _) _)
  have HSz0 := Lib.hid (show w0.heap.size = w.heap.size + 2 from by rw [hw0]; simp)
  have HKB := Lib.hid (show Blk w0 w.heap.size 30 #[.slice A n c, .slice B m d] from by rw [hw0]; exact (Blk.new w _ _).alloc _)
  have HKR := Lib.hid (show Blk w0 (w.heap.size + 1) 30 #[.slice none 0 0, .slice none 0 0] from by
    rw [hw0]
    have h := Blk.new (w.alloc (.cells #[.slice A n c, .slice B m d] 30)) 30 #[.slice none 0 0, .slice none 0 0]
    rwa [World.size_alloc] at h)
  have HRn := Lib.hid (right_nil hR (PatRight_any L E A B n c m d w0 hl (by omega) (by omega) (hs.keep HB0.out) (ht.keep HB0.out)))
  have HS := Lib.hid hs
  have HT := Lib.hid ht
  have HV := Lib.hid hV
  have HR := Lib.hid hR
  have HLL := Lib.hid hl
  have hk9' : (k : Int) ≤ 9223372036854775807 := by omega
  clear hs ht hV hR hl hml
  go_enter Tryz.func24, Tryz.ntmps24
  go_upto_region 1 with (fail)
  rw [← hw0]
  clear hw0
  have kb0 := HKB.out.cell 0
  have kb1 := HKB.out.cell 1
  simp at kb0 kb1
  go_upto_region 5 with (go_at_call 10; refine HRn.out.mono ?_; clear HRn; rintro e w1 ⟨rfl, hb1⟩; have HB1 := Lib.hid hb1; clear hb1 kb0 kb1)
  have HKB1 := Lib.hid (HKB.out.keep HB1.out)
  obtain ⟨w3, hw3⟩ : ∃ W, W = w1.alloc (.cells #[.slice none 0 0, .slice none 0 0] 30) := ⟨_, rfl⟩
  have HB3 := Lib.hid (show Below w1.heap.size w1 w3 from by rw [hw3]; exact bel_al (Below.refl _ _) _)
  have HSz3 := Lib.hid (show w3.heap.size = w1.heap.size + 1 from by rw [hw3]; simp)
  have HK3 := Lib.hid (show Blk w3 w1.heap.size 30 #[.slice none 0 0, .slice none 0 0] from by rw [hw3]; exact Blk.new _ _ _)
  have HB1w := Lib.hid (HB0.out.andThen HB1.out)
  rw [← hw3]
  clear hw3
  go_wp2_with fail
  go_loopw [20] (fun iv wr => ∃ (i : Nat) (lv ev : Value), i ≤ n ∧ iv = .int .i64 (i : Int) ∧ Hid (wr.ownsRow w3.heap.size 3 1 lv i ((L.take i).map (Value.int .i64))) ∧ Hid (wr.ownsRow w3.heap.size 53 2 ev (Pt.subE E i).length (Rk.cells (Pt.subE E i))) ∧ Hid (Blk wr w1.heap.size 30 #[lv, ev]) ∧ Hid (Below w1.heap.size w1 wr)) (fun iv _ => n - (intOf iv).toNat)
  case atStart => exact ⟨0, .slice none 0 0, .slice none 0 0, Nat.zero_le _, rfl, Lib.hid (World.ownsRow_nil _ _ _ _), Lib.hid (World.ownsRow_nil _ _ _ _), HK3, HB3⟩
  case round =>
    obtain ⟨i, lv, ev, hi, rfl, HOl, HOe, HKo, HBr⟩ := hrel
    obtain ⟨X, xq, rfl, _⟩ := Sl.own HOl.out
    obtain ⟨Y, yq, rfl, _⟩ := Sl.own HOe.out
    have HSzr := Lib.hid (show w3.heap.size ≤ wr.heap.size from by have h := HKo.out.lt; have h2 := HSz3.out; omega)
    have HBwr := Lib.hid (HB1w.out.andThen HBr.out)
    by_cases hlt : i < n
    · have hlt' : (i : Int) < (n : Int) := by omega
      have hge' : ¬ (n : Int) ≤ (i : Int) := by omega
      have h0' : ¬ (i : Int) < 0 := by omega
      obtain ⟨x, hx⟩ : ∃ x, L[i]? = some x := ⟨_, List.getElem?_eq_getElem (by rw [HLL.out]; exact hlt)⟩
      have HTk := Lib.hid (map_take_succE (Value.int .i64) L i x hx)
      obtain ⟨bV, offV, hVV, hVc⟩ := HV.out.at_ (show 0 < n by omega)
      subst hVV
      clear hVc
      obtain ⟨bA, offA, hAA, hAc⟩ := HS.out.at_ (show 0 < n by omega)
      subst hAA
      clear hAc
      have HVi := Lib.hid (show ∀ W, Below w.heap.size w W → ∀ j, j < n → W.cell? ⟨bV, offV + j, none⟩ = some (.int .i64 (j : Int)) from fun W hW j hj => (HV.out.keep hW).again hj (by rw [List.getElem?_map, ids_get n j hj]; rfl))
      have HAi := Lib.hid (show ∀ W, Below w.heap.size w W → W.cell? ⟨bA, offA + i, none⟩ = some (.int .i64 x) from fun W hW => (HS.out.keep hW).again hlt (by rw [List.getElem?_map, hx]; rfl))
      have HCo := Lib.hid (show ∀ W, Below w.heap.size w W → Calls Tryz.prog 59 #[.slice (some ⟨bV, offV, none⟩) i k, .int .i64 (i : Int)] W fun e w' => e = .returned (.bool false) ∧ W = w' from fun W hW => ContainsI_no ((ids n).take i) (i : Int) _ i k W (by rw [List.length_take, ids_len]; omega) (by omega) (by have h := (HV.out.keep hW).take (k := i) (by omega); rwa [← List.map_take] at h) (fun h => by
        obtain ⟨j, hj⟩ := List.mem_iff_getElem?.1 h
        rw [List.getElem?_take] at hj
        split at hj
        · rename_i hji
          rw [ids_get n j (by omega)] at hj
          have := Option.some.inj hj
          omega
        · cases hj))
      have HPB := Lib.hid ((HKB1.out.keep HBr.out))
      clear hx
      have v0 := HVi.out wr HBwr.out i hlt
      have p0 := HPB.out.cell 0
      simp at p0
      go_upto_region 10 with (go_at_call 59; refine (HCo.out _ HBwr.out).mono ?_; clear HCo; rintro e w4 ⟨rfl, rfl⟩)
      have o0 := HKo.out.cell 0
      have f0 := HKo.out.frozen 0
      have a0 := HAi.out wr HBwr.out
      simp at o0
      go_cut [] from 44 to 53 (fun wx => ∃ (D : Option Addr) (dd : Nat), Hid (wx.ownsRow w3.heap.size 3 1 (.slice D (i + 1) dd) (i + 1) ((L.take (i + 1)).map (Value.int .i64))) ∧ Hid (wx.ownsRow w3.heap.size 53 2 (.slice Y (Pt.subE E i).length yq) (Pt.subE E i).length (Rk.cells (Pt.subE E i))) ∧ Hid (Blk wx w1.heap.size 30 #[.slice D (i + 1) dd, .slice Y (Pt.subE E i).length yq]) ∧ Hid (Below w1.heap.size w1 wx))
      case first =>
        have hka := HKo.out.alloc (.cells #[.int .i64 x] 3)
        have o1 := hka.cell 0
        have f1 := hka.frozen 0
        simp at o1
        clear hka
        have HDr := Lib.hid (bel_drewN (Below.refl wr.heap.size wr) 1)
        have HAl := Lib.hid (bel_al HDr.out (.cells #[.int .i64 x] 3))
        have HOa := Lib.hid (own_bel HOl.out HAl.out)
        have HOb := Lib.hid (own_bel HOe.out HAl.out)
        go_region_law
          (refine step_cat_at elemInt (.tmp 45) (.tmp 51) (by rfl) (by rfl) HOa.out (Nat.le_trans HSzr.out HAl.out.size) (Sl.newAt _ [.int .i64 x] _ 1 rfl) (by rfl) (by rfl) (by simp [Value.oneCell']) (by unfold lim; omega) (by unfold lim; omega) ?_; intro v6 w6 hown6 hgr; obtain ⟨D6, d6, rfl, _⟩ := Sl.own hown6; have HO6 := Lib.hid hown6; have HE6 := Lib.hid (own_other hgr HOa.out HOb.out (by decide)); have HB6 := Lib.hid ((HAl.out.mono HSzr.out).trans (hgr.belowOwn (Nat.le_trans HSzr.out HAl.out.size) HOa.out)); have HK6 := Lib.hid (HKo.out.below HB6.out (by have h := HSz3.out; omega)); have o0 := HK6.out.cell 0; have f0 := HK6.out.frozen 0; simp at o0; clear hown6 hgr)
        all_goals (
          go_wp2_with fail
          go_meet
          exact ⟨D6, d6, Lib.hid (by rw [HTk.out]; exact own_far2 HO6.out (by have h := HSz3.out; omega) _), Lib.hid (own_far2 HE6.out (by have h := HSz3.out; omega) _), Lib.hid (by have h := HK6.out.set_ 0 (.slice D6 (i + 1) d6); simpa using h), Lib.hid ((HBr.out.trans (HB6.out.mono (by have h := HSz3.out; omega))).setCell (p := ⟨w1.heap.size, 0, none⟩) (Nat.le_refl _) _)⟩)
      case rest =>
      obtain ⟨D, dd, HOd, HOg, HKg, HBg⟩ := hcut
      clear HOl HOe HKo HBr HBwr HPB HSzr v0 p0 o0 f0 a0
      have hi0 : (0 : Int) ≤ (i : Int) := by omega
      go_wp2_with fail
      go_loopw [58] (fun jv wx => ∃ (j : Nat) (gv : Value), j ≤ i ∧ jv = .int .i64 (j : Int) ∧ Hid (wx.ownsRow w3.heap.size 3 1 (.slice D (i + 1) dd) (i + 1) ((L.take (i + 1)).map (Value.int .i64))) ∧ Hid (wx.ownsRow w3.heap.size 53 2 gv (Pt.subE E i ++ Pt.rowE E i j).length (Rk.cells (Pt.subE E i ++ Pt.rowE E i j))) ∧ Hid (Blk wx w1.heap.size 30 #[.slice D (i + 1) dd, gv]) ∧ Hid (Below w1.heap.size w1 wx)) (fun jv _ => i - (intOf jv).toNat)
      case atStart => exact ⟨0, .slice Y (Pt.subE E i).length yq, Nat.zero_le _, rfl, HOd, by have h : Pt.subE E i ++ Pt.rowE E i 0 = Pt.subE E i := List.append_nil _; rw [h]; exact HOg, HKg, HBg⟩
      case round =>
        obtain ⟨j, gv, hj, rfl, HOl, HOe, HKo, HBr⟩ := hrel
        clear HOd HOg HKg HBg
        obtain ⟨Z, zq, rfl, _⟩ := Sl.own HOe.out
        have HSzr := Lib.hid (show w3.heap.size ≤ wr.heap.size from by have h := HKo.out.lt; have h2 := HSz3.out; omega)
        have HBwr := Lib.hid (HB1w.out.andThen HBr.out)
        have hFl : (Pt.subE E i ++ Pt.rowE E i j).length ≤ 200 := by
          have h1 := Pt.subE_len E i
          have h2 := Pt.rowE_len E i j
          have h3 : i * i ≤ 8 * 8 := Nat.mul_le_mul (by omega) (by omega)
          rw [List.length_append]
          omega
        by_cases hjt : j < i
        · have hjt' : (j : Int) < (i : Int) := by omega
          have v0 := HVi.out wr HBwr.out j (by omega)
          have HPB := Lib.hid (HKB1.out.keep HBr.out)
          have p0 := HPB.out.cell 0
          have p1 := HPB.out.cell 1
          simp at p0 p1
          have HHa := Lib.hid (show ∀ W, Below wr.heap.size wr W → Calls Tryz.prog 60 #[pv (some ⟨bA, offA, none⟩) n c B m d, .int .i64 (j : Int), .int .i64 (i : Int)] W fun e w' => e = .returned (.bool (Ts.hasE E (j : Nat) (i : Nat))) ∧ Below W.heap.size W w' from fun W hW => PatHas_any E _ B n c m d (j : Nat) (i : Nat) W (by omega) (HT.out.keep (HBwr.out.andThen hW)))
          cases hh : Ts.hasE E (j : Nat) (i : Nat) with
          | false =>
            rw [hh] at HHa
            have HRf := Lib.hid (Pt.rowE_f hh)
            clear hh
            go_wp2_with (go_at_call 60; refine (HHa.out _ (Below.refl _ _)).mono ?_; clear HHa; rintro e w5 ⟨rfl, hb5⟩; have HB5 := Lib.hid hb5; clear hb5)
            go_roundw
            case rel => exact ⟨j + 1, .slice Z (Pt.subE E i ++ Pt.rowE E i j).length zq, by omega, by go_num, Lib.hid (own_bel HOl.out HB5.out), by rw [HRf.out]; exact Lib.hid (own_bel HOe.out HB5.out), Lib.hid (HKo.out.keep HB5.out), Lib.hid (HBr.out.andThen HB5.out)⟩
            case measure => simp [intOf]; omega
          | true =>
            rw [hh] at HHa
            have HRt := Lib.hid (Pt.rowE_t hh)
            clear hh
            go_upto_region 15 with (go_at_call 60; refine (HHa.out _ (Below.refl _ _)).mono ?_; clear HHa; rintro e w5 ⟨rfl, hb5⟩; have HB5 := Lib.hid hb5; clear hb5)
            have HOl5 := Lib.hid (own_bel HOl.out HB5.out)
            have HOe5 := Lib.hid (own_bel HOe.out HB5.out)
            have HKo5 := Lib.hid (HKo.out.keep HB5.out)
            have HBr5 := Lib.hid (HBr.out.andThen HB5.out)
            have HSz5 := Lib.hid (show w3.heap.size ≤ w5.heap.size from by have h := HKo5.out.lt; have h2 := HSz3.out; omega)
            clear HOl HOe HKo HBr HPB p0 p1 v0 HB5
            obtain ⟨fn, hfn⟩ : ∃ f, (Pt.subE E i ++ Pt.rowE E i j).length = f := ⟨_, rfl⟩
            rw [hfn] at HOe5 HKo5 hFl
            have HFn := Lib.hid hfn
            clear hfn
            have x1 := HKo5.out.cell 1
            have f1 := HKo5.out.frozen 1
            simp at x1
            have HAl := Lib.hid (bel_al (Below.refl w5.heap.size w5) (.cells #[.int .i64 (j : Int), .int .i64 (i : Int)] 53))
            have HOa := Lib.hid (own_bel HOe5.out HAl.out)
            have HOb := Lib.hid (own_bel HOl5.out HAl.out)
            go_wp2_with (at_builtin; refine wpList_cat_at elemEdge _ _ rfl rfl HOa.out (Nat.le_trans HSz5.out HAl.out.size) (Sl.newE _ _ _ _) rfl rfl (by simp [Value.oneCell']) (by unfold lim; omega) (by unfold lim; omega) ?_; intro v6 w6 hown6 hgr; obtain ⟨D6, d6, rfl, _⟩ := Sl.own hown6; have HO6 := Lib.hid hown6; have HE6 := Lib.hid (own_other hgr HOa.out HOb.out (by decide)); have HB6 := Lib.hid ((HAl.out.mono HSz5.out).trans (hgr.belowOwn (Nat.le_trans HSz5.out HAl.out.size) HOa.out)); have HK6 := Lib.hid (HKo5.out.below HB6.out (by have h := HSz3.out; omega)); have y1 := HK6.out.cell 1; have g1 := HK6.out.frozen 1; simp at y1; clear hown6 hgr)
            have HKn := Lib.hid (show Blk (w6.setCell ⟨w1.heap.size, 1, none⟩ (.slice D6 (fn + 1) d6)) w1.heap.size 30 #[.slice D (i + 1) dd, .slice D6 (fn + 1) d6] from by have h := HK6.out.set_ 1 (.slice D6 (fn + 1) d6); simpa using h)
            have HOn := Lib.hid (show (w6.setCell ⟨w1.heap.size, 1, none⟩ (.slice D6 (fn + 1) d6)).ownsRow w3.heap.size 53 2 (.slice D6 (fn + 1) d6) (Pt.subE E i ++ Pt.rowE E i (j + 1)).length (Rk.cells (Pt.subE E i ++ Pt.rowE E i (j + 1))) from by
              have h1 : Pt.subE E i ++ Pt.rowE E i (j + 1) = (Pt.subE E i ++ Pt.rowE E i j) ++ [(((j : Nat) : Int), ((i : Nat) : Int))] := by rw [HRt.out, List.append_assoc]
              have h2 : (Pt.subE E i ++ Pt.rowE E i (j + 1)).length = fn + 1 := by rw [h1, List.length_append, HFn.out]; rfl
              rw [h2, h1, Rk.cells_snoc]
              exact own_far2 HO6.out (by have h := HSz3.out; omega) _)
            have HOm := Lib.hid (own_far2 (b := w1.heap.size) (i := 1) HE6.out (by have h := HSz3.out; omega) (.slice D6 (fn + 1) d6))
            have HBn := Lib.hid (show Below w1.heap.size w1 (w6.setCell ⟨w1.heap.size, 1, none⟩ (.slice D6 (fn + 1) d6)) from (HBr5.out.trans (HB6.out.mono (by have h := HSz3.out; omega))).setCell (p := ⟨w1.heap.size, 1, none⟩) (Nat.le_refl _) _)
            clear x1 f1 y1 g1
            go_wp2_with fail
            go_roundw
            case rel => exact ⟨j + 1, .slice D6 (fn + 1) d6, by omega, by go_num, HOm, HOn, HKn, HBn⟩
            case measure => simp [intOf]; omega
        · obtain rfl : j = i := by omega
          go_wp2_with fail
          go_roundw
          case rel => exact ⟨j + 1, .slice D (j + 1) dd, .slice Z (Pt.subE E j ++ Pt.rowE E j j).length zq, by omega, by go_num, HOl, HOe, HKo, HBr⟩
          case measure => simp [intOf]; omega
    · obtain rfl : i = n := by omega
      rw [List.take_of_length_le (by rw [HLL.out]; exact Nat.le_refl _)] at HOl
      have hln : (Pt.subE E i).length = m := by
        have h := (Pt.subE_perm HR.out).length_eq
        rw [HLL.out, HML.out] at h
        exact h
      rw [hln] at HOe HKo
      have hpk0 := HKo.out.cell 0
      have hpk1 := HKo.out.cell 1
      simp at hpk0 hpk1
      have HSo := Lib.hid (SortE_gr _ (.slice Y m yq) m w3.heap.size wr (by omega) hln (Pt.nodup_subE (fun e he => ⟨(Pt.right_edge HR.out he).1, (Pt.right_edge HR.out he).2.1⟩) i) HOe.out HSzr.out)
      have HRe := Lib.hid (show Blk wr (w.heap.size + 1) 30 #[.slice none 0 0, .slice none 0 0] from ((HKR.out.keep HB1.out)).keep HBr.out)
      have hsz : w.heap.size + 2 ≤ w1.heap.size := by have h1 := HSz0.out; have h2 := HB1.out.size; omega
      have HSame := Lib.hid (fun (E' : List (Int × Int)) (hp : E'.Perm (Pt.subE E i)) (hr : Pt.Rise E') => Pt.subE_same HR.out (by rw [HLL.out]; exact hp) hr)
      go_wp2_with (go_at_call 58; refine HSo.out.mono ?_; clear HSo hpk0 hpk1; rintro e w5 ⟨rfl, E', hpm, hri, hown, hgb⟩; have HEe := Lib.hid (HSame.out E' hpm hri); rw [HEe.out] at hown; have hb5 := (Below.refl w3.heap.size wr).grown hgb HSzr.out (fun g hg => (HOe.out.lt g hg).1); have HL5 := Lib.hid (Sl.of_own (own_gb hgb HOe.out HOl.out (by decide))); have HOF := Lib.hid hown; have HB5 := Lib.hid hb5; have HK5 := Lib.hid (HKo.out.below hb5 (by have h := HSz3.out; omega)); have s0 := HK5.out.cell 0; have s1 := HK5.out.cell 1; have HR5 := Lib.hid (HRe.out.below hb5 (by have h := HSz3.out; omega)); have f0 := HR5.out.frozen 0; have f1 := HR5.out.frozen 1; have r0 := HR5.out.cell 0; have r1 := HR5.out.cell 1; simp at s0 s1 r0 r1; clear hpm hri hown hb5 hgb)
      have hx := (HR5.out.set_ 0 (.slice X i xq)).set_ 1 (.slice Y m yq)
      have x00 := hx.cell 0
      have x01 := hx.cell 1
      simp at x00 x01
      refine bodyPost_ret (v := .tuple #[pv X i xq Y m yq, .nilIface]) (by simp [results, Tryz.results24, go_sem, x00, x01]) rfl ?_
      exact ⟨X, xq, Y, yq, rfl, (HL5.out.off_pat HR5.out 0 _).off_pat (by have h := HR5.out.set_ 0 (.slice X i xq); simpa using h) 1 _, Sl.of_own (own_far2 (own_far2 HOF.out (by have h := HSz3.out; omega) _) (by have h := HSz3.out; omega) _), ((HBwr.out.trans (HB5.out.mono (by have h := HSz3.out; omega))).setCell (p := ⟨w.heap.size + 1, 0, none⟩) (by simp) _).setCell (p := ⟨w.heap.size + 1, 1, none⟩) (by simp) _⟩

end Go.Proofs.YtapledphhfiimaaGreatDoor
/-
  slices.Delete out of the library's shelf, laid over this seat's translation; contract of perm.Of.
-/
namespace Go.Proofs.YtapledphhfiimaaGreatDoor
open Go.RowKit Go.Shelf
set_option maxRecDepth 100000

def del_ren : Go.Shelf.Ren := ⟨fun | 23 => 53 | n => n, fun | 22 => 23 | 3 => 3 | 4 => 4 | 0 => 0 | n => n, fun | n => n⟩
theorem del_lays : Go.Proofs.Lays2.n23 Tryz.prog del_ren := {
  mixed := by kernel_rfl
  f23 := Tryz.func53.trans (congrArg some (by kernel_rfl))
  t0 := Tryz.underlying0
  a0 := Tryz.isAgg0
  z0 := Tryz.sizeOf0
  v0 := Tryz.zeroValue0
  t3 := Tryz.underlying3
  a3 := Tryz.isAgg3
  z3 := Tryz.sizeOf3
  v3 := Tryz.zeroValue3
  t4 := Tryz.underlying4
  a4 := Tryz.isAgg4
  z4 := Tryz.sizeOf4
  v4 := Tryz.zeroValue4
  t22 := Tryz.underlying23
  a22 := Tryz.isAgg23
  z22 := Tryz.sizeOf23
  v22 := Tryz.zeroValue23
  i3 := by kernel_rfl }

/-- What is left: a block of the call's own, read and cut. -/
def Lft (w : World) (b c : Nat) (zs : List Int) : Prop := zs.length ≤ c ∧ c ≤ 9223372036854775807 ∧ ∀ j, j < zs.length → w.cell? ⟨b, j, none⟩ = some (.int .i64 (zs.getD j 0)) ∧ w.frozen? ⟨b, j, none⟩ = false
theorem Lft.keep {w w' : World} {b c : Nat} {zs : List Int} (h : Lft w b c zs) (hb : w'.heap[b]? = w.heap[b]?) : Lft w' b c zs :=
  ⟨h.1, h.2.1, fun j hj => ⟨(World.cell?_of_block (a := ⟨b, j, none⟩) hb).trans (h.2.2 j hj).1, (World.frozen?_of_block (a := ⟨b, j, none⟩) hb).trans (h.2.2 j hj).2⟩⟩
theorem Lft.of_own {w : World} {B e : Nat} {n c b : Nat} {zs : List Int} (h : w.ownsRow B e 1 (.slice (some ⟨b, 0, none⟩) n c) n (zs.map (Value.int .i64))) : Lft w b c zs := by
  have hl : zs.length = n := by have := h.1; simpa using this
  have hcn : n ≤ c ∧ c ≤ maxLen := by
    rcases h.2 with ⟨h', _⟩ | ⟨g', cap', cur, h', _, _, h1, h2, _⟩
    · cases h'
    · injection h' with _ _ h3
      subst h3
      exact ⟨h1, h2⟩
  refine ⟨by omega, hcn.2, fun j hj => ⟨?_, h.frozenAt j⟩⟩
  rw [h.cellAt j (by omega), List.getElem?_map, List.getElem?_eq_getElem hj, List.getD_eq_getElem?_getD, List.getElem?_eq_getElem hj]
  rfl

theorem Delete_at (b c i : Nat) (zs : List Int) (w : World) (h : Lft w b c zs) (hi : i < zs.length) :
    Calls Tryz.prog 53 #[.slice (some ⟨b, 0, none⟩) zs.length c, .int .i64 i, .int .i64 ((i : Int) + 1)] w fun e w' => e = .returned (.slice (some ⟨b, 0, none⟩) (zs.eraseIdx i).length c) ∧ ∃ q vs, w' = (w.drewN q).setCells b 0 vs ∧ Lft w' b c (zs.eraseIdx i) := by
  refine (Go.Proofs.Any.slices_Delete_int_cells del_lays b 0 zs.length c i (i + 1) zs w (Nat.le_refl _) h.1 h.2.1 (by omega) (by omega) (fun j hj => by rw [Nat.zero_add]; exact (h.2.2 j hj).1) (fun j hj => by rw [Nat.zero_add]; exact (h.2.2 j hj).2)).mono ?_
  rintro e w' ⟨rfl, q, hw⟩
  have hel : (zs.eraseIdx i).length = zs.length - 1 := by rw [List.length_eraseIdx, if_pos hi]
  refine ⟨?_, q, _, hw, by rw [hel]; have := h.1; omega, h.2.1, fun j hj => ?_⟩
  · rw [hel, show zs.length - (i + 1 - i) = zs.length - 1 by omega]
  · have hm : zs.take zs.length = zs := List.take_length
    rw [hm] at hw
    have hlen : ((zs.take i ++ zs.drop (i + 1) ++ List.replicate (i + 1 - i) 0).map (Value.int .i64)).length = zs.length := by simp; omega
    have hin := World.cell?_setCells_in b ((zs.take i ++ zs.drop (i + 1) ++ List.replicate (i + 1 - i) 0).map (Value.int .i64)) 0 (w.drewN q) (fun j' hj' => by
      rw [Nat.zero_add]
      have := (h.2.2 j' (by omega)).1
      exact (congrArg Option.isSome this).trans rfl) j (by omega)
    rw [Nat.zero_add] at hin
    rw [hw, World.frozen?_setCells]
    refine ⟨hin.trans ?_, (h.2.2 j (by omega)).2⟩
    rw [hel] at hj
    rw [List.eraseIdx_eq_take_drop_succ, List.getD_eq_getElem?_getD, List.getElem_map]
    congr 2
    have hj2 : j < (zs.take i ++ zs.drop (i + 1)).length := by simp; omega
    rw [List.getElem_append_left hj2, List.getElem?_eq_getElem hj2]
    rfl

set_option maxHeartbeats 2000000 in
theorem Of_ok (n r : Nat) (w : World) (hn : n ≤ 8) (hr : r < fac n) :
    Calls Tryz.prog 20 #[.int .i64 n, .int .i64 r] w fun e w' => ∃ C k, e = .returned (.tuple #[.slice C n k, .nilIface]) ∧ Sl w' 1 C n ((ofR n r (ids n)).map (Value.int .i64)) ∧ Below w.heap.size w w' := by
  have hT := times_any n w hn
  have hfl := fac_le hn
  have HT := Lib.hid hT
  have HR := Lib.hid hr
  clear hT
  go_enter Tryz.func20, Tryz.ntmps20
  go_wp2_with fail
  refine HT.out.mono ?_
  rintro e w1 ⟨rfl, rfl⟩
  clear HT
  go_wp2_with fail
  refine (Id_any n w hn).mono ?_
  rintro e w2 ⟨v, rfl, hown, hb2⟩
  have hleft : ∀ j, 0 < j → j = n → ∃ b c, v = .slice (some ⟨b, 0, none⟩) j c ∧ Lft w2 b c (ids n) ∧ w.heap.size ≤ b ∧ b < w2.heap.size := by
    rintro j hj rfl
    rcases hown.2 with ⟨_, h0⟩ | ⟨g, cap, cur, hv, hg, _⟩
    · omega
    · rw [hv] at hown
      exact ⟨g, cap, hv, Lft.of_own hown, hg, (hown.lt g rfl).2⟩
  have HB2 := Lib.hid hb2
  have HL := Lib.hid hleft
  clear hown hleft
  generalize hB : w2.heap.size = B at *
  have HBB := Lib.hid hB
  clear hB hfl
  go_wp2_with fail
  go_loopw [1, 6, 7, 8] (fun rv pv lv kv wr => ∃ (j r' : Nat) (pre lf : List Int), j ≤ n ∧ lf.length = j ∧ pre.length + j = n ∧ r' < fac j ∧ Hid (pre ++ ofR j r' lf = ofR n r (ids n)) ∧ rv = .int .i64 r' ∧ kv = .int .i64 ((j : Int) - 1) ∧ wr.ownsRow B 3 1 pv pre.length (pre.map (Value.int .i64)) ∧ B ≤ wr.heap.size ∧ (0 < j → ∃ b c, lv = .slice (some ⟨b, 0, none⟩) j c ∧ Lft wr b c lf ∧ w.heap.size ≤ b ∧ b < B) ∧ Below w.heap.size w wr) (fun _ _ _ kv _ => (intOf kv + 1).toNat)
  case atStart => exact ⟨n, r, [], ids n, Nat.le_refl _, ids_len n, by simp, HR.out, rfl, rfl, rfl, World.ownsRow_nil _ _ _ _, Nat.le_of_eq HBB.out.symm, fun h => HL.out n h rfl, HB2.out⟩
  case round =>
    obtain ⟨j, r', pre, lf, hjn, hlf, hpre, hr', HE, rfl, rfl, hown, hBw, hlv, hb⟩ := hrel
    rcases j with _ | m
    · have HE' := Lib.hid (show pre = ofR n r (ids n) by have := HE.out; rw [ofR, List.append_nil] at this; exact this)
      have hp : pre.length = n := by omega
      rw [hp] at hown
      obtain ⟨C, c3, rfl, hsl⟩ := Sl.own hown
      have HX := Lib.hid hsl
      rw [show (((0 : Nat) : Int) - 1) = -1 from rfl]
      clear hown hsl hlv
      go_wp2_with fail
      go_ret2
      exact ⟨_, _, rfl, by rw [← HE'.out]; exact HX.out, hb⟩
    · obtain ⟨b, c, rfl, hL, hb1, hb2'⟩ := hlv (by omega)
      rw [show (((m + 1 : Nat) : Int) - 1) = (m : Int) from by omega]
      have HT := Lib.hid (fun W => times_any m W (by omega))
      have hF := fac_pos m
      have hF2 := fac_le (n := m) (by omega)
      have hat : r' / fac m < lf.length := by rw [hlf]; exact Nat.div_lt_of_lt_mul (by rw [Nat.mul_comm]; exact hr')
      have hat2 : r' ≤ 40320 := by
        have := fac_le (n := m + 1) (by omega)
        omega
      have HO := Lib.hid (show ofR (m + 1) r' lf = lf.getD (r' / fac m) 0 :: ofR m (r' % fac m) (lf.eraseIdx (r' / fac m)) from rfl)
      have HM := Lib.hid (Nat.mod_lt r' hF)
      have HFm := Lib.hid (show fac m = fac m from rfl)
      generalize hFF : fac m = F at HT hF hF2 hat HO HM HFm
      have hq : ((r' : Int) / (F : Int)) = ((r' / F : Nat) : Int) := rfl
      have hm' : ((r' : Int) % (F : Int)) = ((r' % F : Nat) : Int) := rfl
      have HFF := Lib.hid hFF
      clear hFF
      have hle : r' / F ≤ r' := Nat.div_le_self _ _
      generalize hA : r' / F = at_ at hq hat hle HO
      generalize hC : r' % F = rr at hm' HO HM
      have HLc := Lib.hid (hL.2.2 at_ hat)
      have hel : (lf.eraseIdx at_).length = m := by rw [List.length_eraseIdx, if_pos hat, hlf]; rfl
      have HLd := Lib.hid (fun W (hL' : Lft W b c lf) => (by have h := Delete_at b c at_ lf W hL' hat; rw [hlf, hel] at h; exact h : Calls Tryz.prog 53 #[.slice (some ⟨b, 0, none⟩) (m + 1) c, .int .i64 at_, .int .i64 ((at_ : Int) + 1)] W fun e w' => e = .returned (.slice (some ⟨b, 0, none⟩) m c) ∧ ∃ q vs, w' = (W.drewN q).setCells b 0 vs ∧ Lft w' b c (lf.eraseIdx at_)))
      have HL := Lib.hid hL
      have HAt := Lib.hid hat
      clear hr' hL
      go_wp2_with fail
      refine (HT.out wr).mono ?_
      rintro e w3 ⟨rfl, rfl⟩
      go_wp2_with fail
      refine (HT.out wr).mono ?_
      rintro e w3 ⟨rfl, rfl⟩
      have hc0 := HLc.out.1
      go_wp2_with (at_builtin; refine wpList_push elemInt (w0 := wr) _ _ rfl rfl hown (Below.refl _ _) hBw rfl rfl rfl (by simp [Value.oneCell']) (by unfold lim; omega) (by unfold lim; omega) ?_; intro v' w5 hown1 hb5)
      have HL5 := HL.out.keep (hb5.block b hb2')
      refine (HLd.out w5 HL5).mono ?_
      rintro e w6 ⟨rfl, q, vs, rfl, hL6⟩
      have HL6 := Lib.hid hL6
      clear hL6 HL5
      go_wp2_with fail
      go_roundw
      case rel =>
        refine ⟨m, rr, pre ++ [lf.getD at_ 0], lf.eraseIdx at_, by omega, hel, by simp; omega, by rw [HFF.out]; exact HM.out, ?_, rfl, rfl, ?_, ?_, fun _ => ⟨b, c, rfl, HL6.out, hb1, hb2'⟩, ?_⟩
        · show _ = _
          rw [← HE.out, HO.out, List.append_assoc]
          rfl
        · rw [List.length_append, List.map_append]
          exact ownsRow_setCells_below hb2' _ _ hown1
        · exact Nat.le_trans hBw (bel_setCells (w := wr) hb1 vs 0 (bel_drewN (hb5.mono (by omega)) q)).size
        · exact bel_setCells hb1 vs 0 (bel_drewN (hb.trans (hb5.mono (by omega))) q)
      case measure => simp [intOf]
end Go.Proofs.YtapledphhfiimaaGreatDoor
/-
  slices.BinarySearchFunc over edges.
-/
namespace Go.Proofs.YtapledphhfiimaaGreatDoor
open Go.RowKit
attribute [local go_sem ↓] Go.wp_at_zero Go.wp_at_succ
set_option maxRecDepth 100000
set_option linter.unusedVariables false

/-- A row of edges that rises. -/
def riseE (E : List (Int × Int)) : Prop := ∀ (i j : Nat) e f, i < j → E[i]? = some e → E[j]? = some f → Pt.ordE e f < 0
/-- Where an edge lies, or would. -/
def spotE (E : List (Int × Int)) (t : Int × Int) (p : Nat) : Prop := p ≤ E.length ∧ (∀ (k : Nat) e, k < p → E[k]? = some e → Pt.ordE e t < 0) ∧ (∀ (k : Nat) e, p ≤ k → E[k]? = some e → 0 ≤ Pt.ordE e t)

set_option maxHeartbeats 8000000 in
theorem BSE_any (E : List (Int × Int)) (t : Int × Int) (A : Option Addr) (n c : Nat) (w : World) (hn : n ≤ 1000) (hs : Sl w 2 A n (Rk.cells E)) (hr : riseE E) :
    Calls Tryz.prog 79 #[.slice A n c, ev t, .func (.func 37) #[] #[]] w fun e w' => ∃ (p : Nat) (b : Bool), e = .returned (.tuple #[.int .i64 (p : Int), .bool b]) ∧ spotE E t p ∧ (b = true ↔ ∃ f, E[p]? = some f ∧ Pt.ordE f t = 0) ∧ Below w.heap.size w w' := by
  obtain ⟨tx, ty⟩ := t
  have hb0 := bel_al (Below.refl w.heap.size w) (.cells #[.int .i64 tx, .int .i64 ty] 53)
  have HB0 := Lib.hid hb0
  have HK := Lib.hid (Blk.new w 53 #[.int .i64 tx, .int .i64 ty])
  have HS := Lib.hid (hs.keep hb0)
  have HM := Lib.hid hs.len2
  have HR := Lib.hid hr
  clear hb0 hs hr
  unfold ev
  simp only
  go_enter Tryz.func79, Tryz.ntmps79
  go_wp2_with fail
  generalize hw0 : w.alloc (.cells #[.int .i64 tx, .int .i64 ty] 53) = w0 at *
  clear hw0
  go_loopw [9, 10] (fun a b wr => ∃ lo hi : Nat, a = .int .i64 lo ∧ b = .int .i64 hi ∧ lo ≤ hi ∧ hi ≤ n ∧ Hid ((∀ k e, k < lo → E[k]? = some e → Pt.ordE e (tx, ty) < 0) ∧ (∀ k e, hi ≤ k → E[k]? = some e → 0 ≤ Pt.ordE e (tx, ty))) ∧ Below w0.heap.size w0 wr) (fun a b _ => (intOf b).toNat - (intOf a).toNat)
  case atStart => exact ⟨0, n, rfl, rfl, Nat.zero_le _, Nat.le_refl _, ⟨fun k e hk => absurd hk (Nat.not_lt_zero _), fun k e hk he => absurd (List.getElem?_eq_some_iff.1 he).1 (by rw [HM.out]; omega)⟩, Below.refl _ _⟩
  case round =>
    obtain ⟨lo, hi, rfl, rfl, hlh, hhn, HI, hb⟩ := hrel
    have HB := Lib.hid hb
    have HSk := Lib.hid (HS.out.keep hb)
    have k0 := (HK.out.keep hb).cell 0
    have k1 := (HK.out.keep hb).cell 1
    simp at k0 k1
    have HKb := Lib.hid (HK.out.keep hb)
    clear hb
    by_cases hlt : lo < hi
    · have hlt' : (lo : Int) < (hi : Int) := by omega
      obtain ⟨h, hh⟩ : ∃ h, h = (lo + hi) / 2 := ⟨_, rfl⟩
      have hhi : ((lo : Int) + (hi : Int)) / 2 = (h : Int) := by omega
      have hhn2 : (h : Int) < (n : Int) := by omega
      have hh0 : (0 : Int) ≤ (h : Int) := by omega
      have hwh : wrap64 (h : Int) = (h : Int) := by unfold wrap64; omega
      have hwh2 : IntKind.i64.wrap (h : Int) = (h : Int) := by rw [IntKind.wrap_i64]; omega
      obtain ⟨⟨x, y⟩, he⟩ : ∃ e, E[h]? = some e := ⟨_, List.getElem?_eq_getElem (by rw [HM.out]; omega)⟩
      obtain ⟨b1, off1, rfl, c0, c1⟩ := HSk.out.edge (show h < n by omega) he
      simp only at c0 c1
      have HE := Lib.hid he
      have HO := Lib.hid (fun W => order_any (x, y) (tx, ty) W)
      obtain ⟨z, hz⟩ : ∃ z, z = Pt.ordE (x, y) (tx, ty) := ⟨_, rfl⟩
      rw [← hz] at HO
      have HZ := Lib.hid hz
      clear he hz
      have hlo2 : lo ≤ h := by omega
      have hhi2 : h < hi := by omega
      clear hh
      go_wp2_with fail
      by_cases hz0 : z < 0
      · have HN := Lib.hid (show (∀ (k : Nat) e, k < h + 1 → E[k]? = some e → Pt.ordE e (tx, ty) < 0) from fun k e hk hke => by
          by_cases hkh : k = h
          · subst hkh
            rw [HE.out] at hke
            cases hke
            rw [← HZ.out]
            exact hz0
          · have h1 := HR.out k h e (x, y) (by omega) hke HE.out
            exact Pt.cp_edge.lt h1 (by rw [← HZ.out]; omega))
        go_region_held3 (fun w' => w'.cell? ⟨w.heap.size, 0, none⟩ = some (.int .i64 tx) ∧ w'.cell? ⟨w.heap.size, 1, none⟩ = some (.int .i64 ty) ∧ w'.cell? ⟨b1, off1 + h * 2, none⟩ = some (.int .i64 x) ∧ w'.cell? ⟨b1, off1 + h * 2 + 1, none⟩ = some (.int .i64 y)) (go_keep) ((go_at_call 37; refine (HO.out _).mono ?_; rintro e' w3 ⟨rfl, hb4⟩; have q0 := (hb4.cell (p := ⟨w.heap.size, 0, none⟩) (World.block_lt_of_cell? _ _ k0)).trans k0; have q1 := (hb4.cell (p := ⟨w.heap.size, 1, none⟩) (World.block_lt_of_cell? _ _ k1)).trans k1; have q2 := (hb4.cell (p := ⟨b1, off1 + h * 2, none⟩) (World.block_lt_of_cell? _ _ c0)).trans c0; have q3 := (hb4.cell (p := ⟨b1, off1 + h * 2 + 1, none⟩) (World.block_lt_of_cell? _ _ c1)).trans c1; (first | have HB4 := Lib.hid (HB.out.trans (hb4.mono HB.out.size)) | have HB4 := Lib.hid ((bel_drewN HB.out 1).trans (hb4.mono HB.out.size))); clear hb4))
        all_goals go_wp2_with fail
        all_goals (
          go_roundw
          case rel => exact ⟨h + 1, hi, by go_num, rfl, by omega, hhn, ⟨HN.out, HI.out.2⟩, HB4.out⟩
          case measure => simp [intOf]; omega)
      · have HN := Lib.hid (show (∀ (k : Nat) e, h ≤ k → E[k]? = some e → 0 ≤ Pt.ordE e (tx, ty)) from fun k e hk hke => by
          by_cases hkh : k = h
          · subst hkh
            rw [HE.out] at hke
            cases hke
            rw [← HZ.out]
            omega
          · have h1 := HR.out h k (x, y) e (by omega) HE.out hke
            by_cases h2 : 0 ≤ Pt.ordE e (tx, ty)
            · exact h2
            · have h3 := Pt.cp_edge.lt h1 (show Pt.ordE e (tx, ty) ≤ 0 by omega)
              rw [← HZ.out] at h3
              omega)
        go_region_held3 (fun w' => w'.cell? ⟨w.heap.size, 0, none⟩ = some (.int .i64 tx) ∧ w'.cell? ⟨w.heap.size, 1, none⟩ = some (.int .i64 ty) ∧ w'.cell? ⟨b1, off1 + h * 2, none⟩ = some (.int .i64 x) ∧ w'.cell? ⟨b1, off1 + h * 2 + 1, none⟩ = some (.int .i64 y)) (go_keep) ((go_at_call 37; refine (HO.out _).mono ?_; rintro e' w3 ⟨rfl, hb4⟩; have q0 := (hb4.cell (p := ⟨w.heap.size, 0, none⟩) (World.block_lt_of_cell? _ _ k0)).trans k0; have q1 := (hb4.cell (p := ⟨w.heap.size, 1, none⟩) (World.block_lt_of_cell? _ _ k1)).trans k1; have q2 := (hb4.cell (p := ⟨b1, off1 + h * 2, none⟩) (World.block_lt_of_cell? _ _ c0)).trans c0; have q3 := (hb4.cell (p := ⟨b1, off1 + h * 2 + 1, none⟩) (World.block_lt_of_cell? _ _ c1)).trans c1; (first | have HB4 := Lib.hid (HB.out.trans (hb4.mono HB.out.size)) | have HB4 := Lib.hid ((bel_drewN HB.out 1).trans (hb4.mono HB.out.size))); clear hb4))
        all_goals go_wp2_with fail
        all_goals (
          go_roundw
          case rel => exact ⟨lo, h, rfl, rfl, by omega, by omega, ⟨HI.out.1, HN.out⟩, HB4.out⟩
          case measure => simp [intOf]; omega)
    · obtain rfl : hi = lo := by omega
      have hlt' : ¬ (hi : Int) < (hi : Int) := by omega
      have HSp := Lib.hid (show spotE E (tx, ty) hi from ⟨by rw [HM.out]; omega, HI.out.1, HI.out.2⟩)
      by_cases hn2 : hi < n
      · have hn2' : (hi : Int) < (n : Int) := by omega
        have hh0 : (0 : Int) ≤ (hi : Int) := by omega
        obtain ⟨⟨x, y⟩, he⟩ : ∃ e, E[hi]? = some e := ⟨_, List.getElem?_eq_getElem (by rw [HM.out]; omega)⟩
        obtain ⟨b1, off1, rfl, c0, c1⟩ := HSk.out.edge hn2 he
        simp only at c0 c1
        have HE := Lib.hid he
        have HO := Lib.hid (fun W => order_any (x, y) (tx, ty) W)
        obtain ⟨z, hz⟩ : ∃ z, z = Pt.ordE (x, y) (tx, ty) := ⟨_, rfl⟩
        rw [← hz] at HO
        have HRes := Lib.hid (show (z == 0) = true ↔ ∃ f, E[hi]? = some f ∧ Pt.ordE f (tx, ty) = 0 by
          rw [he]
          constructor
          · intro h
            exact ⟨_, rfl, by rw [← hz]; simpa using h⟩
          · rintro ⟨f, hf, h⟩
            cases hf
            rw [← hz] at h
            simpa using h)
        clear he hz
        go_wp2_with fail
        go_region_held3 (fun w' => w'.cell? ⟨w.heap.size, 0, none⟩ = some (.int .i64 tx) ∧ w'.cell? ⟨w.heap.size, 1, none⟩ = some (.int .i64 ty) ∧ w'.cell? ⟨b1, off1 + hi * 2, none⟩ = some (.int .i64 x) ∧ w'.cell? ⟨b1, off1 + hi * 2 + 1, none⟩ = some (.int .i64 y)) (go_keep) ((go_at_call 37; refine (HO.out _).mono ?_; rintro e' w3 ⟨rfl, hb4⟩; have q0 := (hb4.cell (p := ⟨w.heap.size, 0, none⟩) (World.block_lt_of_cell? _ _ k0)).trans k0; have q1 := (hb4.cell (p := ⟨w.heap.size, 1, none⟩) (World.block_lt_of_cell? _ _ k1)).trans k1; have q2 := (hb4.cell (p := ⟨b1, off1 + hi * 2, none⟩) (World.block_lt_of_cell? _ _ c0)).trans c0; have q3 := (hb4.cell (p := ⟨b1, off1 + hi * 2 + 1, none⟩) (World.block_lt_of_cell? _ _ c1)).trans c1; (first | have HB4 := Lib.hid (HB.out.trans (hb4.mono HB.out.size)) | have HB4 := Lib.hid ((bel_drewN HB.out 1).trans (hb4.mono HB.out.size))); clear hb4))
        all_goals go_wp2_with fail
        all_goals go_ret2
        all_goals exact ⟨hi, _, rfl, HSp.out, HRes.out, HB0.out.andThen HB4.out⟩
      · obtain rfl : hi = n := by omega
        have HRes := Lib.hid (show false = true ↔ ∃ f, E[hi]? = some f ∧ Pt.ordE f (tx, ty) = 0 from ⟨fun h => (by cases h), fun ⟨f, hf, _⟩ => absurd (List.getElem?_eq_some_iff.1 hf).1 (by rw [HM.out]; omega)⟩)
        go_wp2_with fail
        go_quiet (fail)
        go_wp2_with fail
        go_ret2
        exact ⟨hi, _, rfl, HSp.out, HRes.out, bel_drewN (HB0.out.andThen HB.out) _⟩
end Go.Proofs.YtapledphhfiimaaGreatDoor
/-
  Patterns: slices.Clone, Make of the chapter's example.
-/
namespace Go.Proofs.YtapledphhfiimaaGreatDoor
open Go.RowKit
attribute [local go_sem ↓] Go.wp_at_zero Go.wp_at_succ
set_option maxRecDepth 100000
set_option linter.unusedVariables false

theorem CloneI_ownK (l : List Int) (A : Option Addr) (n c : Nat) (w : World) (hl : l.length = n) (hn : n ≤ 1099511627776) (hs : Sl w 1 A n (l.map (Value.int .i64))) :
    Calls Tryz.prog 78 #[.slice A n c] w fun e w' => ∃ v, e = .returned v ∧ w'.ownsRow w.heap.size 3 1 v n (l.map (Value.int .i64)) ∧ Below w.heap.size w w' := by
  have nn := fun (w : World) (a : Option Addr) (n c : Nat) => Lib.run_eql_slice_nil (P := Tryz.prog) w 23 3 a n c 0 0 Tryz.underlying23
  have HS := Lib.hid hs
  go_enter Tryz.func78, Tryz.ntmps78
  rcases A with _ | A
  · have hn0 : n = 0 := by
      rcases Nat.eq_zero_or_pos n with h | h
      · exact h
      · obtain ⟨_, _, h, _⟩ := hs.2 h; cases h
    subst hn0
    clear hs
    go_wp2_with fail
    go_ret
    obtain rfl := List.eq_nil_of_length_eq_zero hl
    exact ⟨_, rfl, World.ownsRow_nil _ _ _ _, Below.refl _ _⟩
  · have hbA := bel_al (Below.refl w.heap.size w) (.cells #[] 3)
    have HOE := Lib.hid (World.ownsRow_made (e := 3) (size := 1) w #[] 0 (Nat.le_refl _) (Nat.zero_le _) rfl)
    have HBA := Lib.hid hbA
    have SPA := Lib.hid (HS.out.keep hbA)
    clear hs hbA
    go_wp2_with (at_builtin; refine wpList_cat_at elemInt _ _ rfl rfl HOE.out HBA.out.size SPA.out rfl rfl (one_i64 _) (by unfold lim; omega) (by unfold lim; omega) ?_; intro v8 w8 hown8 hg8; have HO8 := Lib.hid hown8; have HB8 := Lib.hid (HBA.out.trans (hg8.belowOwn HBA.out.size HOE.out)); clear hown8 hg8 HOE HBA SPA)
    go_ret
    have hown := HO8.out
    rw [List.nil_append, Nat.zero_add] at hown
    exact ⟨_, rfl, hown, HB8.out⟩

def exE : List (Int × Int) := [(2, 1), (0, 1), (0, 2)]
def rk : Nat → List (Int × Int)
  | 0 => []
  | 1 => [(1, 2)]
  | 2 => [(0, 1), (1, 2)]
  | _ => [(0, 1), (0, 2), (1, 2)]
theorem rise0 : riseE [] := fun i j e f hij he hf => absurd he (by simp)
theorem rise1 (a : Int × Int) : riseE [a] := by
  intro i j e f hij he hf
  have h1 := (List.getElem?_eq_some_iff.1 hf).1
  simp at h1
  omega
theorem rise2 {a b : Int × Int} (h : Pt.ordE a b < 0) : riseE [a, b] := by
  intro i j e f hij he hf
  have h1 := (List.getElem?_eq_some_iff.1 hf).1
  simp at h1
  obtain rfl : i = 0 := by omega
  obtain rfl : j = 1 := by omega
  cases he
  cases hf
  exact h
structure ExF (k : Nat) (x y : Int) (t : Int × Int) (p : Nat) : Prop where
  at_ : exE[k]? = some (x, y)
  in_ : 0 ≤ x ∧ 0 ≤ y ∧ x < 3 ∧ y < 3
  ne : x ≠ y
  turn : turnE (x, y) = t
  rise : riseE (rk k)
  len : (rk k).length = k
  spot : ∀ q, spotE (rk k) t q → q = p
  le : p ≤ k
  new : ¬ ∃ f, (rk k)[p]? = some f ∧ Pt.ordE f t = 0
  ins : insE (rk k) p t = rk (k + 1)
theorem exF0 : ExF 0 2 1 (1, 2) 0 := { at_ := rfl, in_ := by omega, ne := by omega, turn := by decide, rise := rise0, len := rfl, spot := fun q h => (by have := h.1; simp [rk] at this; exact this), le := Nat.le_refl _, new := fun h => (by obtain ⟨f, hf, _⟩ := h; cases hf), ins := rfl }
theorem spot1 : ∀ q, spotE (rk 1) (0, 1) q → q = 0 := fun q h => by
  rcases Nat.eq_zero_or_pos q with h0 | h0
  · exact h0
  · have := h.2.1 0 (1, 2) h0 rfl
    exact absurd this (by decide)
theorem new1 : ¬ ∃ f, (rk 1)[0]? = some f ∧ Pt.ordE f (0, 1) = 0 := fun h => by
  obtain ⟨f, hf, h⟩ := h
  cases hf
  exact absurd h (by decide)
theorem exF1 : ExF 1 0 1 (0, 1) 0 := { at_ := rfl, in_ := by omega, ne := by omega, turn := by decide, rise := rise1 _, len := rfl, spot := spot1, le := by omega, new := new1, ins := rfl }
theorem spot2 : ∀ q, spotE (rk 2) (0, 2) q → q = 1 := fun q h => by
  rcases Nat.lt_trichotomy q 1 with h0 | h0 | h0
  · have := h.2.2 0 (0, 1) (by omega) rfl
    exact absurd this (by decide)
  · exact h0
  · have := h.2.1 1 (1, 2) h0 rfl
    exact absurd this (by decide)
theorem new2 : ¬ ∃ f, (rk 2)[1]? = some f ∧ Pt.ordE f (0, 2) = 0 := fun h => by
  obtain ⟨f, hf, h⟩ := h
  cases hf
  exact absurd h (by decide)
theorem exF2 : ExF 2 0 2 (0, 2) 1 := { at_ := rfl, in_ := by omega, ne := by omega, turn := by decide, rise := rise2 (by decide), len := rfl, spot := spot2, le := by omega, new := new2, ins := rfl }
theorem ex_facts (k : Nat) (hk : k < 3) : ∃ x y t p, ExF k x y t p := by
  rcases k with _ | k
  · exact ⟨_, _, _, _, exF0⟩
  · rcases k with _ | k
    · exact ⟨_, _, _, _, exF1⟩
    · rcases k with _ | k
      · exact ⟨_, _, _, _, exF2⟩
      · omega
end Go.Proofs.YtapledphhfiimaaGreatDoor
