/-
  Contracts: perm.Circles, perm.Even.
-/
import Derived.Test.YtclbbchljiagpaaDoorPermC
import Derived.Test.YtclbbchljiagpaaDoorWords3
import Derived.Test.YtclbbchljiagpaaDoorPermJ
import Derived.WalkSpells
namespace Go.Proofs.YtclbbchljiagpaaDoor
open Go.RowKit
set_option maxRecDepth 100000

theorem elemInts : Elem Tryd.prog 86 48 (.slice none 0 0) 1 24 := ⟨Tryd.underlying86, by kernel_rfl, rfl, by decide⟩
theorem elemBool : Elem Tryd.prog 127 4 (.bool false) 1 1 := ⟨Tryd.underlying127, by kernel_rfl, rfl, by decide⟩

/-- The circles' rows, each below a block. -/
def CRows (B : Nat) (w : World) (Bc : Nat) : List (List Int) → List Value → Prop
  | [], vs => vs = []
  | c :: outs, vs => ∃ v vs', vs = v :: vs' ∧ w.ownsRow B 3 1 v c.length (c.map (Value.int .i64)) ∧ (∀ g, v.ownBlock = some g → g < Bc) ∧ CRows B w Bc outs vs'
theorem CRows.map {B : Nat} {w w' : World} {Bc Bc' : Nat} (f : ∀ v (c : List Int), w.ownsRow B 3 1 v c.length (c.map (Value.int .i64)) → (∀ g, v.ownBlock = some g → g < Bc) → w'.ownsRow B 3 1 v c.length (c.map (Value.int .i64)) ∧ ∀ g, v.ownBlock = some g → g < Bc') : ∀ {outs : List (List Int)} {vs : List Value}, CRows B w Bc outs vs → CRows B w' Bc' outs vs
  | [], _, h => h
  | c :: _, _, ⟨v, vs', h1, h2, h3, h4⟩ => ⟨v, vs', h1, (f v c h2 h3).1, (f v c h2 h3).2, CRows.map f h4⟩
theorem CRows.now {B : Nat} {w : World} {Bc : Nat} {outs : List (List Int)} {vs : List Value} (h : CRows B w Bc outs vs) : CRows B w w.heap.size outs vs := h.map fun _ _ h1 _ => ⟨h1, fun g hg => (h1.lt g hg).2⟩
theorem CRows.snoc {B : Nat} {w : World} {Bc : Nat} {c : List Int} {v : Value} (hc : w.ownsRow B 3 1 v c.length (c.map (Value.int .i64))) (hv : ∀ g, v.ownBlock = some g → g < Bc) : ∀ {outs : List (List Int)} {vs : List Value}, CRows B w Bc outs vs → CRows B w Bc (outs ++ [c]) (vs ++ [v])
  | [], _, h => by rw [show _ = [] from h]; exact ⟨v, [], rfl, hc, hv, rfl⟩
  | _ :: _, _, ⟨u, vs', h1, h2, h3, h4⟩ => ⟨u, vs' ++ [v], by rw [h1]; rfl, h2, h3, h4.snoc hc hv⟩
theorem CRows.len {B : Nat} {w : World} {Bc : Nat} : ∀ {outs : List (List Int)} {vs : List Value}, CRows B w Bc outs vs → vs.length = outs.length
  | [], _, h => by rw [show _ = [] from h]; rfl
  | _ :: _, _, ⟨u, vs', h1, _, _, h4⟩ => by rw [h1, List.length_cons, List.length_cons, h4.len]

/-- Which things are seen. -/
def seenL (n : Nat) (S : List Int) : List Value := (List.range n).map fun y : Nat => .bool (decide ((y : Int) ∈ S))
theorem seenL_nil (n : Nat) : List.replicate n (Value.bool false) = seenL n [] := by
  apply List.ext_getElem?
  intro j
  simp [seenL, List.getElem?_replicate, List.getElem?_map]
  split <;> simp_all
theorem seenL_at {n x : Nat} (S : List Int) (h : x < n) : (seenL n S)[x]? = some (.bool (decide ((x : Int) ∈ S))) := by simp [seenL, h]
theorem seenL_set (n x : Nat) (S : List Int) : (seenL n S).set x (.bool true) = seenL n (S ++ [(x : Int)]) := by
  apply List.ext_getElem?
  intro j
  rw [List.getElem?_set]
  by_cases hj : j < n
  · rw [seenL_at _ hj, seenL_at _ hj]
    by_cases e : x = j
    · subst e; simp [seenL, hj]
    · have : ¬ (j : Int) = x := by omega
      simp [e, this]
  · have h1 : (seenL n S)[j]? = none := List.getElem?_eq_none (by simp [seenL]; omega)
    have h2 : (seenL n (S ++ [(x : Int)]))[j]? = none := List.getElem?_eq_none (by simp [seenL]; omega)
    rw [h1, h2]
    by_cases e : x = j
    · subst e; simp [seenL, hj]
    · simp [e]

theorem Circles_bad (p : List Int) (A : Option Addr) (n c : Nat) (w : World) (hO : ¬ Ord p) (hl : p.length = n) (hs : Sl w 1 A n (p.map (Value.int .i64))) :
    Calls Tryd.prog 57 #[.slice A n c] w fun e w' => ∃ ev, e = .returned (.tuple #[.slice none 0 0, ev]) ∧ (Err.flt 1 0 order).At w' ev ∧ Below w.heap.size w w' := by
  have HR := Lib.hid (Right_any p A n c w hl hs)
  rw [decide_eq_false hO] at HR
  clear hs
  go_enter Tryd.func57, Tryd.ntmps57
  go_wp2_with fail
  refine HR.out.mono ?_
  rintro e w1 ⟨rfl, rfl⟩
  clear HR
  go_wp2_with fail
  refine (wrong_any 0 w).mono ?_
  rintro e w2 ⟨v, rfl, hv, hb2⟩
  go_wp2_with fail
  go_ret2
  exact ⟨_, rfl, hv, hb2⟩

set_option maxHeartbeats 2000000 in
theorem Circles_ok (p : List Int) (A : Option Addr) (n cp : Nat) (w : World) (hO : Ord p) (hl : p.length = n) (hs : Sl w 1 A n (p.map (Value.int .i64))) :
    Calls Tryd.prog 57 #[.slice A n cp] w fun e w' => ∃ C k outs vs, e = .returned (.tuple #[.slice C outs.length k, .nilIface]) ∧ CI p n outs ∧ Sl w' 1 C outs.length vs ∧ CRows w.heap.size w' w'.heap.size outs vs ∧ Below w.heap.size w w' := by
  have HR := Lib.hid (Right_any p A n cp w hl hs)
  rw [decide_eq_true hO] at HR
  have hn : n ≤ 8 := by rw [← hl]; exact hO.1
  have HO := Lib.hid hO
  have HS := Lib.hid hs
  have nn0 : ∀ W, (binOp .neq 48 (.slice none 0 0) (.slice none 0 0)).run Tryd.prog W = .ok (.bool false) W := fun W => run_neq_slice_nil_any W _ _ none 0 0 0 0 Tryd.underlying48
  have nn1 : ∀ a l c W, (binOp .neq 48 (.slice (some a) l c) (.slice none 0 0)).run Tryd.prog W = .ok (.bool true) W := fun a l c W => run_neq_slice_nil_any W _ _ (some a) l c 0 0 Tryd.underlying48
  have hmk := fun W => make_elem elemBool rfl n (by omega) (by omega) W
  have HSeen := Lib.hid (own_replicate (B := w.heap.size) (e := 4) w n (.bool false) (Nat.le_refl _) (by omega))
  clear hO hs
  go_enter Tryd.func57, Tryd.ntmps57
  go_wp2_with fail
  refine HR.out.mono ?_
  rintro e w1 ⟨rfl, rfl⟩
  clear HR
  go_wp2_with fail
  go_loopw [4, 18] (fun ov iv wr => ∃ (i : Nat) (outs : List (List Int)) (vs : List Value), i ≤ n ∧ iv = .int .i64 i ∧ CI p i outs ∧ wr.ownsRow w.heap.size 48 1 ov outs.length vs ∧ CRows w.heap.size wr wr.heap.size outs vs ∧ wr.ownsRow w.heap.size 4 1 (.slice (some ⟨w.heap.size, 0, none⟩) n n) n (seenL n outs.flatten) ∧ Below w.heap.size w wr) (fun _ iv _ => n - (intOf iv).toNat)
  case atStart => exact ⟨0, [], [], Nat.zero_le _, rfl, CI.zero p, World.ownsRow_nil _ _ _ _, rfl, by rw [show ([] : List (List Int)).flatten = [] from rfl, ← seenL_nil]; exact HSeen.out, bel_al (Below.refl _ _) _⟩
  case round =>
    obtain ⟨i, outs, vs, hi, rfl, hci, hov, hcr, hsn, hb⟩ := hrel
    by_cases hlt : i < n
    · have HCI := Lib.hid hci
      have HOV := Lib.hid hov
      have HCR := Lib.hid hcr
      have HSN := Lib.hid hsn
      have HB := Lib.hid hb
      have hovB : ∀ g, u4.ownBlock = some g → g < wr.heap.size := fun g hg => (hov.lt g hg).2
      have HOB := Lib.hid hovB
      have hsB := (hsn.lt _ rfl).2
      have HSB := Lib.hid hsB
      have hvl : vs.length = outs.length := hcr.len
      have HVL := Lib.hid hvl
      have HST := Lib.hid (CJ.start hci (by omega))
      clear hci hov hcr hsn hb hovB hsB hvl
      generalize hBc : wr.heap.size = Bc at *
      have HBC := Lib.hid hBc
      clear hBc
      go_wp2_with fail
      go_loopw [7, 8] (fun cv xv wq => ∃ (c : List Int) (x : Nat), xv = .int .i64 x ∧ CJ p i outs c x ∧ (c = [] → cv = .slice none 0 0) ∧ wq.ownsRow Bc 3 1 cv c.length (c.map (Value.int .i64)) ∧ wq.ownsRow w.heap.size 48 1 u4 outs.length vs ∧ CRows w.heap.size wq Bc outs vs ∧ wq.ownsRow w.heap.size 4 1 (.slice (some ⟨w.heap.size, 0, none⟩) n n) n (seenL n (outs.flatten ++ c)) ∧ Bc ≤ wq.heap.size ∧ Below w.heap.size w wq) (fun cv _ _ => n - lenV cv)
      case atStart => exact ⟨[], i, rfl, HST.out, fun _ => rfl, World.ownsRow_nil _ _ _ _, HOV.out, HCR.out, by rw [List.append_nil]; exact HSN.out, Nat.le_of_eq HBC.out.symm, HB.out⟩
      case round =>
        obtain ⟨c, x, rfl, hcj, hcn, hc, hov, hcr, hsn, hBw, hb⟩ := hrel
        have hxl := hcj.lt
        have hcell := hsn.cellAt x (by omega)
        rw [seenL_at _ (by omega)] at hcell
        have hfr := hsn.frozenAt x
        have HCJ := Lib.hid hcj
        have HCN := Lib.hid hcn
        by_cases hm : (x : Int) ∈ outs.flatten ++ c
        · rw [decide_eq_true hm] at hcell
          have HM := Lib.hid hm
          by_cases hce : c = []
          · subst hce
            obtain rfl := hcn rfl
            rw [List.append_nil] at hm hsn
            have hxi := hcj.none_ rfl
            subst hxi
            have HK := Lib.hid (HCI.out.skip hm)
            clear hcj hcn hm
            have HHOV := Lib.hid hov
            have HHCR := Lib.hid hcr.now
            have HHSN := Lib.hid hsn
            clear hov hcr hsn hc
            go_wp2_with fail
            go_roundw
            case rel => exact ⟨x + 1, outs, vs, by omega, by go_num, HK.out, HHOV.out, HHCR.out, HHSN.out, hb⟩
            case measure => simp [intOf]; omega
          · obtain ⟨g, cap, rfl, hBg⟩ := own_form hc (List.length_pos_iff.2 hce)
            have HK := Lib.hid (hcj.done HO.out HCI.out hce hm)
            have hcl := HCJ.out.length_le
            clear hcj hcn hm
            have HC := Lib.hid hc
            have HCR2 := Lib.hid hcr
            have HSN2 := Lib.hid hsn
            have HOV2 := Lib.hid hov
            have HCE := Lib.hid hce
            clear hcr hsn hc hce
            have houl : outs.length ≤ n := by rw [← hl]; exact HCI.out.few
            go_wp2_with (at_builtin; refine wpList_push_g elemInts _ _ rfl rfl hov hb (Nat.le_refl _) rfl rfl rfl (by simp [Value.oneCell']) (by unfold lim; omega) (by unfold lim; omega) ?_; intro v' w5 hown1 hb5 hgr)
            go_roundw
            case rel =>
              refine ⟨i + 1, outs ++ [c], vs ++ [.slice (some ⟨g, 0, none⟩) c.length cap], by omega, by go_num, HK.out, ?_, ?_, ?_, hb5⟩
              · rw [List.length_append]; exact hown1
              · exact CRows.snoc (own_mono (own_grown HC.out HOV2.out (by decide) hgr) (Nat.le_of_lt HSB.out)) (fun g hg => ((own_grown HC.out HOV2.out (by decide) hgr).lt g hg).2) (HCR2.out.map (fun v c hv _ => ⟨own_grown hv HOV2.out (by decide) hgr, fun g hg => ((own_grown hv HOV2.out (by decide) hgr).lt g hg).2⟩))
              · rw [show (outs ++ [c]).flatten = outs.flatten ++ c by simp]
                exact own_grown HSN2.out HOV2.out (by decide) hgr
            case measure => simp [intOf]; omega
        · rw [decide_eq_false hm] at hcell
          have HM := Lib.hid hm
          have HK := Lib.hid (hcj.step HO.out hm)
          have hxp : x < n := by omega
          have hcl := HK.out.length_le
          rw [List.length_append, List.length_singleton] at hcl
          obtain ⟨hnx, hnl⟩ := nx_at HO.out hxl
          have HSt := Lib.hid (hsn.stored x (.bool true))
          have HC1 := Lib.hid (own_set hc hsn (by decide) x (.bool true))
          have HOV1 := Lib.hid (own_set hov hsn (by decide) x (.bool true))
          have HCR1 := Lib.hid (hcr.map (w' := wr.setCell ⟨w.heap.size, x, none⟩ (.bool true)) (Bc' := Bc) (fun v c hv hg => ⟨own_set hv hsn (by decide) x (.bool true), hg⟩))
          have hb1 : Below w.heap.size w (wr.setCell ⟨w.heap.size, x, none⟩ (.bool true)) := hb.setCell (p := ⟨w.heap.size, x, none⟩) (Nat.le_refl _) _
          have HB1 := Lib.hid hb1
          have hBw1 : Bc ≤ (wr.setCell ⟨w.heap.size, x, none⟩ (.bool true)).heap.size := by simpa using hBw
          have HBw1 := Lib.hid hBw1
          have hSl := HS.out.keep hb1
          obtain ⟨b, off, u, rfl, e1, c1⟩ := hSl.one hxp
          have e1' : (p.map (Value.int .i64))[x]? = some (.int .i64 (nx p x)) := by rw [List.getElem?_map, hnx]; rfl
          rw [e1'] at e1
          obtain rfl := Option.some.inj e1
          have HX := Lib.hid (fun W (hW : Below Bc (wr.setCell ⟨w.heap.size, x, none⟩ (.bool true)) W) => (HS.out.keep (HB1.out.trans (hW.mono (Nat.le_of_lt HSB.out)))).again hxp e1')
          clear e1'
          have HLV := Lib.hid (lenV_own hc)
          have hsz : wr.heap.size = (wr.setCell ⟨w.heap.size, x, none⟩ (.bool true)).heap.size := by simp
          have HSZ := Lib.hid (congrArg (fun k => Value.slice (some ⟨k, 0, none⟩) 1 1) hsz)
          clear hsz
          clear hcj hcn hm hc hov hcr hsn e1 hb1 hSl hBw1 hnx
          go_wp2_with (at_builtin; refine wpList_push elemInt (w0 := wr.setCell ⟨w.heap.size, x, none⟩ (.bool true)) _ _ rfl rfl HC1.out (Below.refl _ _) HBw1.out rfl HSZ.out rfl (by simp [Value.oneCell']) (by unfold lim; omega) (by unfold lim; omega) ?_; intro v' w5 hown1 hb5; have c5 := HX.out w5 hb5)
          go_roundw
          case rel =>
            refine ⟨c ++ [(x : Int)], nx p x, rfl, HK.out, fun h => by simp at h, ?_, own_below HOV1.out HOB.out hb5, HCR1.out.map (fun v c hv hg => ⟨own_below hv hg hb5, hg⟩), ?_, Nat.le_trans HBw1.out hb5.size, HB1.out.trans (hb5.mono (Nat.le_of_lt HSB.out))⟩
            · rw [List.length_append, List.map_append]; exact hown1
            · rw [← List.append_assoc, ← seenL_set]
              exact own_below HSt.out.1 (fun g hg => by have : w.heap.size = g := by simpa [Value.ownBlock] using hg
                                                        rw [← this]; exact HSB.out) hb5
          case measure => simp only [lenV_own hown1, HLV.out]; omega
    · obtain rfl : i = n := by omega
      obtain ⟨C, k, rfl, hsl⟩ := Sl.own hov
      have HX := Lib.hid hsl
      have HCI := Lib.hid hci
      have HCR := Lib.hid hcr
      clear hov hsl hci hcr hsn
      go_wp2_with fail
      go_ret2
      exact ⟨_, _, _, _, rfl, HCI.out, HX.out, HCR.out, hb⟩

set_option maxHeartbeats 1000000 in
theorem Even_ok (p : List Int) (A : Option Addr) (n cp : Nat) (w : World) (hO : Ord p) (hl : p.length = n) (hs : Sl w 1 A n (p.map (Value.int .i64))) :
    Calls Tryd.prog 61 #[.slice A n cp] w fun e w' => e = .returned (.tuple #[.bool (decide (inv p % 2 = 0)), .nilIface]) ∧ Below w.heap.size w w' := by
  have HC := Lib.hid (Circles_ok p A n cp w hO hl hs)
  have HO := Lib.hid hO
  clear hO hs
  go_enter Tryd.func61, Tryd.ntmps61
  go_wp2_with fail
  refine HC.out.mono ?_
  rintro e w1 ⟨C, k, outs, vs, rfl, hci, _, _, hb⟩
  have h1 := hci.few
  rw [← hl] at hci
  have h2 := hci.even HO.out
  rw [hl] at h1 h2
  clear hci HC
  generalize outs.length = o at *
  have h3 : ((wrap64 ((n : Int) - (o : Int))).tmod 2 == 0) = decide (inv p % 2 = 0) := by
    have hn : n ≤ 8 := by rw [← hl]; exact HO.out.1
    rw [IntWalk.wrap64_in _ (by omega), Int.tmod_eq_emod_of_nonneg (by omega)]
    by_cases hz : inv p % 2 = 0
    · rw [decide_eq_true hz]; simp; omega
    · rw [decide_eq_false hz]; simp; omega
  have H3 := Lib.hid (congrArg (fun b => Value.tuple #[.bool b, .nilIface]) h3)
  clear h3
  go_wp2_with fail
  go_ret2
  exact ⟨ret_eq H3.out, hb⟩
theorem Even_bad (p : List Int) (A : Option Addr) (n cp : Nat) (w : World) (hO : ¬ Ord p) (hl : p.length = n) (hs : Sl w 1 A n (p.map (Value.int .i64))) :
    Calls Tryd.prog 61 #[.slice A n cp] w fun e w' => ∃ ev, e = .returned (.tuple #[.bool false, ev]) ∧ (Err.flt 1 0 order).At w' ev ∧ Below w.heap.size w w' := by
  have HC := Lib.hid (Circles_bad p A n cp w hO hl hs)
  clear hO hs
  go_enter Tryd.func61, Tryd.ntmps61
  go_wp2_with fail
  refine HC.out.mono ?_
  rintro e w1 ⟨ev, rfl, hev, hb⟩
  obtain ⟨T, x, rfl⟩ := Err.At.iface_ hev (fun h => by cases h)
  have HE := Lib.hid hev
  clear hev HC
  go_wp2_with fail
  go_ret2
  exact ⟨_, rfl, HE.out, hb⟩
end Go.Proofs.YtclbbchljiagpaaDoor
