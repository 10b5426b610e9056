/-
  NumsTotal: the walk.
-/
import Derived.Test.YtclbbchljiagpaaDoorNumsTwo
import Derived.Test.YtclbbchljiagpaaDoorNumsChoose
namespace Go.Proofs.YtclbbchljiagpaaDoor
open Go.RowKit
set_option maxRecDepth 100000
set_option linter.unusedVariables false

theorem sumZ_abs : ∀ {l : List Int}, (∀ x ∈ l, -9223372036854775808 ≤ x ∧ x ≤ 9223372036854775807) → (sumZ l).natAbs ≤ l.length * 9223372036854775808
  | [], _ => by simp [sumZ]
  | x :: l, h => by
    have h1 := sumZ_abs (l := l) (fun y hy => h y (List.mem_cons_of_mem _ hy))
    have h2 := h x (by simp)
    rw [sumZ, List.length_cons, Nat.add_mul]
    omega
theorem sumZ_few {l : List Int} (h : ∀ x ∈ l, -9223372036854775808 ≤ x ∧ x ≤ 9223372036854775807) (hl : l.length ≤ 200) : Few (sumZ l) := by
  have h5 : (32768 : Nat) ^ 5 = 37778931862957161709568 := by decide
  have h1 := sumZ_abs h
  have h2 : l.length * 9223372036854775808 ≤ 200 * 9223372036854775808 := Nat.mul_le_mul_right _ hl
  exact Few.of (k := 5) (by rw [h5]; omega) (by omega)
theorem rev_take {l : List Int} {k : Nat} (h : k < l.length) : l.reverse.take (k + 1) = l.reverse.take k ++ [l[l.length - 1 - k]'(by omega)] := by
  rw [List.take_succ_eq_append_getElem (by rw [List.length_reverse]; exact h), List.getElem_reverse]

theorem Sl.grown {w w' : World} {A : Option Addr} {n : Nat} {xs : List Value} {row : Option Nat} (h : Sl w 1 A n xs) (hg : w.grownBy w' row) (hA : ∀ x : Addr, A = some x → x.block < w.heap.size ∧ some x.block ≠ row) : Sl w' 1 A n xs := by
  refine ⟨h.1, fun hn => ?_⟩
  obtain ⟨b0, off, rfl, h2⟩ := h.2 hn
  refine ⟨b0, off, rfl, fun j v hj => ?_⟩
  exact (World.cell?_of_block (w := w) (a := ⟨b0, off + j, none⟩) (hg.block b0 (hA _ rfl).1 (hA _ rfl).2)).trans (h2 j v hj)

set_option maxHeartbeats 16000000 in
theorem NumsTotal_walk (l : List Int) (A : Option Addr) (n c : Nat) (w : World) (hg : ErrT w) (hn : n ≤ 200) (hl : l.length = n) (hr : ∀ x ∈ l, -9223372036854775808 ≤ x ∧ x ≤ 9223372036854775807) (hs : Sl w 1 A n (l.map (Value.int .i64))) :
    Calls Tryd.prog 9 #[.slice A n c] w fun e w' => e = .returned (.bool true) ∧ Below w.heap.size w w' := by
  have HR := Lib.hid hr
  have HS := Lib.hid hs
  have HL := Lib.hid hl
  clear hr hs hl
  go_enter Tryd.func9, Tryd.ntmps9
  go_wp2_with fail
  refine (alive02 w hg).mono ?_
  rintro e w1 ⟨rfl, hb1⟩
  have HB := Lib.hid hb1
  have hsz1 := hb1.size
  clear hb1
  go_wp2_with fail
  go_loopw [4, 5] (fun tv iv wr => ∃ (k : Nat) (D : Option Addr) (d : Nat), k ≤ n ∧ iv = .int .i64 (k : Int) ∧ Blk wr w1.heap.size 67 #[.bool (decide (sumZ (l.take k) < 0)), .slice D (digs (sumZ (l.take k)).natAbs).length d] ∧ Sl wr 1 D (digs (sumZ (l.take k)).natAbs).length (cD (digs (sumZ (l.take k)).natAbs)) ∧ ((digs (sumZ (l.take k)).natAbs).length ≤ d ∧ d ≤ 9223372036854775807) ∧ wr.ownsRow (w1.heap.size + 1) 2 1 tv k ((l.reverse.take k).map (Value.int .i64)) ∧ (∀ x : Addr, D = some x → x.block < wr.heap.size ∧ some x.block ≠ tv.ownBlock) ∧ Below w.heap.size w wr) (fun _ iv _ => n - (intOf iv).toNat)
  case atStart =>
    refine ⟨0, none, 0, Nat.zero_le _, rfl, ?_, ?_, ?_, World.ownsRow_nil _ _ _ _, (fun x hx => nomatch hx), bel_al HB.out _⟩
    · rw [List.take_zero]
      have := Blk.new w1 67 #[.bool false, .slice none 0 0]
      rw [show sumZ [] = 0 from rfl, show (0 : Int).natAbs = 0 from rfl, digs_zero]
      exact this
    · rw [List.take_zero, show sumZ [] = 0 from rfl, show (0 : Int).natAbs = 0 from rfl, digs_zero]; exact Sl.nil _ _ _
    · rw [List.take_zero, show sumZ [] = 0 from rfl, show (0 : Int).natAbs = 0 from rfl, digs_zero]; exact ⟨Nat.zero_le _, by omega⟩
  case round =>
    obtain ⟨k, D, d, hk, rfl, hbk, hsl, hq, hown, hsep, hb⟩ := hrel
    have JG := Lib.hid hbk
    have HSl := Lib.hid hsl
    have HQ := Lib.hid hq
    have HO := Lib.hid hown
    have HSep := Lib.hid hsep
    have HBr := Lib.hid hb
    clear hbk hsl hq hown hsep hb
    by_cases hlt : k < n
    · have hkl : k < l.length := by rw [HL.out]; exact hlt
      obtain ⟨bb, off, rfl, hc⟩ := (HS.out.keep HBr.out).i64 HL.out hlt
      have hx := HR.out l[k] (List.getElem_mem hkl)
      have HT := Lib.hid (sumZ_take_succ hkl)
      have HF1 := Lib.hid (sumZ_few (l := l.take k) (fun x hx => HR.out x (List.mem_of_mem_take hx)) (by rw [List.length_take, HL.out]; omega))
      have HRev := Lib.hid (rev_take hkl)
      have hkl2 : l.length - 1 - k < l.length := by omega
      have HC2 := Lib.hid (fun W (h : Below w.heap.size w W) => (HS.out.keep h).again (k := n - 1 - k) (by omega) (by rw [show n - 1 - k = l.length - 1 - k by rw [HL.out]]; exact i64_cell hkl2))
      generalize l[l.length - 1 - k] = y at *
      generalize l[k] = x at *
      obtain ⟨S, hS⟩ : ∃ S, S = sumZ (l.take k) := ⟨_, rfl⟩
      rw [← hS] at JG HSl HQ HT HF1
      have hnum : NumAt wr (.agg #[.bool (decide (S < 0)), .slice D (digs S.natAbs).length d]) S := ⟨D, d, rfl, HSl.out, HQ.out⟩
      have HNum := Lib.hid hnum
      clear hnum
      obtain ⟨nS, hnS⟩ : ∃ nS, nS = (digs S.natAbs).length := ⟨_, rfl⟩
      obtain ⟨bS, hbS⟩ : ∃ bS, bS = decide (S < 0) := ⟨_, rfl⟩
      rw [← hnS, ← hbS] at JG HNum
      clear hS hnS hbS HSl HQ
      have g0 := JG.out.cell 0
      have g1 := JG.out.cell 1
      simp at g0 g1
      have hgl := JG.out.lt
      have hlt' : (k : Int) < (n : Int) := by omega
      have hk0 : (0 : Int) ≤ (k : Int) := by omega
      go_upto_region 10 with (fail)
      go_cut [] from 20 to 43 (fun wx => ∃ (D' : Option Addr) (d' : Nat), Blk wx w1.heap.size 67 #[.bool (decide (S + x < 0)), .slice D' (digs (S + x).natAbs).length d'] ∧ Sl wx 1 D' (digs (S + x).natAbs).length (cD (digs (S + x).natAbs)) ∧ ((digs (S + x).natAbs).length ≤ d' ∧ d' ≤ 9223372036854775807) ∧ wx.ownsRow (w1.heap.size + 1) 2 1 u4 k ((l.reverse.take k).map (Value.int .i64)) ∧ (∀ x : Addr, D' = some x → x.block < wx.heap.size ∧ some x.block ≠ u4.ownBlock) ∧ Below w.heap.size w wx)
      case first =>
        go_region_with (first
          | (go_at_call 47; refine (Of_any x _ hx).mono ?_; rintro e w2 ⟨v2, rfl, hv2, hb2⟩; have HV2 := Lib.hid hv2; have hb3 := (bel_drewN (Below.refl wr.heap.size wr) 1).andThen hb2; have hk2 := JG.out.keep hb3; have c0' := hk2.cell 0; have c1' := hk2.cell 1; simp at c0' c1'; have HB2 := Lib.hid hb3; clear hv2 hk2 hb2 hb3)
          | (go_at_call 46; refine (RefAdd_new _ v2 S x w2 (HNum.out.keep HB2.out) HV2.out HF1.out (few_i64 hx)).mono ?_; rintro e w3 ⟨v3, rfl, hv3, hnew, hb4⟩; have hb5 := HB2.out.andThen hb4; have hk3 := JG.out.keep hb5; have e0' := hk3.cell 0; have e1' := hk3.cell 1; have f0' := hk3.frozen 0; have f1' := hk3.frozen 1; simp at e0' e1'; obtain ⟨D3, d3, rfl, hs3, hq3⟩ := hv3; have HNew := Lib.hid hnew.at_; have HB5 := Lib.hid hb5; have HK3 := Lib.hid hk3; have HS3 := Lib.hid hs3; have HQ3 := Lib.hid hq3; clear hb4 hb5 hk3 hs3 hq3 hnew))
        all_goals (go_wp2_with fail; go_meet)
        all_goals
          have hsz2 := HB2.out.size
          have hne : ∀ x : Addr, D3 = some x → x.block ≠ w1.heap.size := fun x hx => by have := (HNew.out x hx).1; omega
          refine ⟨D3, d3, ?_, ?_, HQ3.out, ?_, ?_, ?_⟩
          · have := (HK3.out.set_ 0 (.bool (decide (S + x < 0)))).set_ 1 (.slice D3 (digs (S + x).natAbs).length d3)
            simpa using this
          · exact (HS3.out.aside hne).aside hne
          · exact ownsRow_setCell_below (ownsRow_setCell_below (own_below HO.out (fun g hg => (HO.out.lt g hg).2) HB5.out) (a := ⟨w1.heap.size, 0, none⟩) (by simp) _) (a := ⟨w1.heap.size, 1, none⟩) (by simp) _
          · intro x hx
            refine ⟨by have := (HNew.out x hx).2; simp only [World.size_setCell]; exact this, fun h => ?_⟩
            have h1 := (HO.out.lt x.block h.symm).2
            have h2 := (HNew.out x hx).1
            omega
          · exact ((HBr.out.andThen HB5.out).setCell (p := ⟨w1.heap.size, 0, none⟩) hsz1 _).setCell (p := ⟨w1.heap.size, 1, none⟩) hsz1 _
      case rest =>
      obtain ⟨D', d', hbk', hsl', hq', hown', hsep', hb'⟩ := hcut
      have JG2 := Lib.hid hbk'
      have HSl2 := Lib.hid hsl'
      have HQ2 := Lib.hid hq'
      have HO2 := Lib.hid hown'
      have HSep2 := Lib.hid hsep'
      have HBr2 := Lib.hid hb'
      have hc2 := HC2.out wc hb'
      have hgl2 := hbk'.lt
      have hi1 : (n : Int) - 1 - (k : Int) = ((n - 1 - k : Nat) : Int) := by omega
      have hi2 : ((n - 1 - k : Nat) : Int) < (n : Int) := by omega
      have hi3 : (0 : Int) ≤ ((n - 1 - k : Nat) : Int) := by omega
      clear hbk' hsl' hq' hown' hsep' hb' JG HO HSep HBr g0 g1 hc hx HC2
      go_wp2_with (at_builtin; refine wpList_cat_at elemI64 _ _ rfl rfl (HO2.out.alloc _) (by simp; omega) (Sl.newAt wc _ _ 1 rfl) rfl rfl (by simp [Value.oneCell']) (by unfold lim; omega) (by unfold lim; omega) ?_; intro v' w5 hown5 hgr; have HO5 := Lib.hid hown5; have HG5 := Lib.hid hgr.after_alloc; clear hown5 hgr)
      go_roundw
      case rel =>
        refine ⟨k + 1, D', d', by omega, rfl, ?_, ?_, ?_, ?_, ?_, ?_⟩
        · rw [HT.out]; exact HG5.out.blkOwn JG2.out HO2.out (by decide)
        · rw [HT.out]; exact HSl2.out.grown HG5.out.g HSep2.out
        · rw [HT.out]; exact HQ2.out
        · rw [HRev.out, List.map_append]; exact HO5.out
        · intro x hx
          have h1 := HSep2.out x hx
          refine ⟨Nat.lt_of_lt_of_le h1.1 HG5.out.size, fun h => ?_⟩
          rcases HG5.out.at_ x.block h.symm with h2 | h2
          · exact h1.2 h2.symm
          · omega
        · exact HBr2.out.trans (HG5.out.belowOwn HBr2.out.size (own_mono HO2.out (by omega)))
      case measure => simp [intOf]; omega
    · obtain rfl : k = n := by omega
      have hlt' : ¬ (k : Int) < (k : Int) := by omega
      have hkl : l.length ≤ k := by rw [HL.out]; exact Nat.le_refl _
      have HAll := Lib.hid (List.take_of_length_le hkl)
      rw [List.take_of_length_le hkl] at JG HSl HQ
      rw [List.take_of_length_le (by rw [List.length_reverse]; exact hkl)] at HO
      obtain ⟨C, kk, rfl, hslr⟩ := Sl.own HO.out
      have HSr := Lib.hid hslr
      have HT1 := Lib.hid (fun W (h : Below w.heap.size w W) => NumsTotal_any l A k c W HL.out (by omega) HR.out (HS.out.keep h))
      have HT2 := Lib.hid (fun W (h : Sl W 1 C k (l.reverse.map (Value.int .i64))) => NumsTotal_any l.reverse C k kk W (by rw [List.length_reverse, HL.out]) (by omega) (fun x hx => HR.out x (List.mem_reverse.1 hx)) h)
      rw [sumZ_reverse] at HT2
      have HFS := Lib.hid (sumZ_few HR.out (by rw [HL.out]; omega))
      have HLst := Lib.hid (fun W (h : Below w.heap.size w W) => NumsLeast_any l A k c W HL.out (by omega) (HS.out.keep h))
      obtain ⟨m, hm⟩ : ∃ m, m = if k = 0 then 0 else minZ l := ⟨_, rfl⟩
      obtain ⟨okb, hok⟩ : ∃ okb, okb = decide (k ≠ 0) := ⟨_, rfl⟩
      rw [← hm, ← hok] at HLst
      have hcase : (okb = true ∧ 0 < k) ∨ (okb = false ∧ k = 0 ∧ m = 0) := by
        by_cases h : k = 0
        · right; exact ⟨by rw [hok, h]; rfl, h, by rw [hm, if_pos h]⟩
        · left; exact ⟨by rw [hok]; exact decide_eq_true h, by omega⟩
      have HCase := Lib.hid hcase
      have HMin := Lib.hid (show ∀ j (h : j < l.length), m ≤ l[j] from fun j h => by
        rw [hm, if_neg (by rw [HL.out] at h; omega)]
        exact minZ_le (List.getElem_mem h))
      have HHit := Lib.hid (show decide (m ∈ l) = okb by
        rw [hok]
        by_cases h : k = 0
        · have : l = [] := List.eq_nil_of_length_eq_zero (by rw [HL.out, h])
          rw [this]; simp [h]
        · rw [hm, if_neg h, decide_eq_true h]
          exact decide_eq_true (minZ_mem (fun e => by have := HL.out; rw [e] at this; exact h this.symm) (fun x hx => (HR.out x hx).2)))
      obtain ⟨S, hS⟩ : ∃ S, S = sumZ l := ⟨_, rfl⟩
      rw [← hS] at HT1 HT2 HFS JG HSl HQ
      clear hslr HO HSep hm hok hcase hS
      obtain ⟨wo, rfl⟩ : ∃ wo, wr = wo := ⟨_, rfl⟩
      go_wp2_with fail
      refine (HT1.out _ HBr.out).mono ?_
      rintro e w2 ⟨ev1, rfl, hev1, hb1⟩
      have HE1 := Lib.hid hev1
      replace HSr := Lib.hid (HSr.out.keep hb1)
      replace JG := Lib.hid (JG.out.keep hb1)
      replace HSl := Lib.hid (HSl.out.keep hb1)
      replace HBr := Lib.hid (HBr.out.andThen hb1)
      clear hev1 hb1 HT1
      go_wp2_with fail
      refine (HT2.out w2 HSr.out).mono ?_
      rintro e w3 ⟨ev2, rfl, hev2, hb1⟩
      have HE2 := Lib.hid hev2
      replace HE1 := Lib.hid (HE1.out.keep hb1)
      replace JG := Lib.hid (JG.out.keep hb1)
      replace HSl := Lib.hid (HSl.out.keep hb1)
      replace HBr := Lib.hid (HBr.out.andThen hb1)
      clear hev2 hb1 HT2 HSr
      go_wp2_with fail
      refine (HLst.out w3 HBr.out).mono ?_
      rintro e w4 ⟨rfl, rfl⟩
      clear HLst
      go_wp2_with fail
      go_loopw [12, 13] (fun hv iv w5 => ∃ j : Nat, j ≤ k ∧ iv = .int .i64 (j : Int) ∧ hv = .bool (decide (m ∈ l.take j)) ∧ w5 = w4) (fun _ iv _ => k - (intOf iv).toNat)
      case atStart => exact ⟨0, Nat.zero_le _, rfl, by rw [List.take_zero]; rfl, rfl⟩
      case round =>
        obtain ⟨j, hj, rfl, rfl, rfl⟩ := hrel
        by_cases hjk : j < k
        · have hjl : j < l.length := by rw [HL.out]; exact hjk
          obtain ⟨bb, off, rfl, hc⟩ := (HS.out.keep HBr.out).i64 HL.out hjk
          have hmin := HMin.out j hjl
          have HMem := Lib.hid (show ∀ b : Bool, b = (decide (m ∈ l.take j) || decide (l[j] = m)) → b = decide (m ∈ l.take (j + 1)) from fun b hb => by
            rw [hb, List.take_succ_eq_append_getElem hjl, Bool.eq_iff_iff]
            simp only [Bool.or_eq_true, decide_eq_true_eq, List.mem_append, List.mem_singleton]
            exact ⟨fun h => h.imp id Eq.symm, fun h => h.imp id Eq.symm⟩)
          generalize l[j] = x at *
          have hjk' : (j : Int) < (k : Int) := by omega
          have hxm : ¬ x < m := by omega
          generalize decide (m ∈ l.take j) = hit at *
          cases hit
          · by_cases hxe : x = m
            · have hxe' : (x == m) = true := by simp [hxe]
              have HXE := Lib.hid hxe
              clear hxe
              go_wp2_with fail
              go_roundw
              case rel => exact ⟨j + 1, by omega, rfl, by congr 1; exact HMem.out true (by rw [HXE.out]; simp), trivial⟩
              case measure => simp [intOf]; omega
            · have hxe' : (x == m) = false := by simpa using hxe
              have HXE := Lib.hid hxe
              clear hxe
              go_wp2_with fail
              go_roundw
              case rel => exact ⟨j + 1, by omega, rfl, by congr 1; exact HMem.out false (by simp [HXE.out]), trivial⟩
              case measure => simp [intOf]; omega
          · go_wp2_with fail
            go_roundw
            case rel => exact ⟨j + 1, by omega, rfl, by congr 1; exact HMem.out true (by simp), trivial⟩
            case measure => simp [intOf]; omega
        · obtain rfl : j = k := by omega
          have hjk' : ¬ (j : Int) < (j : Int) := by omega
          rw [HAll.out, HHit.out]
          have j0 := JG.out.cell 0
          have j1 := JG.out.cell 1
          simp at j0 j1
          have hnum : NumAt wr (.agg #[.bool (decide (S < 0)), .slice D (digs S.natAbs).length d]) S := ⟨D, d, rfl, HSl.out, HQ.out⟩
          have HTold := Lib.hid (told_any S txtSum ev1 _ wr (hg.keep HBr.out) HE1.out hnum HFS.out)
          have es : (tn S == tn S) = true := by simp
          have et : ((te txtSum S).code == (te txtSum S).code) = true := by simp
          clear hnum
          generalize decide (S < 0) = bS at *
          generalize (digs S.natAbs).length = nS at *
          rcases HCase.out with ⟨rfl, hk0⟩ | ⟨rfl, hk0, rfl⟩
          · have hk0' : (0 : Int) < (j : Int) := by omega
            go_wp2_with fail
            refine HTold.out.mono ?_
            rintro e w5 ⟨rfl, hb5⟩
            replace HE1 := Lib.hid (HE1.out.keep hb5)
            replace HE2 := Lib.hid (HE2.out.keep hb5)
            replace HBr := Lib.hid (HBr.out.andThen hb5)
            clear hb5 HTold
            go_wp2_with fail
            refine (Code_any _ ev1 w5 HE1.out (hg.keep HBr.out)).mono ?_
            rintro e w6 ⟨rfl, hb5⟩
            replace HE2 := Lib.hid (HE2.out.keep hb5)
            replace HBr := Lib.hid (HBr.out.andThen hb5)
            clear hb5
            go_wp2_with fail
            refine (Code_any _ ev2 w6 HE2.out (hg.keep HBr.out)).mono ?_
            rintro e w7 ⟨rfl, hb5⟩
            replace HBr := Lib.hid (HBr.out.andThen hb5)
            clear hb5
            go_wp2_with fail
            go_ret
            exact ⟨rfl, HBr.out⟩
          · have hk0' : ¬ (0 : Int) < (j : Int) := by omega
            go_wp2_with fail
            refine HTold.out.mono ?_
            rintro e w5 ⟨rfl, hb5⟩
            replace HE1 := Lib.hid (HE1.out.keep hb5)
            replace HE2 := Lib.hid (HE2.out.keep hb5)
            replace HBr := Lib.hid (HBr.out.andThen hb5)
            clear hb5 HTold
            go_wp2_with fail
            refine (Code_any _ ev1 w5 HE1.out (hg.keep HBr.out)).mono ?_
            rintro e w6 ⟨rfl, hb5⟩
            replace HE2 := Lib.hid (HE2.out.keep hb5)
            replace HBr := Lib.hid (HBr.out.andThen hb5)
            clear hb5
            go_wp2_with fail
            refine (Code_any _ ev2 w6 HE2.out (hg.keep HBr.out)).mono ?_
            rintro e w7 ⟨rfl, hb5⟩
            replace HBr := Lib.hid (HBr.out.andThen hb5)
            clear hb5
            go_wp2_with fail
            go_ret
            exact ⟨rfl, HBr.out⟩

theorem NumsTotal_main (A0 : Option Addr) (n0 c0 : Nat) (l0 : List Int) (w : World) (hg : ErrT w) (m0 : n0 ≤ maxLen) (e0 : l0.length = n0) (s0 : Sl w 1 A0 n0 (l0.map (Value.int .i64))) (w0 : ∀ z ∈ l0, (Lit.int .i64 z).wf = true) :
    Calls Tryd.prog 9 #[.slice A0 n0 c0] w fun e w' => e = .returned (.bool true) ∧ Below w.heap.size w w' := by
  by_cases hn : n0 ≤ 200
  · exact NumsTotal_walk l0 A0 n0 c0 w hg hn e0 (fun x hx => wf_i64 (w0 x hx)) s0
  · have hn' : (200 : Int) < (n0 : Int) := by omega
    clear s0 w0
    go_enter Tryd.func9, Tryd.ntmps9
    go_wp2_with fail
    refine (alive02 w hg).mono ?_
    rintro e w1 ⟨rfl, hb1⟩
    have HB := Lib.hid hb1
    clear hb1
    go_wp2_with fail
    go_ret
    exact ⟨rfl, HB.out⟩
end Go.Proofs.YtclbbchljiagpaaDoor
