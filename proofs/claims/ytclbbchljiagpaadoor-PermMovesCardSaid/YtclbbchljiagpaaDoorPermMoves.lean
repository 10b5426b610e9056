/-
  PermMoves: the walk.
-/
import Derived.Test.YtclbbchljiagpaaDoorPermM
import Derived.Test.YtclbbchljiagpaaDoorPermN
import Derived.Test.YtclbbchljiagpaaDoorPermK
import Derived.Test.YtclbbchljiagpaaDoorLaw07
import Derived.BigQuiet
import Derived.Deep.DeepCutAuto
namespace Go.Proofs.YtclbbchljiagpaaDoor
open Go.RowKit
set_option maxRecDepth 100000
set_option linter.unusedVariables false

theorem CRows.at2 {B : Nat} {w : World} {Bc : Nat} : ∀ {outs : List (List Int)} {vs : List Value}, CRows B w Bc outs vs → ∀ {k : Nat} {c : List Int}, outs[k]? = some c → ∃ v, vs[k]? = some v ∧ w.ownsRow B 3 1 v c.length (c.map (Value.int .i64))
  | d :: _, _, ⟨v, vs', h1, h2, h3, h4⟩, 0, c, h => by
    obtain rfl : d = c := by simpa using h
    exact ⟨v, by rw [h1]; rfl, h2⟩
  | _ :: _, _, ⟨v, vs', h1, h2, h3, h4⟩, k + 1, c, h => by
    rw [h1]
    exact CRows.at2 h4 (by simpa using h)
  | [], _, _, k, c, h => by simp at h
theorem two_set_map (p : List Int) (x y : Nat) (a b : Int) : ((p.map (Value.int .i64)).set x (.int .i64 a)).set y (.int .i64 b) = ((p.set x a).set y b).map (Value.int .i64) := by rw [List.map_set, List.map_set]

theorem Sl.i64' {w : World} {A : Option Addr} {n i : Nat} {l : List Int} {x : Int} (h : Sl w 1 A n (l.map (Value.int .i64))) (hn : 0 < n) (hx : l[i]? = some x) : ∃ b off, A = some ⟨b, off, none⟩ ∧ w.cell? ⟨b, off + i, none⟩ = some (.int .i64 x) := by
  obtain ⟨b, off, rfl, h2⟩ := h.2 hn
  exact ⟨b, off, rfl, h2 i _ (by rw [List.getElem?_map, hx]; rfl)⟩

set_option maxHeartbeats 16000000 in
theorem PermMoves_walk (a0 a1 a2 a3 : Nat) (h0 : a0 ≤ 255) (h1 : a1 ≤ 65535) (h2 : a2 ≤ 255) (h3 : a3 ≤ 255) (w : World) (hg : ErrT w) :
    Calls Tryd.prog 14 #[.int .u8 a0, .int .u16 a1, .int .u8 a2, .int .u8 a3] w fun e w' => e = .returned (.bool true) ∧ Below w.heap.size w w' := by
  obtain ⟨k7, hk7⟩ : ∃ k7, k7 = a0 % 7 := ⟨_, rfl⟩
  have e7 : (a0 : Int) % 7 = (k7 : Int) := by omega
  obtain ⟨m, hm⟩ : ∃ m, m = 2 + k7 := ⟨_, rfl⟩
  have em : (2 : Int) + (k7 : Int) = (m : Int) := by omega
  have hm8 : m ≤ 8 := by omega
  have hm2 : 2 ≤ m := by omega
  clear hk7 hm
  go_enter Tryd.func14, Tryd.ntmps14
  go_wp2_with fail
  refine (alive07 w hg).mono ?_
  rintro e w1 ⟨rfl, hb1⟩
  have HB := Lib.hid hb1
  clear hg hb1
  go_wp2_with fail
  go_loop [10, 11] (fun f i => ∃ j : Nat, j ≤ m ∧ 1 ≤ j ∧ i = .int .i64 (j + 1) ∧ f = .int .i64 (fac j)) (fun _ i => m + 1 - (intOf i).toNat)
  case atStart => exact ⟨1, by omega, by omega, rfl, rfl⟩
  case round =>
    obtain ⟨j, hj, hj1, rfl, rfl⟩ := hrel
    by_cases hlt : j + 1 ≤ m
    · have hf := fac_le (n := j) (by omega)
      have hf2 := fac_le (n := j + 1) (by omega)
      have hmm : ((fac j : Nat) : Int) * ((j : Int) + 1) = (fac (j + 1) : Nat) := by rw [fac]; push_cast; rw [Int.mul_comm]
      have hw : IntKind.i64.wrap (((fac j : Nat) : Int) * ((j : Int) + 1)) = (fac (j + 1) : Nat) := by
        rw [hmm]
        generalize fac (j + 1) = q at *
        exact IntWalk.i64_in _ (by omega)
      clear hmm
      generalize hq : fac (j + 1) = q at hw hf2
      go_wp2
      go_round
      case rel => exact ⟨j + 1, by omega, by omega, by go_num, by rw [hq]⟩
      case measure => simp [intOf]; omega
    · obtain rfl : j = m := by omega
      have hF := fac_pos j
      have hF2 := fac_le hm8
      obtain ⟨r, hr⟩ : ∃ r, r = a1 % fac j := ⟨_, rfl⟩
      have hrF : r < fac j := by rw [hr]; exact Nat.mod_lt _ hF
      have hmr : (a1 : Int) % ((fac j : Nat) : Int) = (r : Int) := by rw [hr]; rfl
      have HOf := Lib.hid (fun W => Of_ok j r W hm8 hrF)
      have HRk := Lib.hid (fun (A : Option Addr) c W => Rank_ok j r A c W hm8 hrF)
      have hO := ofR_ord (n := j) (r := r) hm8 hrF
      have hL := ofR_len (n := j) (r := r) hrF
      generalize ofR j r (ids j) = p at *
      have HO := Lib.hid hO
      have HLp := Lib.hid hL
      have hr9 : r < 40320 := by omega
      clear hO hL hr hrF
      generalize fac j = F at *
      go_wp2_with fail
      refine (HOf.out _).mono ?_
      rintro e w2 ⟨C, c, rfl, hsp, hb2⟩
      have HSp := Lib.hid hsp
      replace HB := Lib.hid (HB.out.andThen hb2)
      clear hsp hb2 HOf
      go_wp2_with fail
      refine (Circles_ok p C j c w2 HO.out HLp.out HSp.out).mono ?_
      rintro e w3 ⟨D, k2, outs, vs, rfl, hci, hsv, hcr, hb3⟩
      have hfew := hci.few
      have HShort := Lib.hid (fun c (hc : c ∈ outs) => hci.short (by rw [HLp.out]; exact hm8) hc)
      have HHome := Lib.hid (show pw p (prL outs) = ids j by
        have h := pw_home (T := prL outs) HO.out (by rw [HLp.out]; exact hci) (fun c hc => prL_dvd hc)
        rw [HLp.out] at h
        exact h)
      rw [HLp.out] at hfew
      have HSv := Lib.hid hsv
      have HCr := Lib.hid hcr
      replace HSp := Lib.hid (HSp.out.keep hb3)
      replace HB := Lib.hid (HB.out.andThen hb3)
      clear hci hsv hcr hb3
      obtain ⟨o, ho⟩ : ∃ o, o = outs.length := ⟨_, rfl⟩
      have HOl := Lib.hid ho
      rw [← ho] at hfew HSv ⊢
      have HT9 := Lib.hid (show ∀ k, prL (outs.take k) ≤ 16777216 from fun k => by
        have h1 := prL_le (o := outs.take k) (fun c hc => HShort.out c (List.mem_of_mem_take hc))
        have h2 : (8 : Nat) ^ (outs.take k).length ≤ 8 ^ 8 := Nat.pow_le_pow_right (by omega) (by rw [List.length_take]; omega)
        have h3 : (8 : Nat) ^ 8 = 16777216 := by decide
        omega)
      clear ho
      go_wp2_with fail
      go_loopw [16, 17] (fun tv iv wr => ∃ k : Nat, k ≤ o ∧ iv = .int .i64 (k : Int) ∧ tv = .int .i64 (prL (outs.take k) : Nat) ∧ wr = w3) (fun _ iv _ => o - (intOf iv).toNat)
      case atStart => exact ⟨0, Nat.zero_le _, rfl, rfl, rfl⟩
      case round =>
        obtain ⟨k, hk, rfl, rfl, rfl⟩ := hrel
        by_cases hko : k < o
        · have hkl : k < outs.length := by rw [← HOl.out]; exact hko
          obtain ⟨bb, off, u, rfl, hu, hc⟩ := HSv.out.one (k := k) hko
          obtain ⟨v, hv, hvo⟩ := HCr.out.at2 (List.getElem?_eq_getElem hkl)
          rw [hv] at hu
          obtain rfl := Option.some.inj hu
          obtain ⟨E, ce, rfl, _⟩ := Sl.own hvo
          have HPr := Lib.hid (prL_take_succ hkl)
          have h9 := HT9.out k
          have h9' := HT9.out (k + 1)
          have hc8 := HShort.out _ (List.getElem_mem hkl)
          rw [HPr.out] at h9'
          generalize outs[k].length = lc at *
          generalize hpk : prL (outs.take k) = pk at *
          obtain ⟨pn, hpn⟩ : ∃ pn, pn = pk * lc := ⟨_, rfl⟩
          rw [← hpn] at h9'
          have hmul : (pk : Int) * (lc : Int) = (pn : Int) := by rw [hpn, Int.natCast_mul]
          have HPn := Lib.hid hpn
          have HPk := Lib.hid hpk
          have hko' : (k : Int) < (o : Int) := by omega
          have hk0 : (0 : Int) ≤ (k : Int) := by omega
          clear hu hv hvo hpn hpk
          go_wp2_with fail
          go_roundw
          case rel => exact ⟨k + 1, by omega, rfl, by rw [HPr.out, HPn.out], trivial⟩
          case measure => simp [intOf]; omega
        · obtain rfl : k = o := by omega
          have hko' : ¬ (k : Int) < (k : Int) := by omega
          rw [List.take_of_length_le (by rw [← HOl.out]; exact Nat.le_refl _)]
          have hT9 := HT9.out k
          rw [List.take_of_length_le (by rw [← HOl.out]; exact Nat.le_refl _)] at hT9
          obtain ⟨T, hT⟩ : ∃ T, T = prL outs := ⟨_, rfl⟩
          rw [← hT] at hT9 HHome ⊢
          clear hT
          obtain ⟨wo, rfl⟩ : ∃ wo, wr = wo := ⟨_, rfl⟩
          go_wp2_with fail
          refine (Id_any j _ hm8).mono ?_
          rintro e w4 ⟨v, rfl, hown, hb4⟩
          obtain ⟨Q, cq, rfl, hsq⟩ := Sl.own hown
          have HSq := Lib.hid hsq
          replace HSp := Lib.hid (HSp.out.keep hb4)
          replace HB := Lib.hid (HB.out.andThen hb4)
          clear hown hsq hb4 HSv HCr
          go_wp2_with fail
          go_loopw [18, 19] (fun qv iv wr => ∃ (t : Nat) (Q : Option Addr) (cq : Nat), t ≤ T ∧ iv = .int .i64 (t : Int) ∧ qv = .slice Q j cq ∧ Sl wr 1 Q j ((pw p t).map (Value.int .i64)) ∧ Sl wr 1 C j (p.map (Value.int .i64)) ∧ Below w.heap.size w wr) (fun _ iv _ => T - (intOf iv).toNat)
          case atStart => exact ⟨0, Q, cq, Nat.zero_le _, rfl, rfl, by rw [pw, HLp.out]; exact HSq.out, HSp.out, HB.out⟩
          case round =>
            obtain ⟨t, Q', cq', ht, rfl, rfl, hsq, hsp, hb⟩ := hrel
            have HSq' := Lib.hid hsq
            have HSp' := Lib.hid hsp
            have HB' := Lib.hid hb
            clear hsq hsp hb HSq HSp HB
            by_cases htT : t < T
            · have htT' : (t : Int) < (T : Int) := by omega
              have hpo := pw_ord HO.out t
              rw [HLp.out] at hpo
              have HTh := Lib.hid (Then_ok (pw p t) p Q' C j cq' c wr hpo.1 HO.out hpo.2 HLp.out HSq'.out HSp'.out)
              clear hpo
              go_wp2_with fail
              refine HTh.out.mono ?_
              rintro e w5 ⟨Q2, cq2, rfl, hsq2, hb5⟩
              have HSq2 := Lib.hid hsq2
              have HSp2 := Lib.hid (HSp'.out.keep hb5)
              have HB2 := Lib.hid (HB'.out.andThen hb5)
              clear hsq2 hb5 HTh HSq' HSp' HB'
              go_wp2_with fail
              go_roundw
              case rel => exact ⟨t + 1, Q2, cq2, by omega, rfl, rfl, HSq2.out, HSp2.out, HB2.out⟩
              case measure => simp [intOf]; omega
            · obtain rfl : t = T := by omega
              have htT' : ¬ (t : Int) < (t : Int) := by omega
              rw [HHome.out] at HSq'
              go_wp2_with fail
              refine (Id_any j _ hm8).mono ?_
              rintro e w5 ⟨v, rfl, hown, hb5⟩
              obtain ⟨I, ci, rfl, hsi⟩ := Sl.own hown
              have HSame := Lib.hid (SameInts_same (ids j) Q' I j cq' ci w5 (ids_len j) (HSq'.out.keep hb5) hsi (by omega))
              have HSp2 := Lib.hid (HSp'.out.keep hb5)
              have HB2 := Lib.hid (HB'.out.andThen hb5)
              clear hown hsi hb5 HSq' HSp' HB'
              go_wp2_with fail
              refine HSame.out.mono ?_
              rintro e w6 ⟨rfl, hb6⟩
              have HSp6 := Lib.hid (HSp2.out.keep hb6)
              have HB6 := Lib.hid (HB2.out.andThen hb6)
              clear hb6 HSame HSp2 HB2
              obtain ⟨x, hx⟩ : ∃ x, x = a2 % j := ⟨_, rfl⟩
              obtain ⟨y, hy⟩ : ∃ y, y = a3 % j := ⟨_, rfl⟩
              have hxj : x < j := by rw [hx]; exact Nat.mod_lt _ (by omega)
              have hyj : y < j := by rw [hy]; exact Nat.mod_lt _ (by omega)
              have ex : (a2 : Int) % (j : Int) = (x : Int) := by rw [hx]; rfl
              have ey : (a3 : Int) % (j : Int) = (y : Int) := by rw [hy]; rfl
              have hj0 : ((j : Int) == 0) = false := by simp; omega
              clear hx hy
              go_wp2_with fail
              go_quiet (fail)
              rw [ex, ey]
              obtain ⟨w7, hw7⟩ : ∃ w7, w7 = w6.drewN nq := ⟨_, rfl⟩
              rw [← hw7]
              have hbd := drew_bel ⟨nq, hw7⟩
              have HSp7 := Lib.hid (HSp6.out.keep hbd)
              have HB7 := Lib.hid (HB6.out.andThen hbd)
              clear hw7 hbd HSp6 HB6
              have hb0 := bel_al (Below.refl w7.heap.size w7) (.cells #[] 3)
              have hown0 : (w7.alloc (.cells #[] 3)).ownsRow w7.heap.size 3 1 (.slice (some ⟨w7.heap.size, 0, none⟩) 0 0) 0 [] := by
                have := World.ownsRow_made (base := w7.heap.size) (size := 1) (e := 3) w7 #[] 0 (Nat.le_refl _) (by unfold maxLen; omega) rfl
                simpa using this
              have HY1 := Lib.hid (HSp7.out.keep hb0)
              have HO1 := Lib.hid (one_i64 p)
              have HTw := Lib.hid (two_even HO.out (x := x) (y := y) (by rw [HLp.out]; exact hxj) (by rw [HLp.out]; exact hyj))
              have hxp : x < p.length := by rw [HLp.out]; exact hxj
              have hyp : y < p.length := by rw [HLp.out]; exact hyj
              have hxj' : (x : Int) < (j : Int) := by omega
              have hyj' : (y : Int) < (j : Int) := by omega
              have hx0 : (0 : Int) ≤ (x : Int) := by omega
              have hy0 : (0 : Int) ≤ (y : Int) := by omega
              obtain ⟨px, hpx⟩ : ∃ px, px = p.getD x 0 := ⟨_, rfl⟩
              obtain ⟨py, hpy⟩ : ∃ py, py = p.getD y 0 := ⟨_, rfl⟩
              rw [← hpx, ← hpy] at HTw
              have hpx2 : p[x]? = some px := by rw [hpx, List.getD_eq_getElem?_getD, List.getElem?_eq_getElem hxp]; rfl
              have hpy2 : p[y]? = some py := by rw [hpy, List.getD_eq_getElem?_getD, List.getElem?_eq_getElem hyp]; rfl
              have HPX := Lib.hid hpx2
              have HPY := Lib.hid hpy2
              clear hpx hpy hpx2 hpy2 hxp hyp
              have hgo : ∀ (Z : Prop), Z → Z := fun _ h => h
              go_upto_region 28 with (first | (at_builtin; refine wpList_cat elemInt (w0 := w7) _ _ rfl rfl hown0 hb0 (Nat.le_refl _) HY1.out rfl rfl HO1.out (by unfold lim; omega) (by unfold lim; omega) ?_; intro v1 w8 hown1 hb1 _))
              rw [Nat.zero_add, List.nil_append] at hown1
              obtain ⟨g, cap, rfl, hg7⟩ := own_form hown1 (by omega)
              have HOw := Lib.hid hown1
              have HB8 := Lib.hid hb1
              obtain ⟨pb, poff, rfl, hcy⟩ := (HSp7.out.keep hb1).i64' (by omega : 0 < j) HPY.out
              have hsx := hown1.cellAt x (by omega)
              rw [List.getElem?_map, HPX.out] at hsx
              have hfx := hown1.frozenAt x
              have HSt1 := Lib.hid (hown1.stored x (.int .i64 py))
              clear hown0 hb0 HY1 hown1 hb1 hgo
              go_upto_region 29 with (fail)
              obtain ⟨w9, hw9⟩ : ∃ w9, w9 = w8.setCell ⟨g, x, none⟩ (.int .i64 py) := ⟨_, rfl⟩
              rw [← hw9]
              have hown2 := HSt1.out.1
              rw [← hw9] at hown2
              have hb9 : Below w7.heap.size w7 w9 := by rw [hw9]; exact HB8.out.setCell (p := ⟨g, x, none⟩) (by show w7.heap.size ≤ g; omega) (.int .i64 py)
              have hcx := (HSp7.out.keep hb9).again (k := x) hxj (by rw [List.getElem?_map, HPX.out]; rfl)
              obtain ⟨u, hu⟩ : ∃ u, w9.cell? ⟨g, y, none⟩ = some u := ⟨_, (hown2.cellAt y (by omega)).trans (List.getElem?_eq_getElem (by rw [List.length_set, List.length_map, HLp.out]; exact hyj))⟩
              have hfy := hown2.frozenAt y
              have HSt2 := Lib.hid (hown2.stored y (.int .i64 px))
              have HB9 := Lib.hid hb9
              clear hw9 hown2 hb9 hcy hsx hfx HSt1 HB8 HOw
              go_upto_region 30 with (fail)
              obtain ⟨w10, hw10⟩ : ∃ w10, w10 = w9.setCell ⟨g, y, none⟩ (.int .i64 px) := ⟨_, rfl⟩
              rw [← hw10]
              have hown3 := HSt2.out.1
              rw [← hw10, two_set_map] at hown3
              have hb10 : Below w7.heap.size w7 w10 := by rw [hw10]; exact HB9.out.setCell (p := ⟨g, y, none⟩) (by show w7.heap.size ≤ g; omega) (.int .i64 px)
              have HSp10 := Lib.hid (HSp7.out.keep hb10)
              have HB10 := Lib.hid (HB7.out.andThen hb10)
              have HSs := Lib.hid (Sl.of_own hown3)
              clear hw10 hown3 hb10 hcx hu hfy HSt2 HB9 HSp7 HB7
              have HLs := Lib.hid (show ((p.set x py).set y px).length = j by rw [List.length_set, List.length_set, HLp.out])
              have HEp := Lib.hid (fun W (h : Below w10.heap.size w10 W) => Even_ok p _ j c W HO.out HLp.out (HSp10.out.keep h))
              have HEs := Lib.hid (fun W (h : Below w10.heap.size w10 W) => Even_ok ((p.set x py).set y px) _ j cap W HTw.out.1 HLs.out (HSs.out.keep h))
              have HRp := Lib.hid (fun W (h : Below w10.heap.size w10 W) => HRk.out _ c W (HSp10.out.keep h))
              have htw := HTw.out.2
              obtain ⟨b1, hb1⟩ : ∃ b1, b1 = decide (inv p % 2 = 0) := ⟨_, rfl⟩
              obtain ⟨b2, hb2⟩ : ∃ b2, b2 = decide (inv ((p.set x py).set y px) % 2 = 0) := ⟨_, rfl⟩
              rw [← hb1] at HEp htw
              rw [← hb2] at HEs htw
              obtain ⟨b3, hb3⟩ : ∃ b3, b3 = decide (x = y) := ⟨_, rfl⟩
              rw [← hb3] at htw
              have hxy : ((x : Int) == (y : Int)) = b3 := by rw [hb3, Bool.eq_iff_iff, beq_iff_eq, decide_eq_true_eq]; omega
              have hbb : (b3 == b3) = true := by simp
              have hrr : ((r : Int) == (r : Int)) = true := by simp
              clear hb1 hb2 hb3
              go_wp2_with fail
              refine (HEp.out w10 (Below.refl _ _)).mono ?_
              rintro e w11 ⟨rfl, hb⟩
              have HB11 := Lib.hid hb
              clear hb HEp
              go_wp2_with fail
              refine (HEs.out w11 HB11.out).mono ?_
              rintro e w12 ⟨rfl, hb⟩
              have HB12 := Lib.hid (HB11.out.andThen hb)
              clear hb HEs HB11
              go_wp2_with fail
              refine (HRp.out w12 HB12.out).mono ?_
              rintro e w13 ⟨rfl, hb⟩
              have HB13 := Lib.hid (HB12.out.andThen hb)
              clear hb HRp HB12
              go_wp2_with fail
              go_ret
              exact ⟨rfl, HB10.out.andThen HB13.out⟩

theorem PermMoves_main (a0 a1 a2 a3 : Int) (w : World) (hg : ErrT w) (h0 : (Lit.int .u8 a0).wf = true) (h1 : (Lit.int .u16 a1).wf = true) (h2 : (Lit.int .u8 a2).wf = true) (h3 : (Lit.int .u8 a3).wf = true) :
    Calls Tryd.prog 14 #[.int .u8 a0, .int .u16 a1, .int .u8 a2, .int .u8 a3] w fun e w' => e = .returned (.bool true) ∧ Below w.heap.size w w' := by
  have b0 := wf_u8 h0
  have b1 := wf_u16 h1
  have b2 := wf_u8 h2
  have b3 := wf_u8 h3
  obtain ⟨a0, rfl⟩ := Int.eq_ofNat_of_zero_le b0.1
  obtain ⟨a1, rfl⟩ := Int.eq_ofNat_of_zero_le b1.1
  obtain ⟨a2, rfl⟩ := Int.eq_ofNat_of_zero_le b2.1
  obtain ⟨a3, rfl⟩ := Int.eq_ofNat_of_zero_le b3.1
  exact PermMoves_walk a0 a1 a2 a3 (by omega) (by omega) (by omega) (by omega) w hg
end Go.Proofs.YtclbbchljiagpaaDoor
