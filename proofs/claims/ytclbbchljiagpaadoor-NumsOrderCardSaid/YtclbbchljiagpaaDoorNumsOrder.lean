/-
  NumsOrder: the walk.
-/
import Derived.Test.YtclbbchljiagpaaDoorNumU
import Derived.Test.YtclbbchljiagpaaDoorWords2
import Derived.Deep.DeepCutAuto
namespace Go.Proofs.YtclbbchljiagpaaDoor
open Go.RowKit
set_option maxRecDepth 100000
set_option linter.unusedVariables false

theorem mul_tdiv {a b : Int} (h : a ≠ 0) : (a * b).tdiv a = b := Int.mul_tdiv_cancel_left b h
theorem mul_tmod (a b : Int) : (a * b).tmod a = 0 := Int.mul_tmod_right a b

theorem Sl.drop_end {w : World} {A : Option Addr} {n k : Nat} {xs : List Value} (h : Sl w 1 A n xs) (hk : n ≤ k) (B : Option Addr) : Sl w 1 B (n - k) (xs.drop k) := by
  have h1 := h.1
  rw [show n - k = 0 by omega, List.drop_of_length_le (by omega)]
  exact Sl.nil _ _ _
theorem Sl.drop_at {w : World} {p : Addr} {n k : Nat} {xs : List Value} (h : Sl w 1 (some p) n xs) (hk : k ≤ n) : Sl w 1 (some (p.add k)) (n - k) (xs.drop k) := by
  by_cases h0 : n ≤ k
  · exact h.drop_end h0 _
  · obtain ⟨b, off, hA, _⟩ := h.2 (by omega)
    cases hA
    have hadd : (⟨b, off, none⟩ : Addr).add k = ⟨b, off + k, none⟩ := by unfold Addr.add; split <;> simp_all
    rw [hadd]
    exact Sl.drop h hk
theorem Sl.none_zero {w : World} {n : Nat} {xs : List Value} (h : Sl w 1 none n xs) : n = 0 := by
  refine Classical.byContradiction fun hn => ?_
  obtain ⟨b, off, hA, _⟩ := h.2 (by omega)
  cases hA

set_option maxHeartbeats 8000000 in
theorem NumsOrder_walk (a b : Int) (l : List Int) (A : Option Addr) (n c at_ : Nat) (w : World) (hg : ErrT w) (ha : -9223372036854775808 ≤ a ∧ a ≤ 9223372036854775807) (hb : -9223372036854775808 ≤ b ∧ b ≤ 9223372036854775807) (hat : at_ ≤ 255)
    (hn : n ≤ 100) (hl : l.length = n) (hnc : n ≤ c ∧ c ≤ 9223372036854775807) (hr : ∀ x ∈ l, -9223372036854775808 ≤ x ∧ x ≤ 9223372036854775807) (hs : Sl w 1 A n (l.map (Value.int .i64))) (ha0 : a ≠ 0) :
    Calls Tryd.prog 10 #[.int .i64 a, .int .i64 b, .slice A n c, .int .u8 (at_ : Int)] w fun e w' => e = .returned (.bool true) ∧ Below w.heap.size w w' := by
  have HR := Lib.hid hr
  have HS := Lib.hid hs
  have HL := Lib.hid hl
  clear hr hs hl
  have H1 := Lib.hid (fun W => NumsAdd_any a b W ha hb)
  have H2 := Lib.hid (fun W => NumsAdd_any b a W hb ha)
  rw [Int.add_comm b a] at H2
  have H3 := Lib.hid (fun W => NumsMul_any a b W ha hb)
  have H4 := Lib.hid (fun W => NumsMul_any b a W hb ha)
  rw [Int.mul_comm b a] at H4
  obtain ⟨z, hz⟩ : ∃ z, z = a + b := ⟨_, rfl⟩
  obtain ⟨pp, hp⟩ : ∃ pp, pp = a * b := ⟨_, rfl⟩
  rw [← hz] at H1 H2
  rw [← hp] at H3 H4
  have HZ := Lib.hid hz
  have HP := Lib.hid hp
  clear hz hp
  have e1 : (tn z == tn z) = true := by simp
  have e2 : (tn pp == tn pp) = true := by simp
  have e3 : ((te txtSum z).code == (te txtSum z).code) = true := by simp
  have e4 : ((te txtProduct pp).code == (te txtProduct pp).code) = true := by simp
  go_enter Tryd.func10, Tryd.ntmps10
  go_wp2_with fail
  refine (alive02 w hg).mono ?_
  rintro e w1 ⟨rfl, hb1⟩
  have HB := Lib.hid hb1
  clear hb1
  go_wp2_with fail
  refine (H1.out w1).mono ?_
  rintro e w2 ⟨v1, rfl, hev, hb1⟩
  have HV1 := Lib.hid hev
  replace HB := Lib.hid (HB.out.andThen hb1)
  clear hb1 H1 hev
  go_wp2_with fail
  refine (H2.out w2).mono ?_
  rintro e w3 ⟨v2, rfl, hev, hb1⟩
  have HV2 := Lib.hid hev
  replace HV1 := Lib.hid (HV1.out.keep hb1)
  replace HB := Lib.hid (HB.out.andThen hb1)
  clear hb1 H2 hev
  go_wp2_with fail
  refine (H3.out w3).mono ?_
  rintro e w4 ⟨v3, rfl, hev, hb1⟩
  have HV3 := Lib.hid hev
  replace HV1 := Lib.hid (HV1.out.keep hb1)
  replace HV2 := Lib.hid (HV2.out.keep hb1)
  replace HB := Lib.hid (HB.out.andThen hb1)
  clear hb1 H3 hev
  go_wp2_with fail
  refine (H4.out w4).mono ?_
  rintro e w5 ⟨v4, rfl, hev, hb1⟩
  have HV4 := Lib.hid hev
  replace HV1 := Lib.hid (HV1.out.keep hb1)
  replace HV2 := Lib.hid (HV2.out.keep hb1)
  replace HV3 := Lib.hid (HV3.out.keep hb1)
  replace HB := Lib.hid (HB.out.andThen hb1)
  clear hb1 H4 hev
  have HG := Lib.hid (hg.keep HB.out)
  go_wp2_with fail
  refine (Code_any _ v1 w5 HV1.out HG.out).mono ?_
  rintro e w6 ⟨rfl, hb1⟩
  replace HV1 := Lib.hid (HV1.out.keep hb1)
  replace HV2 := Lib.hid (HV2.out.keep hb1)
  replace HV3 := Lib.hid (HV3.out.keep hb1)
  replace HV4 := Lib.hid (HV4.out.keep hb1)
  replace HG := Lib.hid (HG.out.keep hb1)
  replace HB := Lib.hid (HB.out.andThen hb1)
  clear hb1
  go_wp2_with fail
  refine (Code_any _ v2 w6 HV2.out HG.out).mono ?_
  rintro e w7 ⟨rfl, hb1⟩
  replace HV1 := Lib.hid (HV1.out.keep hb1)
  replace HV3 := Lib.hid (HV3.out.keep hb1)
  replace HV4 := Lib.hid (HV4.out.keep hb1)
  replace HG := Lib.hid (HG.out.keep hb1)
  replace HB := Lib.hid (HB.out.andThen hb1)
  clear hb1 HV2
  go_wp2_with fail
  refine (Code_any _ v3 w7 HV3.out HG.out).mono ?_
  rintro e w8 ⟨rfl, hb1⟩
  replace HV1 := Lib.hid (HV1.out.keep hb1)
  replace HV3 := Lib.hid (HV3.out.keep hb1)
  replace HV4 := Lib.hid (HV4.out.keep hb1)
  replace HG := Lib.hid (HG.out.keep hb1)
  replace HB := Lib.hid (HB.out.andThen hb1)
  clear hb1
  go_wp2_with fail
  refine (Code_any _ v4 w8 HV4.out HG.out).mono ?_
  rintro e w9 ⟨rfl, hb1⟩
  replace HV1 := Lib.hid (HV1.out.keep hb1)
  replace HV3 := Lib.hid (HV3.out.keep hb1)
  replace HG := Lib.hid (HG.out.keep hb1)
  replace HB := Lib.hid (HB.out.andThen hb1)
  clear hb1 HV4
  go_upto_region 11 with (fail)
  go_cut [84] from 79 to 84 (fun s wx => s = .bool (fitB z && decide (-9223372036854775808 < b)) ∧ wx = w9)
  case first =>
    by_cases hf : fitB z = true
    · rw [te_fit hf] at HV1
      obtain rfl : v1 = .nilIface := HV1.out
      have hfh := Lib.hid hf
      clear hf HV1
      go_wp2_with fail
      all_goals go_meet
      all_goals exact ⟨by rw [hfh.out]; rfl, rfl⟩
    · have hf' : fitB z = false := by simpa using hf
      rw [te_not hf'] at HV1
      obtain ⟨g, rfl, _⟩ := HV1.out
      have hfh := Lib.hid hf'
      clear hf hf'
      go_wp2_with fail
      all_goals go_meet
      all_goals exact ⟨by rw [hfh.out]; rfl, rfl⟩
  case rest =>
  obtain ⟨rfl, rfl⟩ := hcut
  go_upto_if 84 with (fail)
  go_cut [17, 18] from 84 to 98 (fun _ _ wx => Below wc.heap.size wc wx)
  case first =>
    by_cases hf : fitB z = true ∧ -9223372036854775808 < b
    · obtain ⟨hf, hbm⟩ := hf
      rw [hf, decide_eq_true hbm]
      have hf2 := tn_in z
      have HZZ := Lib.hid (show tn z + -b = a by rw [tn_fit hf, HZ.out]; omega)
      have hwb : IntKind.i64.wrap (-b) = -b := by rw [IntKind.wrap_i64]; omega
      have HA := Lib.hid (NumsAdd_any (tn z) (-b) wc hf2 (by omega))
      rw [HZZ.out, tn_fit (fitB_true ha), te_fit (fitB_true ha)] at HA
      have ea : (a == a) = true := by simp
      clear hf
      go_wp2_with fail
      refine HA.out.mono ?_
      rintro e w10 ⟨ev, rfl, hev, hb1⟩
      obtain rfl : ev = .nilIface := hev
      go_wp2_with fail
      go_meet
      exact hb1
    · have hff : (fitB z && decide (-9223372036854775808 < b)) = false := by
        rw [Bool.eq_false_iff]; intro h; simp at h; exact hf h
      rw [hff]
      clear hf hff
      go_wp2_with fail
      go_meet
      exact Below.refl _ _
  case rest =>
  have HC := Lib.hid hcut
  replace HV3 := Lib.hid (HV3.out.keep hcut)
  replace HB := Lib.hid (HB.out.andThen hcut)
  replace HG := Lib.hid (HG.out.keep hcut)
  clear hcut HC HV1
  go_upto_region 15 with (fail)
  go_cut [117] from 99 to 117 (fun s wx => s = .bool false ∧ wx = wc)
  case first =>
    by_cases hf : fitB pp = true
    · rw [te_fit hf] at HV3
      obtain rfl : v3 = .nilIface := HV3.out
      have HT := Lib.hid (tn_fit hf)
      clear hf HV3
      have ha0' : (a == 0) = false := by simpa using ha0
      have d1 : (tn pp).tdiv a = b := by rw [HT.out, HP.out]; exact mul_tdiv ha0
      have d2 : (tn pp).tmod a = 0 := by rw [HT.out, HP.out]; exact mul_tmod a b
      have hwb : IntKind.i64.wrap b = b := by rw [IntKind.wrap_i64]; omega
      have ebb : (b == b) = true := by simp
      generalize tn pp = tp at *
      go_wp2_with fail
      all_goals go_meet
      all_goals exact ⟨rfl, rfl⟩
    · have hf' : fitB pp = false := by simpa using hf
      rw [te_not hf'] at HV3
      obtain ⟨g, rfl, _⟩ := HV3.out
      clear hf hf'
      go_wp2_with fail
      all_goals go_meet
      all_goals exact ⟨rfl, rfl⟩
  case rest =>
  obtain ⟨rfl, rfl⟩ := hcut
  clear HV3
  obtain ⟨K, hK⟩ : ∃ K : Nat, K = at_ % (n + 1) := ⟨_, rfl⟩
  have hKn : K < n + 1 := by rw [hK]; exact Nat.mod_lt _ (by omega)
  have eK : (at_ : Int) % ((n : Int) + 1) = (K : Int) := by rw [hK]; rfl
  have HS1 := Lib.hid (sumZ_split l K)
  obtain ⟨S1, hS1⟩ : ∃ S1, S1 = sumZ (l.take K) := ⟨_, rfl⟩
  obtain ⟨S2, hS2⟩ : ∃ S2, S2 = sumZ (l.drop K) := ⟨_, rfl⟩
  have HT1 := Lib.hid (fun W (B : Option Addr) (c' : Nat) (h : Sl W 1 B K ((l.take K).map (Value.int .i64))) => NumsTotal_any (l.take K) B K c' W (by rw [List.length_take, HL.out]; omega) (by omega) (fun x hx => HR.out x (List.mem_of_mem_take hx)) h)
  have HT2 := Lib.hid (fun W (B : Option Addr) (c' : Nat) (h : Sl W 1 B (n - K) ((l.drop K).map (Value.int .i64))) => NumsTotal_any (l.drop K) B (n - K) c' W (by rw [List.length_drop, HL.out]) (by omega) (fun x hx => HR.out x (List.mem_of_mem_drop hx)) h)
  rw [← hS1] at HT1 HS1
  rw [← hS2] at HT2 HS1
  clear hS1 hS2 hK
  have HSr := Lib.hid (HS.out.keep HB.out)
  go_upto_region 18 with (fail)
  rw [eK]
  go_cut [20, 21] from 124 to 130 (fun xv uv wx => xv = .int .i64 (tn S1) ∧ (te txtSum S1).At wx uv ∧ Below wc.heap.size wc wx)
  case first =>
    have HSt := Lib.hid (HSr.out.take (k := K) (by omega))
    rw [← List.map_take] at HSt
    have hKc : (K : Int) ≤ (c : Int) := by omega
    have hK0 : (0 : Int) ≤ (K : Int) := by omega
    go_wp2_with fail
    refine (HT1.out wc _ _ HSt.out).mono ?_
    rintro e w10 ⟨ev, rfl, hev, hb1⟩
    have HE := Lib.hid hev
    clear hev
    go_wp2_with fail
    go_meet
    exact ⟨rfl, HE.out, hb1⟩
  case rest =>
  obtain ⟨rfl, hev, hb⟩ := hcut
  have HE1 := Lib.hid hev
  replace HB := Lib.hid (HB.out.andThen hb)
  replace HG := Lib.hid (HG.out.keep hb)
  replace HSr := Lib.hid (HSr.out.keep hb)
  rename_i wa
  clear hev hb HT1
  go_upto_region 19 with (fail)
  go_cut [22, 23] from 131 to 137 (fun xv uv wx => xv = .int .i64 (tn S2) ∧ (te txtSum S2).At wx uv ∧ Below wc.heap.size wc wx)
  case first =>
    have hKc : (K : Int) ≤ (n : Int) := by omega
    have hK0 : (0 : Int) ≤ (K : Int) := by omega
    have hsub : (n : Int) - (K : Int) = ((n - K : Nat) : Int) := by omega
    have hsub2 : (c : Int) - (K : Int) = ((c - K : Nat) : Int) := by omega
    have HSd := Lib.hid (fun B => HSr.out.drop_end (k := K) (B := B))
    rw [← List.map_drop] at HSd
    rcases A with _ | p
    · have HZ0 := Lib.hid (HSr.out.none_zero)
      go_wp2_with fail
      all_goals
        refine (HT2.out wc _ _ (HSd.out _ (by have := HZ0.out; omega))).mono ?_
        rintro e w10 ⟨ev, rfl, hev, hb1⟩
        have HE := Lib.hid hev
        clear hev
        go_wp2_with fail
        go_meet
        exact ⟨rfl, HE.out, hb1⟩
    · have HSe := Lib.hid (HSr.out.drop_at (k := K) (by omega))
      rw [← List.map_drop] at HSe
      by_cases hKcc : K = c
      · subst hKcc
        obtain rfl : n = K := by omega
        clear hsub hsub2
        have HSz := Lib.hid (fun B => HSd.out B (Nat.le_refl _))
        rw [Nat.sub_self] at HT2 HSz
        go_wp2_with fail
        all_goals
          refine (HT2.out wc _ _ (HSz.out _)).mono ?_
          rintro e w10 ⟨ev, rfl, hev, hb1⟩
          have HE := Lib.hid hev
          clear hev
          go_wp2_with fail
          go_meet
          exact ⟨rfl, HE.out, hb1⟩
      · have hKcc' : ¬ (K : Int) = (c : Int) := by omega
        have hKcc2 : ¬ (c : Int) = (K : Int) := by omega
        go_wp2_with fail
        all_goals
          refine (HT2.out wc _ _ (by first | exact HSe.out | exact HSd.out _ (by omega))).mono ?_
          rintro e w10 ⟨ev, rfl, hev, hb1⟩
          have HE := Lib.hid hev
          clear hev
          go_wp2_with fail
          go_meet
          exact ⟨rfl, HE.out, hb1⟩
  case rest =>
  obtain ⟨rfl, hev, hb⟩ := hcut
  replace HE1 := Lib.hid (HE1.out.keep hb)
  have HE2 := Lib.hid hev
  replace HB := Lib.hid (HB.out.andThen hb)
  replace HG := Lib.hid (HG.out.keep hb)
  replace HSr := Lib.hid (HSr.out.keep hb)
  clear hev hb HT2
  rename_i wb
  by_cases f1 : fitB S1 = true
  · rw [te_fit f1] at HE1
    obtain rfl : u21 = .nilIface := HE1.out
    have F1 := Lib.hid f1
    clear f1 HE1
    by_cases f2 : fitB S2 = true
    · rw [te_fit f2] at HE2
      obtain rfl : u23 = .nilIface := HE2.out
      have F2 := Lib.hid f2
      clear f2 HE2
      have HA := Lib.hid (fun W => NumsAdd_any (tn S1) (tn S2) W (tn_in _) (tn_in _))
      rw [show tn S1 + tn S2 = sumZ l by rw [tn_fit F1.out, tn_fit F2.out, HS1.out]] at HA
      have HT := Lib.hid (fun W (h : Sl W 1 A n (l.map (Value.int .i64))) => NumsTotal_any l A n c W HL.out (by omega) HR.out h)
      generalize sumZ l = S at *
      have es : (tn S == tn S) = true := by simp
      have et : ((te txtSum S).code == (te txtSum S).code) = true := by simp
      go_wp2_with fail
      refine (HA.out wc).mono ?_
      rintro e w10 ⟨ev3, rfl, hev, hb⟩
      have HE3 := Lib.hid hev
      replace HB := Lib.hid (HB.out.andThen hb)
      replace HG := Lib.hid (HG.out.keep hb)
      replace HSr := Lib.hid (HSr.out.keep hb)
      clear hev hb HA
      go_wp2_with fail
      refine (HT.out w10 HSr.out).mono ?_
      rintro e w11 ⟨ev4, rfl, hev, hb⟩
      replace HE3 := Lib.hid (HE3.out.keep hb)
      have HE4 := Lib.hid hev
      replace HB := Lib.hid (HB.out.andThen hb)
      replace HG := Lib.hid (HG.out.keep hb)
      clear hev hb HT
      go_wp2_with fail
      refine (Code_any _ ev3 w11 HE3.out HG.out).mono ?_
      rintro e w12 ⟨rfl, hb⟩
      replace HE4 := Lib.hid (HE4.out.keep hb)
      replace HB := Lib.hid (HB.out.andThen hb)
      replace HG := Lib.hid (HG.out.keep hb)
      clear hb
      go_wp2_with fail
      refine (Code_any _ ev4 w12 HE4.out HG.out).mono ?_
      rintro e w13 ⟨rfl, hb⟩
      replace HB := Lib.hid (HB.out.andThen hb)
      clear hb
      go_wp2_with fail
      go_ret
      exact ⟨rfl, HB.out⟩
    · have f2' : fitB S2 = false := by simpa using f2
      rw [te_not f2'] at HE2
      obtain ⟨g, rfl, _⟩ := HE2.out
      clear f2 f2'
      go_wp2_with fail
      go_ret
      exact ⟨rfl, HB.out⟩
  · have f1' : fitB S1 = false := by simpa using f1
    rw [te_not f1'] at HE1
    obtain ⟨g, rfl, _⟩ := HE1.out
    clear f1 f1'
    go_wp2_with fail
    go_ret
    exact ⟨rfl, HB.out⟩
set_option maxHeartbeats 8000000 in
theorem NumsOrder_walk0 (b : Int) (l : List Int) (A : Option Addr) (n c at_ : Nat) (w : World) (hg : ErrT w) (ha : -9223372036854775808 ≤ (0 : Int) ∧ (0 : Int) ≤ 9223372036854775807) (hb : -9223372036854775808 ≤ b ∧ b ≤ 9223372036854775807) (hat : at_ ≤ 255)
    (hn : n ≤ 100) (hl : l.length = n) (hnc : n ≤ c ∧ c ≤ 9223372036854775807) (hr : ∀ x ∈ l, -9223372036854775808 ≤ x ∧ x ≤ 9223372036854775807) (hs : Sl w 1 A n (l.map (Value.int .i64))) :
    Calls Tryd.prog 10 #[.int .i64 (0 : Int), .int .i64 b, .slice A n c, .int .u8 (at_ : Int)] w fun e w' => e = .returned (.bool true) ∧ Below w.heap.size w w' := by
  have HR := Lib.hid hr
  have HS := Lib.hid hs
  have HL := Lib.hid hl
  clear hr hs hl
  have H1 := Lib.hid (fun W => NumsAdd_any (0 : Int) b W ha hb)
  have H2 := Lib.hid (fun W => NumsAdd_any b (0 : Int) W hb ha)
  rw [Int.add_comm b (0 : Int)] at H2
  have H3 := Lib.hid (fun W => NumsMul_any (0 : Int) b W ha hb)
  have H4 := Lib.hid (fun W => NumsMul_any b (0 : Int) W hb ha)
  rw [Int.mul_comm b (0 : Int)] at H4
  obtain ⟨z, hz⟩ : ∃ z, z = (0 : Int) + b := ⟨_, rfl⟩
  obtain ⟨pp, hp⟩ : ∃ pp, pp = (0 : Int) * b := ⟨_, rfl⟩
  rw [← hz] at H1 H2
  rw [← hp] at H3 H4
  have HZ := Lib.hid hz
  have HP := Lib.hid hp
  clear hz hp
  have e1 : (tn z == tn z) = true := by simp
  have e2 : (tn pp == tn pp) = true := by simp
  have e3 : ((te txtSum z).code == (te txtSum z).code) = true := by simp
  have e4 : ((te txtProduct pp).code == (te txtProduct pp).code) = true := by simp
  go_enter Tryd.func10, Tryd.ntmps10
  go_wp2_with fail
  refine (alive02 w hg).mono ?_
  rintro e w1 ⟨rfl, hb1⟩
  have HB := Lib.hid hb1
  clear hb1
  go_wp2_with fail
  refine (H1.out w1).mono ?_
  rintro e w2 ⟨v1, rfl, hev, hb1⟩
  have HV1 := Lib.hid hev
  replace HB := Lib.hid (HB.out.andThen hb1)
  clear hb1 H1 hev
  go_wp2_with fail
  refine (H2.out w2).mono ?_
  rintro e w3 ⟨v2, rfl, hev, hb1⟩
  have HV2 := Lib.hid hev
  replace HV1 := Lib.hid (HV1.out.keep hb1)
  replace HB := Lib.hid (HB.out.andThen hb1)
  clear hb1 H2 hev
  go_wp2_with fail
  refine (H3.out w3).mono ?_
  rintro e w4 ⟨v3, rfl, hev, hb1⟩
  have HV3 := Lib.hid hev
  replace HV1 := Lib.hid (HV1.out.keep hb1)
  replace HV2 := Lib.hid (HV2.out.keep hb1)
  replace HB := Lib.hid (HB.out.andThen hb1)
  clear hb1 H3 hev
  go_wp2_with fail
  refine (H4.out w4).mono ?_
  rintro e w5 ⟨v4, rfl, hev, hb1⟩
  have HV4 := Lib.hid hev
  replace HV1 := Lib.hid (HV1.out.keep hb1)
  replace HV2 := Lib.hid (HV2.out.keep hb1)
  replace HV3 := Lib.hid (HV3.out.keep hb1)
  replace HB := Lib.hid (HB.out.andThen hb1)
  clear hb1 H4 hev
  have HG := Lib.hid (hg.keep HB.out)
  go_wp2_with fail
  refine (Code_any _ v1 w5 HV1.out HG.out).mono ?_
  rintro e w6 ⟨rfl, hb1⟩
  replace HV1 := Lib.hid (HV1.out.keep hb1)
  replace HV2 := Lib.hid (HV2.out.keep hb1)
  replace HV3 := Lib.hid (HV3.out.keep hb1)
  replace HV4 := Lib.hid (HV4.out.keep hb1)
  replace HG := Lib.hid (HG.out.keep hb1)
  replace HB := Lib.hid (HB.out.andThen hb1)
  clear hb1
  go_wp2_with fail
  refine (Code_any _ v2 w6 HV2.out HG.out).mono ?_
  rintro e w7 ⟨rfl, hb1⟩
  replace HV1 := Lib.hid (HV1.out.keep hb1)
  replace HV3 := Lib.hid (HV3.out.keep hb1)
  replace HV4 := Lib.hid (HV4.out.keep hb1)
  replace HG := Lib.hid (HG.out.keep hb1)
  replace HB := Lib.hid (HB.out.andThen hb1)
  clear hb1 HV2
  go_wp2_with fail
  refine (Code_any _ v3 w7 HV3.out HG.out).mono ?_
  rintro e w8 ⟨rfl, hb1⟩
  replace HV1 := Lib.hid (HV1.out.keep hb1)
  replace HV3 := Lib.hid (HV3.out.keep hb1)
  replace HV4 := Lib.hid (HV4.out.keep hb1)
  replace HG := Lib.hid (HG.out.keep hb1)
  replace HB := Lib.hid (HB.out.andThen hb1)
  clear hb1
  go_wp2_with fail
  refine (Code_any _ v4 w8 HV4.out HG.out).mono ?_
  rintro e w9 ⟨rfl, hb1⟩
  replace HV1 := Lib.hid (HV1.out.keep hb1)
  replace HV3 := Lib.hid (HV3.out.keep hb1)
  replace HG := Lib.hid (HG.out.keep hb1)
  replace HB := Lib.hid (HB.out.andThen hb1)
  clear hb1 HV4
  go_upto_region 11 with (fail)
  go_cut [84] from 79 to 84 (fun s wx => s = .bool (fitB z && decide (-9223372036854775808 < b)) ∧ wx = w9)
  case first =>
    by_cases hf : fitB z = true
    · rw [te_fit hf] at HV1
      obtain rfl : v1 = .nilIface := HV1.out
      have hfh := Lib.hid hf
      clear hf HV1
      go_wp2_with fail
      all_goals go_meet
      all_goals exact ⟨by rw [hfh.out]; rfl, rfl⟩
    · have hf' : fitB z = false := by simpa using hf
      rw [te_not hf'] at HV1
      obtain ⟨g, rfl, _⟩ := HV1.out
      have hfh := Lib.hid hf'
      clear hf hf'
      go_wp2_with fail
      all_goals go_meet
      all_goals exact ⟨by rw [hfh.out]; rfl, rfl⟩
  case rest =>
  obtain ⟨rfl, rfl⟩ := hcut
  go_upto_if 84 with (fail)
  go_cut [17, 18] from 84 to 98 (fun _ _ wx => Below wc.heap.size wc wx)
  case first =>
    by_cases hf : fitB z = true ∧ -9223372036854775808 < b
    · obtain ⟨hf, hbm⟩ := hf
      rw [hf, decide_eq_true hbm]
      have hf2 := tn_in z
      have HZZ := Lib.hid (show tn z + -b = (0 : Int) by rw [tn_fit hf, HZ.out]; omega)
      have hwb : IntKind.i64.wrap (-b) = -b := by rw [IntKind.wrap_i64]; omega
      have HA := Lib.hid (NumsAdd_any (tn z) (-b) wc hf2 (by omega))
      rw [HZZ.out, tn_fit (fitB_true ha), te_fit (fitB_true ha)] at HA
      have ea : ((0 : Int) == (0 : Int)) = true := by simp
      clear hf
      go_wp2_with fail
      refine HA.out.mono ?_
      rintro e w10 ⟨ev, rfl, hev, hb1⟩
      obtain rfl : ev = .nilIface := hev
      go_wp2_with fail
      go_meet
      exact hb1
    · have hff : (fitB z && decide (-9223372036854775808 < b)) = false := by
        rw [Bool.eq_false_iff]; intro h; simp at h; exact hf h
      rw [hff]
      clear hf hff
      go_wp2_with fail
      go_meet
      exact Below.refl _ _
  case rest =>
  have HC := Lib.hid hcut
  replace HV3 := Lib.hid (HV3.out.keep hcut)
  replace HB := Lib.hid (HB.out.andThen hcut)
  replace HG := Lib.hid (HG.out.keep hcut)
  clear hcut HC HV1
  go_upto_region 15 with (fail)
  go_cut [117] from 99 to 117 (fun s wx => s = .bool false ∧ wx = wc)
  case first =>
    by_cases hf : fitB pp = true
    · rw [te_fit hf] at HV3
      obtain rfl : v3 = .nilIface := HV3.out
      have HT := Lib.hid (tn_fit hf)
      clear hf HV3
      go_wp2_with fail
      all_goals go_meet
      all_goals exact ⟨rfl, rfl⟩
    · have hf' : fitB pp = false := by simpa using hf
      rw [te_not hf'] at HV3
      obtain ⟨g, rfl, _⟩ := HV3.out
      clear hf hf'
      go_wp2_with fail
      all_goals go_meet
      all_goals exact ⟨rfl, rfl⟩
  case rest =>
  obtain ⟨rfl, rfl⟩ := hcut
  clear HV3
  obtain ⟨K, hK⟩ : ∃ K : Nat, K = at_ % (n + 1) := ⟨_, rfl⟩
  have hKn : K < n + 1 := by rw [hK]; exact Nat.mod_lt _ (by omega)
  have eK : (at_ : Int) % ((n : Int) + 1) = (K : Int) := by rw [hK]; rfl
  have HS1 := Lib.hid (sumZ_split l K)
  obtain ⟨S1, hS1⟩ : ∃ S1, S1 = sumZ (l.take K) := ⟨_, rfl⟩
  obtain ⟨S2, hS2⟩ : ∃ S2, S2 = sumZ (l.drop K) := ⟨_, rfl⟩
  have HT1 := Lib.hid (fun W (B : Option Addr) (c' : Nat) (h : Sl W 1 B K ((l.take K).map (Value.int .i64))) => NumsTotal_any (l.take K) B K c' W (by rw [List.length_take, HL.out]; omega) (by omega) (fun x hx => HR.out x (List.mem_of_mem_take hx)) h)
  have HT2 := Lib.hid (fun W (B : Option Addr) (c' : Nat) (h : Sl W 1 B (n - K) ((l.drop K).map (Value.int .i64))) => NumsTotal_any (l.drop K) B (n - K) c' W (by rw [List.length_drop, HL.out]) (by omega) (fun x hx => HR.out x (List.mem_of_mem_drop hx)) h)
  rw [← hS1] at HT1 HS1
  rw [← hS2] at HT2 HS1
  clear hS1 hS2 hK
  have HSr := Lib.hid (HS.out.keep HB.out)
  go_upto_region 18 with (fail)
  rw [eK]
  go_cut [20, 21] from 124 to 130 (fun xv uv wx => xv = .int .i64 (tn S1) ∧ (te txtSum S1).At wx uv ∧ Below wc.heap.size wc wx)
  case first =>
    have HSt := Lib.hid (HSr.out.take (k := K) (by omega))
    rw [← List.map_take] at HSt
    have hKc : (K : Int) ≤ (c : Int) := by omega
    have hK0 : (0 : Int) ≤ (K : Int) := by omega
    go_wp2_with fail
    refine (HT1.out wc _ _ HSt.out).mono ?_
    rintro e w10 ⟨ev, rfl, hev, hb1⟩
    have HE := Lib.hid hev
    clear hev
    go_wp2_with fail
    go_meet
    exact ⟨rfl, HE.out, hb1⟩
  case rest =>
  obtain ⟨rfl, hev, hb⟩ := hcut
  have HE1 := Lib.hid hev
  replace HB := Lib.hid (HB.out.andThen hb)
  replace HG := Lib.hid (HG.out.keep hb)
  replace HSr := Lib.hid (HSr.out.keep hb)
  rename_i wa
  clear hev hb HT1
  go_upto_region 19 with (fail)
  go_cut [22, 23] from 131 to 137 (fun xv uv wx => xv = .int .i64 (tn S2) ∧ (te txtSum S2).At wx uv ∧ Below wc.heap.size wc wx)
  case first =>
    have hKc : (K : Int) ≤ (n : Int) := by omega
    have hK0 : (0 : Int) ≤ (K : Int) := by omega
    have hsub : (n : Int) - (K : Int) = ((n - K : Nat) : Int) := by omega
    have hsub2 : (c : Int) - (K : Int) = ((c - K : Nat) : Int) := by omega
    have HSd := Lib.hid (fun B => HSr.out.drop_end (k := K) (B := B))
    rw [← List.map_drop] at HSd
    rcases A with _ | p
    · have HZ0 := Lib.hid (HSr.out.none_zero)
      go_wp2_with fail
      all_goals
        refine (HT2.out wc _ _ (HSd.out _ (by have := HZ0.out; omega))).mono ?_
        rintro e w10 ⟨ev, rfl, hev, hb1⟩
        have HE := Lib.hid hev
        clear hev
        go_wp2_with fail
        go_meet
        exact ⟨rfl, HE.out, hb1⟩
    · have HSe := Lib.hid (HSr.out.drop_at (k := K) (by omega))
      rw [← List.map_drop] at HSe
      by_cases hKcc : K = c
      · subst hKcc
        obtain rfl : n = K := by omega
        clear hsub hsub2
        have HSz := Lib.hid (fun B => HSd.out B (Nat.le_refl _))
        rw [Nat.sub_self] at HT2 HSz
        go_wp2_with fail
        all_goals
          refine (HT2.out wc _ _ (HSz.out _)).mono ?_
          rintro e w10 ⟨ev, rfl, hev, hb1⟩
          have HE := Lib.hid hev
          clear hev
          go_wp2_with fail
          go_meet
          exact ⟨rfl, HE.out, hb1⟩
      · have hKcc' : ¬ (K : Int) = (c : Int) := by omega
        have hKcc2 : ¬ (c : Int) = (K : Int) := by omega
        go_wp2_with fail
        all_goals
          refine (HT2.out wc _ _ (by first | exact HSe.out | exact HSd.out _ (by omega))).mono ?_
          rintro e w10 ⟨ev, rfl, hev, hb1⟩
          have HE := Lib.hid hev
          clear hev
          go_wp2_with fail
          go_meet
          exact ⟨rfl, HE.out, hb1⟩
  case rest =>
  obtain ⟨rfl, hev, hb⟩ := hcut
  replace HE1 := Lib.hid (HE1.out.keep hb)
  have HE2 := Lib.hid hev
  replace HB := Lib.hid (HB.out.andThen hb)
  replace HG := Lib.hid (HG.out.keep hb)
  replace HSr := Lib.hid (HSr.out.keep hb)
  clear hev hb HT2
  rename_i wb
  by_cases f1 : fitB S1 = true
  · rw [te_fit f1] at HE1
    obtain rfl : u21 = .nilIface := HE1.out
    have F1 := Lib.hid f1
    clear f1 HE1
    by_cases f2 : fitB S2 = true
    · rw [te_fit f2] at HE2
      obtain rfl : u23 = .nilIface := HE2.out
      have F2 := Lib.hid f2
      clear f2 HE2
      have HA := Lib.hid (fun W => NumsAdd_any (tn S1) (tn S2) W (tn_in _) (tn_in _))
      rw [show tn S1 + tn S2 = sumZ l by rw [tn_fit F1.out, tn_fit F2.out, HS1.out]] at HA
      have HT := Lib.hid (fun W (h : Sl W 1 A n (l.map (Value.int .i64))) => NumsTotal_any l A n c W HL.out (by omega) HR.out h)
      generalize sumZ l = S at *
      have es : (tn S == tn S) = true := by simp
      have et : ((te txtSum S).code == (te txtSum S).code) = true := by simp
      go_wp2_with fail
      refine (HA.out wc).mono ?_
      rintro e w10 ⟨ev3, rfl, hev, hb⟩
      have HE3 := Lib.hid hev
      replace HB := Lib.hid (HB.out.andThen hb)
      replace HG := Lib.hid (HG.out.keep hb)
      replace HSr := Lib.hid (HSr.out.keep hb)
      clear hev hb HA
      go_wp2_with fail
      refine (HT.out w10 HSr.out).mono ?_
      rintro e w11 ⟨ev4, rfl, hev, hb⟩
      replace HE3 := Lib.hid (HE3.out.keep hb)
      have HE4 := Lib.hid hev
      replace HB := Lib.hid (HB.out.andThen hb)
      replace HG := Lib.hid (HG.out.keep hb)
      clear hev hb HT
      go_wp2_with fail
      refine (Code_any _ ev3 w11 HE3.out HG.out).mono ?_
      rintro e w12 ⟨rfl, hb⟩
      replace HE4 := Lib.hid (HE4.out.keep hb)
      replace HB := Lib.hid (HB.out.andThen hb)
      replace HG := Lib.hid (HG.out.keep hb)
      clear hb
      go_wp2_with fail
      refine (Code_any _ ev4 w12 HE4.out HG.out).mono ?_
      rintro e w13 ⟨rfl, hb⟩
      replace HB := Lib.hid (HB.out.andThen hb)
      clear hb
      go_wp2_with fail
      go_ret
      exact ⟨rfl, HB.out⟩
    · have f2' : fitB S2 = false := by simpa using f2
      rw [te_not f2'] at HE2
      obtain ⟨g, rfl, _⟩ := HE2.out
      clear f2 f2'
      go_wp2_with fail
      go_ret
      exact ⟨rfl, HB.out⟩
  · have f1' : fitB S1 = false := by simpa using f1
    rw [te_not f1'] at HE1
    obtain ⟨g, rfl, _⟩ := HE1.out
    clear f1 f1'
    go_wp2_with fail
    go_ret
    exact ⟨rfl, HB.out⟩

theorem NumsOrder_main (a0 a1 : Int) (A2 : Option Addr) (n2 c2 : Nat) (l2 : List Int) (a3 : Int) (w : World) (hg : ErrT w) (h0 : (Lit.int .i64 a0).wf = true) (h1 : (Lit.int .i64 a1).wf = true)
    (m2 : n2 ≤ maxLen) (e2 : l2.length = n2) (s2 : Sl w 1 A2 n2 (l2.map (Value.int .i64))) (w2 : ∀ z ∈ l2, (Lit.int .i64 z).wf = true) (q2 : n2 ≤ c2 ∧ c2 ≤ 9223372036854775807) (h3 : (Lit.int .u8 a3).wf = true) :
    Calls Tryd.prog 10 #[.int .i64 a0, .int .i64 a1, .slice A2 n2 c2, .int .u8 a3] w fun e w' => e = .returned (.bool true) ∧ Below w.heap.size w w' := by
  have b3 := wf_u8 h3
  obtain ⟨a3, rfl⟩ := Int.eq_ofNat_of_zero_le b3.1
  have b0 := wf_i64 h0
  have b1 := wf_i64 h1
  by_cases hn : n2 ≤ 100
  · by_cases ha : a0 = 0
    · subst ha
      exact NumsOrder_walk0 a1 l2 A2 n2 c2 a3 w hg b0 b1 (by omega) hn e2 q2 (fun x hx => wf_i64 (w2 x hx)) s2
    · exact NumsOrder_walk a0 a1 l2 A2 n2 c2 a3 w hg b0 b1 (by omega) hn e2 q2 (fun x hx => wf_i64 (w2 x hx)) s2 ha
  · have hn' : (100 : Int) < (n2 : Int) := by omega
    clear s2 w2
    go_enter Tryd.func10, Tryd.ntmps10
    go_wp2_with fail
    refine (alive02 w hg).mono ?_
    rintro e w1 ⟨rfl, hb1⟩
    have HB := Lib.hid hb1
    clear hb1
    go_wp2_with fail
    go_ret
    exact ⟨rfl, HB.out⟩
end Go.Proofs.YtclbbchljiagpaaDoor
