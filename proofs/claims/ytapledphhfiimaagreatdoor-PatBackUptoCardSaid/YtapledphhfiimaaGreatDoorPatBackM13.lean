/-
  Part 13 of the proof of PatBack: PgB, PgC, PatT, PatN.
-/
import Derived.Test.YtapledphhfiimaaGreatDoorPatBackM11
import Derived.Test.YtapledphhfiimaaGreatDoorPatBackM12
import Derived.Test.YtapledphhfiimaaGreatDoorPatBackM4
import Derived.Test.YtapledphhfiimaaGreatDoorPatBackM2
import Derived.BigQuiet
set_option linter.unusedVariables false
/-
  Programs of tests: walks of number, test, Parse.
-/
namespace Go.Proofs.YtapledphhfiimaaGreatDoor
open Go.RowKit Go.Proofs.YtapledphhfiimaaGreatDoor.Pg
attribute [local go_sem ↓] Go.wp_at_zero Go.wp_at_succ
set_option maxRecDepth 100000
set_option linter.unusedVariables false

theorem split_len_le (c : UInt8) : ∀ (s x : List UInt8), x ∈ Tx.split1 c s → x.length ≤ s.length
  | [], x, h => by
    rw [Tx.split1] at h
    rw [List.mem_singleton.1 h]
    exact Nat.le_refl _
  | b :: l, x, h => by
    have ih := split_len_le c l
    unfold Tx.split1 at h
    split at h
    · rcases List.mem_cons.1 h with rfl | h
      · exact Nat.zero_le _
      · have := ih x h
        rw [List.length_cons]
        omega
    · split at h
      · rw [List.mem_singleton.1 h]
        simp
      · rename_i y r hy
        rcases List.mem_cons.1 h with rfl | h
        · have := ih y (by rw [hy]; exact List.mem_cons_self ..)
          simp only [List.length_cons]
          omega
        · have := ih x (by rw [hy]; exact List.mem_cons_of_mem _ h)
          rw [List.length_cons]
          omega
theorem cut_len_le (c : UInt8) (s : List UInt8) : (Tx.cut1 c s).1.length ≤ s.length ∧ (Tx.cut1 c s).2.1.length ≤ s.length := by
  rcases Tx.cut1_cases c s with ⟨_, h⟩ | ⟨a, b, rfl, _, h⟩
  · rw [h]; simp
  · rw [h]; simp; omega
theorem itoaB_bz (v : Int) : itoaB v = bz (Lib.itoa v) := rfl
theorem bz_beq (l m : List UInt8) : ((bz l).toList == (bz m).toList) = decide (l = m) := by
  rw [bz_toList, bz_toList]
  by_cases h : l = m
  · simp [h]
  · rw [decide_eq_false h]
    simpa using h
/-- What a number's walk answers. -/
def NumRes (o : Option Int) (w : World) (e : Ending) (w' : World) : Prop :=
  ∃ (z : Int) (b : Bool), e = .returned (.tuple #[.int .i64 z, .bool b]) ∧ Below w.heap.size w w' ∧ ((o = some z ∧ b = true) ∨ (o = none ∧ b = false))
set_option maxHeartbeats 4000000 in
theorem PgNumber_any (l : List UInt8) (w : World) (hs : l.length ≤ 1000000) (hL : LibW w) (hT : TabW w) :
    Calls Tryz.prog 89 #[.string (bz l)] w (NumRes (numP 6 l) w) := by
  have HA := Lib.hid (Atoi_any l w hs hL)
  have HT := Lib.hid hT
  obtain ⟨m, hm⟩ : ∃ m, m = l.length := ⟨_, rfl⟩
  have hsz : (bz l).size = m := by rw [bz_size, hm]
  have HNum := Lib.hid (show ∀ v, Lib.atoiAll l = .ok v → numP 6 l = if m ≤ 6 ∧ Lib.itoa v = l ∧ 0 ≤ v then some v else none from fun v h => by
    unfold numP
    rw [h, hm])
  have HNone := Lib.hid (show (∀ v, Lib.atoiAll l ≠ .ok v) → numP 6 l = none from fun h => by
    unfold numP
    split
    · rename_i v hv
      exact absurd hv (h v)
    · rfl)
  have HBd := Lib.hid (fun v (h : Lib.atoiAll l = .ok v) => Lib.atoiAll_bounds h)
  have HBq := Lib.hid (fun v => bz_beq (Lib.itoa v) l)
  obtain ⟨S, hS⟩ : ∃ S, S = bz l := ⟨_, rfl⟩
  rw [← hS] at HA hsz HBq ⊢
  clear hL hT hm hS hs
  go_enter Tryz.func89, Tryz.ntmps89
  go_upto_region 2 with (go_at_call 126; refine HA.out.mono ?_; clear HA; rintro e w1 ⟨hb1, hp⟩; obtain ⟨z, x, hev⟩ : ∃ z x, e = .returned (.tuple #[.int .i64 z, x]) := (by rcases hp with ⟨_, _, h⟩ | ⟨_, _, _, _, h⟩ <;> exact ⟨_, _, h⟩); subst hev; have HB1 := Lib.hid hb1; have HP := Lib.hid hp; clear hb1 hp)
  rcases HP.out with ⟨v, hv, he⟩ | ⟨hno, z', T, y, he⟩
  · obtain ⟨rfl, rfl⟩ : z = v ∧ x = .nilIface := by simpa using he
    have hn := HNum.out z hv
    have hbd := HBd.out z hv
    have HI := Lib.hid (Itoa_any z w1 (by unfold i64P; omega) (HT.out.keep HB1.out))
    have hbq := HBq.out z
    rw [← itoaB_bz] at hbq
    clear he HP HNum HNone HBd HBq hv hbd
    by_cases h6 : m ≤ 6
    · have h6' : (m : Int) ≤ 6 := by omega
      by_cases hi : Lib.itoa z = l
      · rw [decide_eq_true hi] at hbq
        obtain ⟨t, ht⟩ : ∃ t, t = itoaB z := ⟨_, rfl⟩
        rw [← ht] at HI hbq
        by_cases h0 : 0 ≤ z
        · have HR := Lib.hid (show numP 6 l = some z from by rw [hn, if_pos ⟨h6, hi, h0⟩])
          clear hn hi ht
          go_wp2_with (go_at_call 69; refine HI.out.mono ?_; rintro e w2 ⟨rfl, hb2⟩; have HB2 := Lib.hid (HB1.out.andThen hb2); clear hb2)
          go_ret2
          exact ⟨z, true, rfl, HB2.out, .inl ⟨HR.out, rfl⟩⟩
        · have HR := Lib.hid (show numP 6 l = none from by rw [hn, if_neg (fun h => h0 h.2.2)])
          have h0' : decide (0 ≤ z) = false := decide_eq_false h0
          clear hn hi ht
          go_wp2_with (go_at_call 69; refine HI.out.mono ?_; rintro e w2 ⟨rfl, hb2⟩; have HB2 := Lib.hid (HB1.out.andThen hb2); clear hb2)
          go_ret2
          exact ⟨z, false, rfl, HB2.out, .inr ⟨HR.out, rfl⟩⟩
      · rw [decide_eq_false hi] at hbq
        obtain ⟨t, ht⟩ : ∃ t, t = itoaB z := ⟨_, rfl⟩
        rw [← ht] at HI hbq
        have HR := Lib.hid (show numP 6 l = none from by rw [hn, if_neg (fun h => hi h.2.1)])
        clear hn hi ht
        go_wp2_with (go_at_call 69; refine HI.out.mono ?_; rintro e w2 ⟨rfl, hb2⟩; have HB2 := Lib.hid (HB1.out.andThen hb2); clear hb2)
        go_ret2
        exact ⟨z, false, rfl, HB2.out, .inr ⟨HR.out, rfl⟩⟩
    · have h6' : ¬ (m : Int) ≤ 6 := by omega
      have HR := Lib.hid (show numP 6 l = none from by rw [hn, if_neg (fun h => h6 h.1)])
      clear hn hbq HI
      go_wp2_with fail
      go_ret2
      exact ⟨z, false, rfl, HB1.out, .inr ⟨HR.out, rfl⟩⟩
  · obtain ⟨rfl, rfl⟩ : z = z' ∧ x = .iface T y := by simpa using he
    have HR := Lib.hid (HNone.out hno)
    clear he HP HNum HNone HBd HBq hno
    go_wp2_with fail
    go_ret2
    exact ⟨z, false, rfl, HB1.out, .inr ⟨HR.out, rfl⟩⟩
/-- What a test's text answers. -/
def TestRes (x : List UInt8) (w : World) (e : Ending) (w' : World) : Prop :=
  ∃ (k n : Int) (b : Bool), e = .returned (.tuple #[.agg #[.int .i64 k, .int .i64 n], .bool b]) ∧ Below w.heap.size w w' ∧ ((testP x = some (k, n) ∧ b = true) ∨ (testP x = none ∧ b = false))
set_option maxHeartbeats 8000000 in
theorem test_any (x : List UInt8) (w : World) (hs : x.length ≤ 1000000) (hL : LibW w) (hT : TabW w) :
    Calls Tryz.prog 66 #[.string (bz x)] w (TestRes x w) := by
  obtain ⟨nm, nn, has, hc⟩ : ∃ nm n has, Tx.cut1 32 x = (nm, n, has) := ⟨_, _, _, rfl⟩
  have hlen := cut_len_le 32 x
  have htp := testP_of hc
  have hb0 := bel_al (Below.refl w.heap.size w) (.cells #[.int .i64 0, .int .i64 0] 40)
  have HCut := Lib.hid (Cut_any x 32 (w.alloc (.cells #[.int .i64 0, .int .i64 0] 40)) hs (hL.keep hb0))
  rw [hc] at hlen HCut
  simp only at hlen HCut
  have HB0 := Lib.hid hb0
  have HKR := Lib.hid (Blk.new w 40 #[.int .i64 0, .int .i64 0])
  have HL0 := Lib.hid (hL.keep hb0)
  have HT0 := Lib.hid (hT.keep hb0)
  have HLen := Lib.hid hlen
  have HXs := Lib.hid hs
  have HTp := Lib.hid htp
  have hkb := kind_bounds nm
  clear hb0 hlen htp hc hL hT hs
  go_enter Tryz.func66, Tryz.ntmps66
  go_upto_region 2 with (go_at_call 73; refine HCut.out.mono ?_; clear HCut; rintro e w1 ⟨rfl, hb1⟩; have HB1 := Lib.hid hb1; clear hb1)
  have HKd := Lib.hid (Kind_any nm w1)
  obtain ⟨k, hk⟩ : ∃ k, k = kindZ nm := ⟨_, rfl⟩
  rw [← hk] at HKd HTp hkb
  clear hk
  go_upto_region 3 with (go_at_call 88; refine HKd.out.mono ?_; clear HKd; rintro e w2 ⟨rfl, hb2⟩; have HB2 := Lib.hid (HB1.out.andThen hb2); clear hb2)
  have HKo := Lib.hid (Blk.new w2 40 #[.int .i64 k, .int .i64 0])
  have HB2' := Lib.hid (bel_al HB2.out (.cells #[.int .i64 k, .int .i64 0] 40))
  have HTk := Lib.hid (fun W => takes_any k W)
  have hne : w.heap.size ≠ w2.heap.size := by have h := HB2.out.size; simp at h; omega
  obtain ⟨w3, hw3⟩ : ∃ w3, w3 = w2.alloc (.cells #[.int .i64 k, .int .i64 0] 40) := ⟨_, rfl⟩
  rw [← hw3] at HKo HB2' ⊢
  clear hw3
  have hkr := (HKR.out.keep HB2'.out)
  have HKr := Lib.hid hkr
  have r0 := hkr.cell 0
  have r1 := hkr.cell 1
  have f0 := hkr.frozen 0
  have f1 := hkr.frozen 1
  have o0 := HKo.out.cell 0
  have o1 := HKo.out.cell 1
  have g1 := HKo.out.frozen 1
  simp at r0 r1 o0 o1
  have HNe := Lib.hid hne
  have HW3 := Lib.hid (And.intro (HL0.out.keep HB2'.out) (HT0.out.keep HB2'.out))
  clear hkr hne
  have HEnd := Lib.hid (show ∀ (V : World) (a b : Int), Blk V w.heap.size 40 #[.int .i64 0, .int .i64 0] → (((V.setCell ⟨w.heap.size, 0, none⟩ (.int .i64 a)).setCell ⟨w.heap.size, 1, none⟩ (.int .i64 b)).cell? ⟨w.heap.size, 0, none⟩ = some (.int .i64 a)) ∧ (((V.setCell ⟨w.heap.size, 0, none⟩ (.int .i64 a)).setCell ⟨w.heap.size, 1, none⟩ (.int .i64 b)).cell? ⟨w.heap.size, 1, none⟩ = some (.int .i64 b)) from fun V a b h => by
    have hx := (h.set_ 0 (.int .i64 a)).set_ 1 (.int .i64 b)
    have x0 := hx.cell 0
    have x1 := hx.cell 1
    simp at x0 x1
    exact ⟨x0, x1⟩)
  by_cases hk0 : k = 0
  · subst hk0
    have HR := Lib.hid (show testP x = none from by rw [HTp.out, if_pos (.inl rfl)])
    obtain ⟨x00, x01⟩ := HEnd.out _ 0 0 HKr.out
    go_wp2_with fail
    refine bodyPost_ret (v := .tuple #[.agg #[.int .i64 0, .int .i64 0], .bool false]) (by simp [results, Tryz.results66, go_sem, x00, x01]) rfl ?_
    exact ⟨0, 0, false, rfl, ((HB0.out.andThen HB2'.out).setCell (p := ⟨w.heap.size, 0, none⟩) (Nat.le_refl _) _).setCell (p := ⟨w.heap.size, 1, none⟩) (Nat.le_refl _) _, .inr ⟨HR.out, rfl⟩⟩
  · have hk0' : (k == 0) = false := by simpa using hk0
    by_cases hht : has = takesZ k
    · have HTe := Lib.hid hht
      rw [← hht] at HTk
      cases has with
      | true =>
        have HR := Lib.hid (show testP x = (numP 6 nn).map fun v => (k, v) from by rw [HTp.out, if_neg (fun h => h.elim hk0 fun h => h HTe.out), if_pos rfl])
        have HNm := Lib.hid (PgNumber_any nn w3 (by have := HLen.out.2; have := HXs.out; omega) HW3.out.1 HW3.out.2)
        clear hht hk0 HTp HTe
        go_upto_region 8 with (first
          | (go_at_call 68; refine (HTk.out _).mono ?_; rintro e w4 ⟨rfl, rfl⟩)
          | (go_at_call 89; refine HNm.out.mono ?_; clear HNm; rintro e w5 ⟨z, b, rfl, hb5, hz⟩; have HB5 := Lib.hid hb5; have HZ := Lib.hid hz; have HKo5 := Lib.hid (HKo.out.keep hb5); have HKr5 := Lib.hid (HKr.out.keep hb5); have p0 := HKo5.out.cell 0; have p1 := HKo5.out.cell 1; have p2 := HKo5.out.frozen 1; simp at p0 p1; clear hb5 hz))
        have hko := HKo5.out.set_ 1 (.int .i64 z)
        have q0 := hko.cell 0
        have q1 := hko.cell 1
        simp at q0 q1
        have hkr := HKr5.out.far (p := ⟨w2.heap.size, 1, none⟩) HNe.out (.int .i64 z)
        have HKr6 := Lib.hid hkr
        have r0 := hkr.cell 0
        have r1 := hkr.cell 1
        have f0 := hkr.frozen 0
        have f1 := hkr.frozen 1
        simp at r0 r1
        obtain ⟨x00, x01⟩ := HEnd.out _ k z hkr
        have HB6 := Lib.hid (show Below w.heap.size w (w5.setCell ⟨w2.heap.size, 1, none⟩ (.int .i64 z)) from ((HB0.out.andThen HB2'.out).andThen HB5.out).setCell (p := ⟨w2.heap.size, 1, none⟩) (by have h1 := HB0.out.size; have h2 := HB2.out.size; exact Nat.le_trans h1 h2) _)
        clear hko hkr
        go_wp2_with fail
        refine bodyPost_ret (v := .tuple #[.agg #[.int .i64 k, .int .i64 z], .bool b]) (by simp [results, Tryz.results66, go_sem, x00, x01]) rfl ?_
        refine ⟨k, z, b, rfl, (HB6.out.setCell (p := ⟨w.heap.size, 0, none⟩) (Nat.le_refl _) _).setCell (p := ⟨w.heap.size, 1, none⟩) (Nat.le_refl _) _, ?_⟩
        rcases HZ.out with ⟨h1, h2⟩ | ⟨h1, h2⟩
        · exact .inl ⟨by rw [HR.out, h1]; rfl, h2⟩
        · exact .inr ⟨by rw [HR.out, h1]; rfl, h2⟩
      | false =>
        have HR := Lib.hid (show testP x = some (k, 0) from by rw [HTp.out, if_neg (fun h => h.elim hk0 fun h => h HTe.out), if_neg (by decide)])
        obtain ⟨x00, x01⟩ := HEnd.out _ k 0 HKr.out
        clear hht hk0 HTp HTe
        go_wp2_with (go_at_call 68; refine (HTk.out _).mono ?_; rintro e w4 ⟨rfl, rfl⟩)
        refine bodyPost_ret (v := .tuple #[.agg #[.int .i64 k, .int .i64 0], .bool true]) (by simp [results, Tryz.results66, go_sem, x00, x01]) rfl ?_
        exact ⟨k, 0, true, rfl, ((HB0.out.andThen HB2'.out).setCell (p := ⟨w.heap.size, 0, none⟩) (Nat.le_refl _) _).setCell (p := ⟨w.heap.size, 1, none⟩) (Nat.le_refl _) _, .inl ⟨HR.out, rfl⟩⟩
    · have HR := Lib.hid (show testP x = none from by rw [HTp.out, if_pos (.inr hht)])
      have hx : (has == takesZ k) = false := by simpa using hht
      obtain ⟨x00, x01⟩ := HEnd.out _ 0 0 HKr.out
      obtain ⟨tk, htk⟩ : ∃ tk, tk = takesZ k := ⟨_, rfl⟩
      rw [← htk] at HTk hx
      clear hht hk0 HTp htk
      go_wp2_with (go_at_call 68; refine (HTk.out _).mono ?_; rintro e w4 ⟨rfl, rfl⟩)
      refine bodyPost_ret (v := .tuple #[.agg #[.int .i64 0, .int .i64 0], .bool false]) (by simp [results, Tryz.results66, go_sem, x00, x01]) rfl ?_
      exact ⟨0, 0, false, rfl, ((HB0.out.andThen HB2'.out).setCell (p := ⟨w.heap.size, 0, none⟩) (Nat.le_refl _) _).setCell (p := ⟨w.heap.size, 1, none⟩) (Nat.le_refl _) _, .inr ⟨HR.out, rfl⟩⟩
/-- What Parse answers. -/
def ParseRes (l : List UInt8) (w : World) (e : Ending) (w' : World) : Prop :=
  Below w.heap.size w w' ∧ ((∃ (p : List (Int × Int)) (A : Option Addr) (c : Nat), parseG l = some p ∧ e = .returned (.tuple #[.slice A p.length c, .nilIface]) ∧ w'.ownsRow w.heap.size 40 2 (.slice A p.length c) p.length (Rk.cells p)) ∨
    (parseG l = none ∧ ∃ (c a : Int) (s : ByteArray) (g : Nat), e = .returned (.tuple #[.slice none 0 0, .iface 111 (.pointer (some ⟨g, 0, none⟩))]) ∧ (Err.flt c a s).At w' (.iface 111 (.pointer (some ⟨g, 0, none⟩))) ∧ (c = 1 ∨ c = 2 ∨ c = 3 ∨ c = 6) ∧ (testsP (Tx.split1 59 l) = none → c = 2)))
set_option maxHeartbeats 8000000 in
theorem PgParse_any (l : List UInt8) (w : World) (hs : l.length ≤ 900000) (hL : LibW w) (hT : TabW w) :
    Calls Tryz.prog 29 #[.string (bz l)] w (ParseRes l w) := by
  by_cases h0 : l = []
  · subst h0
    have hpg : parseG [] = some [] := rfl
    have HP := Lib.hid hpg
    clear hpg hL hT
    rw [show bz [] = (⟨#[]⟩ : ByteArray) from rfl]
    go_enter Tryz.func29, Tryz.ntmps29
    go_wp2_with fail
    go_ret2
    exact ⟨Below.refl _ _, .inl ⟨[], none, 0, HP.out, rfl, World.ownsRow_nil _ _ _ _⟩⟩
  · have he : (bz l).toList.isEmpty = false := by
      rw [bz_empty]
      cases l with
      | nil => exact absurd rfl h0
      | cons a l => rfl
    have HSp := Lib.hid (Split_any l 59 w (by omega) hL)
    have HGd := Lib.hid (show (testsP (Tx.split1 59 l) = none → parseG l = none) ∧ ∀ p, testsP (Tx.split1 59 l) = some p → parseG l = if rightG p then some p else none from ⟨fun h => by unfold parseG; rw [if_neg h0, h], fun p h => by unfold parseG; rw [if_neg h0, h]⟩)
    have HLe := Lib.hid (fun x (hx : x ∈ Tx.split1 59 l) => (by have := split_len_le 59 l x hx; omega : x.length ≤ 1000000))
    obtain ⟨ps, hps⟩ : ∃ ps, ps = Tx.split1 59 l := ⟨_, rfl⟩
    rw [← hps] at HSp HGd HLe
    have HPs := Lib.hid hps
    obtain ⟨N, hN⟩ : ∃ N, N = ps.length := ⟨_, rfl⟩
    have hN9 : N ≤ 900001 := by
      rw [hN, hps]
      have h := Cf.split_len 59 l
      have h2 := List.count_le_length (a := (59 : UInt8)) (l := l)
      omega
    have HN := Lib.hid hN.symm
    rw [← hN] at HSp
    have HL0 := Lib.hid hL
    have HT0 := Lib.hid hT
    obtain ⟨S, hS⟩ : ∃ S, S = bz l := ⟨_, rfl⟩
    rw [← hS] at he HSp ⊢
    clear hS hN hps hL hT h0 hs
    go_enter Tryz.func29, Tryz.ntmps29
    go_wp2_with (go_at_call 65; refine HSp.out.mono ?_; clear HSp; rintro e w1 ⟨rfl, hs1, hb1⟩; have HS1 := Lib.hid hs1; have HB1 := Lib.hid hb1; clear hs1 hb1)
    go_loopw [4, 15] (fun pv iv wr => ∃ (k : Nat) (q : List (Int × Int)), k ≤ N ∧ iv = .int .i64 (k : Int) ∧ Hid (q.length = k) ∧ Hid (testsP ps = (testsP (ps.drop k)).map (q ++ ·)) ∧ Hid (wr.ownsRow w1.heap.size 40 2 pv k (Rk.cells q)) ∧ Hid (Below w1.heap.size w1 wr)) (fun _ iv _ => N - (intOf iv).toNat)
    case atStart => exact ⟨0, [], Nat.zero_le _, rfl, Lib.hid rfl, Lib.hid (by rw [List.drop_zero]; cases testsP ps <;> rfl), Lib.hid (World.ownsRow_nil _ _ _ _), Lib.hid (Below.refl _ _)⟩
    case round =>
      obtain ⟨k, q, hk, rfl, HQl, HTs, HO, HB⟩ := hrel
      by_cases hlt : k < N
      · have hlt' : (k : Int) < (N : Int) := by omega
        have hk0 : (0 : Int) ≤ (k : Int) := by omega
        obtain ⟨x, hx⟩ : ∃ x, ps[k]? = some x := ⟨_, List.getElem?_eq_getElem (by rw [HN.out]; exact hlt)⟩
        have c1 := (HS1.out.keep HB.out).again hlt (show (ps.map fun x => Value.string (bz x))[k]? = some (.string (bz x)) by rw [List.getElem?_map, hx]; rfl)
        rw [Nat.zero_add] at c1
        have hdr : ps.drop k = x :: ps.drop (k + 1) := by
          obtain ⟨h1, h2⟩ := List.getElem?_eq_some_iff.1 hx
          rw [List.drop_eq_getElem_cons h1, h2]
        have HTst := Lib.hid (test_any x wr (HLe.out x (List.mem_of_getElem? hx)) (HL0.out.keep (HB1.out.andThen HB.out)) (HT0.out.keep (HB1.out.andThen HB.out)))
        have HSt := Lib.hid (show (testP x = none → testsP (ps.drop k) = none) ∧ ∀ o, testP x = some o → testsP (ps.drop k) = (testsP (ps.drop (k + 1))).map (o :: ·) from ⟨fun h => by rw [hdr, testsP, h], fun o h => by rw [hdr, testsP, h]⟩)
        obtain ⟨X, hX⟩ : ∃ X, X = bz x := ⟨_, rfl⟩
        rw [← hX] at c1 HTst
        clear hx hdr hX
        go_upto_region 8 with (go_at_call 66; refine HTst.out.mono ?_; clear HTst; rintro e w2 ⟨tk, tn, b, rfl, hb2, ht2⟩; have HB2 := Lib.hid (HB.out.andThen hb2); have HT2 := Lib.hid ht2; have HO2 := Lib.hid (own_block HO.out fun g hg => hb2.block g (HO.out.lt g hg).2); clear hb2 ht2)
        rcases HT2.out with ⟨ht, rfl⟩ | ⟨ht, rfl⟩
        · have HNx := Lib.hid (show testsP ps = (testsP (ps.drop (k + 1))).map ((q ++ [(tk, tn)]) ++ ·) from by
            rw [HTs.out, HSt.out.2 _ ht]
            cases testsP (ps.drop (k + 1)) with
            | none => rfl
            | some r => simp)
          have HOa := Lib.hid (HO2.out.alloc (.cells #[.int .i64 tk, .int .i64 tn] 40))
          have HBa := Lib.hid (bel_alloc HB2.out (Nat.le_refl _) (.cells #[.int .i64 tk, .int .i64 tn] 40))
          clear ht HT2
          go_wp2_with (at_builtin; refine wpList_push elemOp (w0 := w1) _ _ rfl rfl HOa.out HBa.out (Nat.le_refl _) rfl (congrArg (fun z => Value.slice (some ⟨z, 0, none⟩) 1 1) (World.size_alloc w2 (.cells #[.int .i64 tk, .int .i64 tn] 40)).symm) rfl (by simp [Value.oneCell']) (by unfold lim; omega) (by unfold lim; omega) ?_; intro v4 w4 hown4 hb4; have HO4 := Lib.hid hown4; have HB4 := Lib.hid hb4; clear hown4 hb4)
          go_roundw
          case rel => exact ⟨k + 1, q ++ [(tk, tn)], by omega, by go_num, Lib.hid (by rw [List.length_append, HQl.out]; rfl), HNx, Lib.hid (by rw [Rk.cells_snoc]; exact HO4.out), HB4⟩
          case measure => simp [intOf]; omega
        · have HNo := Lib.hid (show parseG l = none from by
            exact HGd.out.1 (by rw [HTs.out, HSt.out.1 ht]; rfl))
          clear ht HT2
          go_wp2_with (go_at_call 33; refine (New_err _ _ _ _).mono ?_; rintro e w3 ⟨v3, rfl, ⟨g3, rfl, hv3⟩, hb3⟩; have HB3 := Lib.hid hb3; have HV3 := Lib.hid hv3; clear hb3 hv3)
          go_ret2
          exact ⟨HB1.out.andThen ((bel_alloc HB2.out (Nat.le_refl _) _).andThen HB3.out), .inr ⟨HNo.out, 2, _, _, g3, rfl, ⟨g3, rfl, HV3.out⟩, .inr (.inl rfl), fun _ => rfl⟩⟩
      · obtain rfl : k = N := by omega
        have hlt' : ¬ (k : Int) < (k : Int) := by omega
        have HTq := Lib.hid (show testsP ps = some q from by
          rw [HTs.out, List.drop_of_length_le (by rw [HN.out]; exact Nat.le_refl _)]
          simp [testsP])
        obtain ⟨D, dc, rfl, hsl⟩ := Sl.own HO.out
        have HRt := Lib.hid (ProgRight_any q D k dc wr (by omega) hsl)
        clear hsl
        go_upto_region 13 with (go_at_call 9; refine HRt.out.mono ?_; clear HRt; intro e w2 hp; obtain ⟨ev, hev⟩ : ∃ ev, e = .returned ev := (by rcases hp with ⟨_, h, _⟩ | ⟨_, _, _, _, _, h, _⟩ <;> exact ⟨_, h⟩); subst hev; have HP := Lib.hid hp; clear hp)
        rcases HP.out with ⟨hok, he, hb⟩ | ⟨hno, cc, a, s, g, he, hv, hb, hc⟩
        · injection he with he
          subst he
          have HR := Lib.hid (show parseG l = some q from by rw [HGd.out.2 q HTq.out, if_pos hok])
          have HB2 := Lib.hid hb
          clear hok hb HP
          go_wp2_with fail
          go_ret2
          refine ⟨HB1.out.andThen (HB.out.andThen HB2.out), .inl ⟨q, D, dc, HR.out, ?_, ?_⟩⟩
          · rw [HQl.out]; rfl
          · rw [HQl.out]; exact own_mono (own_block HO.out fun g hg => HB2.out.block g (HO.out.lt g hg).2) HB1.out.size
        · injection he with he
          subst he
          have HR := Lib.hid (show parseG l = none from by rw [HGd.out.2 q HTq.out, if_neg hno])
          have HB2 := Lib.hid hb
          have HV := Lib.hid hv
          have HC := Lib.hid hc
          clear hno hb HP hv hc
          go_wp2_with fail
          go_ret2
          refine ⟨HB1.out.andThen (HB.out.andThen HB2.out), .inr ⟨HR.out, cc, a, s, g, rfl, HV.out, ?_, fun h => by rw [← HPs.out, HTq.out] at h; cases h⟩⟩
          rcases HC.out with h | h | h
          · exact .inl h
          · exact .inr (.inr (.inl h))
          · exact .inr (.inr (.inr h))
end Go.Proofs.YtapledphhfiimaaGreatDoor
/-
  Texts joined at any byte; the walk of prog.Text.
-/
namespace Go.Proofs.YtapledphhfiimaaGreatDoor
open Go.RowKit Go.Proofs.YtapledphhfiimaaGreatDoor.Pg
attribute [local go_sem ↓] Go.wp_at_zero Go.wp_at_succ
set_option maxRecDepth 100000
set_option linter.unusedVariables false

theorem tailC_len (c : UInt8) : ∀ (r : List (List UInt8)) (M : Nat), (∀ b ∈ r, b.length ≤ M) → (Lib.joinTail [c] r).length ≤ r.length * (M + 1)
  | [], M, _ => Nat.zero_le _
  | x :: r, M, h => by
    have h1 := tailC_len c r M (fun b hb => h b (List.mem_cons_of_mem _ hb))
    have h2 := h x (List.mem_cons_self ..)
    unfold Lib.joinTail at h1 ⊢
    rw [List.map_cons, List.flatten_cons, List.length_append, List.length_cons, List.length_append]
    simp only [List.length_cons, List.length_nil]
    rw [Nat.add_mul (r.length) 1 (M + 1)]
    omega
theorem joinC_len (c : UInt8) (r : List (List UInt8)) (M : Nat) (h : ∀ b ∈ r, b.length ≤ M) : (Lib.join r [c]).length ≤ r.length * (M + 1) := by
  rcases r with _ | ⟨x, r⟩
  · exact Nat.zero_le _
  · have h1 := tailC_len c r M (fun b hb => h b (List.mem_cons_of_mem _ hb))
    have h2 := h x (List.mem_cons_self ..)
    rw [Lib.join_cons, List.length_append, List.length_cons, Nat.add_mul r.length 1 (M + 1)]
    omega
/-- strings.Join at one byte. -/
theorem JoinC_any (S : List (List UInt8)) (cc : UInt8) (A : Option Addr) (n c : Nat) (w : World) (hl : S.length = n) (hn : n ≤ 10000) (hnc : n ≤ c) (hs : Sl w 1 A n (S.map fun x => Value.string (bz x))) (hlt : ∀ x : Addr, A = some x → x.block < w.heap.size) (hsz : ∀ b ∈ S, b.length ≤ 100000) :
    Calls Tryz.prog 70 #[.slice A n c, .string ⟨#[cc]⟩] w fun e w' => e = .returned (.string (bz (Lib.join S [cc]))) ∧ Below w.heap.size w w' := by
  rcases Nat.eq_zero_or_pos n with h0 | h0
  · subst h0
    obtain rfl := List.eq_nil_of_length_eq_zero hl
    exact (strings_Join_none A c ⟨#[cc]⟩ w).mono fun e w' ⟨h1, h2⟩ => ⟨h1, by rw [h2]; exact Below.refl _ _⟩
  · obtain ⟨b, off, rfl, hc⟩ := hs.2 h0
    subst hl
    have hmap : (S.map bz).map (·.data.toList) = S := by
      rw [List.map_map]
      conv => rhs; rw [← List.map_id S]
      exact List.map_congr_left fun x _ => by simp
    have h := strings_Join b off c (S.map bz) ⟨#[cc]⟩ w (fun j x hx => hc j _ (by
      rw [List.getElem?_map] at hx ⊢
      obtain ⟨y, hy, rfl⟩ := Option.map_eq_some_iff.1 hx
      rw [hy]; rfl)) (hlt _ rfl) (by rw [List.length_map]; omega) (by rw [List.length_map]; exact hnc) (by
      have h1 := joinC_len cc S 100000 hsz
      show (Lib.join ((S.map bz).map (·.data.toList)) [cc]).length ≤ _
      rw [hmap]
      have : S.length * (100000 + 1) ≤ 10000 * (100000 + 1) := Nat.mul_le_mul_right _ hn
      omega)
    rw [List.length_map] at h
    refine h.mono fun e w' ⟨h1, h2⟩ => ⟨?_, h2⟩
    rw [h1]
    show Ending.returned (.string ⟨(Lib.join ((S.map bz).map (·.data.toList)) [cc]).toArray⟩) = _
    rw [hmap]
theorem bz_app (l m : List UInt8) : bz l ++ bz m = bz (l ++ m) := by
  apply ByteArray.ext
  simp
theorem opL_len {o : Int × Int} (h1 : 1 ≤ o.1 ∧ o.1 ≤ 8) (h2 : i64P o.2) : (opL o).length ≤ 30 := by
  have h3 := (name_ne h1.1 h1.2).2.2.2.2
  have h4 := Lib.itoa_length_le o.2 h2.1 h2.2
  unfold opL
  rw [List.length_append]
  split
  · rw [List.length_cons]; omega
  · simp; omega
theorem own_lt {w : World} {g : Nat} {t : TypeId} {k n c m : Nat} {A : Option Addr} {xs : List Value} (h : w.ownsRow g t k (.slice A n c) m xs) {x : Addr} (hx : A = some x) : x.block < w.heap.size := by
  subst hx
  exact (h.lt x.block rfl).2
set_option maxHeartbeats 8000000 in
theorem PgText_any (p : List (Int × Int)) (A : Option Addr) (n c : Nat) (w : World) (hn : n ≤ 1000) (hs : Sl w 2 A n (Rk.cells p)) (hp : ∀ o ∈ p, (1 ≤ o.1 ∧ o.1 ≤ 8) ∧ i64P o.2) (hT : TabW w) :
    Calls Tryz.prog 30 #[.slice A n c] w fun e w' => e = .returned (.string (bz (textG p))) ∧ Below w.heap.size w w' := by
  have HS := Lib.hid hs
  have HM := Lib.hid hs.len2
  have HT := Lib.hid hT
  have HP := Lib.hid hp
  clear hs hT hp
  go_enter Tryz.func30, Tryz.ntmps30
  go_wp2_with fail
  go_loopw [3, 9] (fun lv iv wr => ∃ k : Nat, k ≤ n ∧ iv = .int .i64 (k : Int) ∧ Hid (wr.ownsRow w.heap.size 9 1 lv k (((p.take k).map opL).map fun x => Value.string (bz x))) ∧ Hid (Below w.heap.size w wr)) (fun _ iv _ => n - (intOf iv).toNat)
  case atStart => exact ⟨0, Nat.zero_le _, rfl, Lib.hid (by simpa using World.ownsRow_nil _ _ _ _), Lib.hid (Below.refl _ _)⟩
  case round =>
    obtain ⟨k, hk, rfl, HO, HB⟩ := hrel
    by_cases hlt : k < n
    · have hlt' : (k : Int) < (n : Int) := by omega
      have hk0 : (0 : Int) ≤ (k : Int) := by omega
      obtain ⟨⟨x, y⟩, he⟩ : ∃ e, p[k]? = some e := ⟨_, List.getElem?_eq_getElem (by rw [HM.out]; exact hlt)⟩
      obtain ⟨b1, off1, rfl, c0, c1⟩ := (HS.out.keep HB.out).edge hlt he
      simp only at c0 c1
      have hxy := HP.out _ (List.mem_of_getElem? he)
      simp only at hxy
      have HE := Lib.hid (show ((p.take (k + 1)).map opL).map (fun x => Value.string (bz x)) = ((p.take k).map opL).map (fun x => Value.string (bz x)) ++ [.string (bz (opL (x, y)))] from by
        obtain ⟨h1, h2⟩ := List.getElem?_eq_some_iff.1 he
        rw [List.take_succ_eq_append_getElem h1, h2, List.map_append, List.map_append]
        rfl)
      have HBa := Lib.hid (bel_alloc HB.out (Nat.le_refl _) (.cells #[.int .i64 x, .int .i64 y] 40))
      have HKo := Lib.hid (Blk.new wr 40 #[.int .i64 x, .int .i64 y])
      have HOa := Lib.hid (HO.out.alloc (.cells #[.int .i64 x, .int .i64 y] 40))
      have HNm := Lib.hid (Name_any x (wr.alloc (.cells #[.int .i64 x, .int .i64 y] 40)))
      have HTk := Lib.hid (fun W => takes_any x W)
      have HOp := Lib.hid (show opL (x, y) = nameL x ++ if takesZ x = true then 32 :: Lib.itoa y else [] from rfl)
      have hz1 := (name_ne hxy.1.1 hxy.1.2).2.2.2.2
      have HI64 := Lib.hid hxy.2
      have hz2 := itoaB_size y hxy.2
      have hs32 : (⟨#[32]⟩ : ByteArray).size = 1 := rfl
      have hznm : (bz (nameL x)).size ≤ 6 := by rw [bz_size]; exact hz1
      obtain ⟨nm, hnm⟩ : ∃ nm, nm = bz (nameL x) := ⟨_, rfl⟩
      obtain ⟨it, hit⟩ : ∃ it, it = itoaB y := ⟨_, rfl⟩
      rw [← hnm] at HNm hznm
      rw [← hit] at hz2
      have a1 : ∀ W, (Op.stringOp .add ⟨#[32]⟩ it).run Tryz.prog W = .ok (.string (⟨#[32]⟩ ++ it)) W := fun W => run_string_add_sum W _ _ (by omega)
      have a2 : ∀ W, (Op.stringOp .add nm (⟨#[32]⟩ ++ it)).run Tryz.prog W = .ok (.string (nm ++ (⟨#[32]⟩ ++ it))) W := fun W => run_string_add_sum W _ _ (by rw [ByteArray.size_append]; omega)
      cases ht : takesZ x with
      | true =>
        rw [ht] at HTk
        have HFin := Lib.hid (show nm ++ (⟨#[32]⟩ ++ it) = bz (opL (x, y)) from by
          rw [HOp.out, if_pos ht, hnm, hit, itoaB_bz, show (⟨#[32]⟩ : ByteArray) = bz [32] from rfl, bz_app, bz_app]
          rfl)
        have HIt := Lib.hid (fun W (hW : Below w.heap.size w W) => (Itoa_any y W HI64.out (HT.out.keep hW)).mono (R' := fun e w' => e = .returned (.string it) ∧ Below W.heap.size W w') fun e w' h => ⟨by rw [h.1, hit], h.2⟩)
        clear ht hxy he hz1 hz2 hs32 hznm hnm hit
        go_wp2_with (first
          | (go_at_call 67; refine HNm.out.mono ?_; clear HNm; rintro e w2 ⟨rfl, hb2⟩; have HB2 := Lib.hid (HBa.out.andThen hb2); have HO2 := Lib.hid (own_block HOa.out fun g hg => hb2.block g (HOa.out.lt g hg).2); have k0 := (HKo.out.keep hb2).cell 0; have k1 := (HKo.out.keep hb2).cell 1; simp at k0 k1; clear hb2)
          | (go_at_call 68; refine (HTk.out _).mono ?_; rintro e w3 ⟨rfl, rfl⟩)
          | (go_at_call 69; refine (HIt.out _ HB2.out).mono ?_; rintro e w4 ⟨rfl, hb4⟩; have HB4 := Lib.hid (HB2.out.andThen hb4); have HO4 := Lib.hid (own_block HO2.out fun g hg => hb4.block g (HO2.out.lt g hg).2); clear hb4)
          | (at_builtin; refine wpList_push elemStr (w0 := w) _ _ rfl rfl HO4.out HB4.out (Nat.le_refl _) rfl rfl rfl (by simp [Value.oneCell']) (by unfold lim; omega) (by unfold lim; omega) ?_; intro v6 w6 hown6 hb6; have HO6 := Lib.hid hown6; have HB6 := Lib.hid hb6; clear hown6 hb6))
        go_roundw
        case rel => exact ⟨k + 1, by omega, by go_num, Lib.hid (by rw [HE.out, ← HFin.out]; exact HO6.out), HB6⟩
        case measure => simp [intOf]; omega
      | false =>
        rw [ht] at HTk
        have HFin := Lib.hid (show nm = bz (opL (x, y)) from by
          rw [HOp.out, if_neg (by rw [ht]; decide), List.append_nil, hnm])
        clear ht hxy he hz1 hz2 hs32 hznm hnm hit a1 a2
        go_wp2_with (first
          | (go_at_call 67; refine HNm.out.mono ?_; clear HNm; rintro e w2 ⟨rfl, hb2⟩; have HB2 := Lib.hid (HBa.out.andThen hb2); have HO2 := Lib.hid (own_block HOa.out fun g hg => hb2.block g (HOa.out.lt g hg).2); have k0 := (HKo.out.keep hb2).cell 0; have k1 := (HKo.out.keep hb2).cell 1; simp at k0 k1; clear hb2)
          | (go_at_call 68; refine (HTk.out _).mono ?_; rintro e w3 ⟨rfl, rfl⟩)
          | (at_builtin; refine wpList_push elemStr (w0 := w) _ _ rfl rfl HO2.out HB2.out (Nat.le_refl _) rfl rfl rfl (by simp [Value.oneCell']) (by unfold lim; omega) (by unfold lim; omega) ?_; intro v6 w6 hown6 hb6; have HO6 := Lib.hid hown6; have HB6 := Lib.hid hb6; clear hown6 hb6))
        go_roundw
        case rel => exact ⟨k + 1, by omega, by go_num, Lib.hid (by rw [HE.out, ← HFin.out]; exact HO6.out), HB6⟩
        case measure => simp [intOf]; omega
    · obtain rfl : k = n := by omega
      have hlt' : ¬ (k : Int) < (k : Int) := by omega
      rw [List.take_of_length_le (by rw [HM.out]; exact Nat.le_refl _)] at HO
      obtain ⟨D, dc, rfl, hsl⟩ := Sl.own HO.out
      have HJ := Lib.hid (JoinC_any (p.map opL) 59 D k dc wr (by rw [List.length_map]; exact HM.out) (by omega) (own_cap HO.out).1 hsl (fun x hx => own_lt HO.out hx) (fun b hb => by
        obtain ⟨o, ho, rfl⟩ := List.mem_map.1 hb
        have := HP.out o ho
        have := opL_len this.1 this.2
        omega))
      clear hsl
      go_wp2_with (go_at_call 70; refine HJ.out.mono ?_; clear HJ; rintro e w2 ⟨rfl, hb2⟩; have HB2 := Lib.hid (HB.out.andThen hb2); clear hb2)
      go_ret
      exact ⟨rfl, HB2.out⟩
end Go.Proofs.YtapledphhfiimaaGreatDoor
/-
  A pattern's text tells the pattern (plain).
-/
namespace Go.Proofs.YtapledphhfiimaaGreatDoor.Pt
set_option linter.unusedVariables false

def val (l : List UInt8) : Nat := l.foldl (fun a d => a * 10 + (d.toNat - 48)) 0
theorem val_snoc (l : List UInt8) (d : UInt8) : val (l ++ [d]) = val l * 10 + (d.toNat - 48) := by simp [val]
theorem dig_nat {u : Nat} (h : u < 10) : (UInt8.ofNat (48 + u)).toNat = 48 + u := by
  rw [UInt8.toNat_ofNat']
  omega
theorem val_dec (u : Nat) : val (Lib.decDigits u) = u := by
  rw [Lib.decDigits]
  split
  · rename_i h
    show 0 * 10 + ((UInt8.ofNat (48 + u)).toNat - 48) = u
    rw [dig_nat h]
    omega
  · rw [val_snoc, val_dec (u / 10), dig_nat (Nat.mod_lt _ (by omega))]
    omega
termination_by u
decreasing_by omega
theorem dec_dig (u : Nat) : ∀ d ∈ Lib.decDigits u, 48 ≤ d.toNat ∧ d.toNat ≤ 57 := by
  rw [Lib.decDigits]
  split
  · rename_i h
    intro d hd
    obtain rfl := List.mem_singleton.1 hd
    rw [dig_nat h]
    omega
  · intro d hd
    rcases List.mem_append.1 hd with hd | hd
    · exact dec_dig (u / 10) d hd
    · obtain rfl := List.mem_singleton.1 hd
      rw [dig_nat (Nat.mod_lt _ (by omega))]
      omega
termination_by u
decreasing_by omega
theorem dec_ne (u : Nat) : Lib.decDigits u ≠ [] := by
  rw [Lib.decDigits]
  split <;> simp
theorem itoa_pos {x : Int} (h : 0 ≤ x) : Lib.itoa x = Lib.decDigits x.toNat := by unfold Lib.itoa; rw [if_neg (by omega)]
theorem itoa_inj {x y : Int} (hx : 0 ≤ x) (hy : 0 ≤ y) (h : Lib.itoa x = Lib.itoa y) : x = y := by
  rw [itoa_pos hx, itoa_pos hy] at h
  have := congrArg val h
  rw [val_dec, val_dec] at this
  omega
theorem itoa_dig {x : Int} (h : 0 ≤ x) : ∀ d ∈ Lib.itoa x, 48 ≤ d.toNat ∧ d.toNat ≤ 57 := by rw [itoa_pos h]; exact dec_dig _
theorem itoa_ne {x : Int} (h : 0 ≤ x) : Lib.itoa x ≠ [] := by rw [itoa_pos h]; exact dec_ne _

theorem split_at {s : UInt8} : ∀ {a b c d : List UInt8}, s ∉ a → s ∉ c → a ++ s :: b = c ++ s :: d → a = c ∧ b = d
  | [], b, [], d, _, _, h => ⟨rfl, by simpa using h⟩
  | [], b, x :: c, d, _, hc, h => by
    simp only [List.nil_append, List.cons_append, List.cons.injEq] at h
    exact absurd (List.mem_cons.2 (.inl h.1)) hc
  | x :: a, b, [], d, ha, _, h => by
    simp only [List.nil_append, List.cons_append, List.cons.injEq] at h
    exact absurd (List.mem_cons.2 (.inl h.1.symm)) ha
  | x :: a, b, y :: c, d, ha, hc, h => by
    simp only [List.cons_append, List.cons.injEq] at h
    obtain ⟨h1, h2⟩ := split_at (fun hm => ha (List.mem_cons_of_mem _ hm)) (fun hm => hc (List.mem_cons_of_mem _ hm)) h.2
    exact ⟨by rw [h.1, h1], h2⟩
theorem tail_inj {s : UInt8} : ∀ (r t : List (List UInt8)) (x y : List UInt8), (∀ b ∈ x :: r, s ∉ b) → (∀ b ∈ y :: t, s ∉ b) → x ++ Lib.joinTail [s] r = y ++ Lib.joinTail [s] t → x = y ∧ r = t
  | [], [], x, y, _, _, h => ⟨by simpa [Lib.joinTail] using h, rfl⟩
  | [], z :: t, x, y, hx, _, h => by
    exfalso
    refine hx x (List.mem_cons_self ..) ?_
    have : x = y ++ (s :: (z ++ Lib.joinTail [s] t)) := by simpa [Lib.joinTail] using h
    rw [this]
    simp
  | w :: r, [], x, y, _, hy, h => by
    exfalso
    refine hy y (List.mem_cons_self ..) ?_
    have : x ++ (s :: (w ++ Lib.joinTail [s] r)) = y := by simpa [Lib.joinTail] using h
    rw [← this]
    simp
  | w :: r, z :: t, x, y, hx, hy, h => by
    have h' : x ++ s :: (w ++ Lib.joinTail [s] r) = y ++ s :: (z ++ Lib.joinTail [s] t) := by simpa [Lib.joinTail] using h
    obtain ⟨h1, h2⟩ := split_at (hx x (List.mem_cons_self ..)) (hy y (List.mem_cons_self ..)) h'
    obtain ⟨h3, h4⟩ := tail_inj r t w z (fun b hb => hx b (List.mem_cons_of_mem _ hb)) (fun b hb => hy b (List.mem_cons_of_mem _ hb)) h2
    exact ⟨h1, by rw [h3, h4]⟩
theorem join_inj {s : UInt8} : ∀ (r t : List (List UInt8)), (∀ b ∈ r, b ≠ [] ∧ s ∉ b) → (∀ b ∈ t, b ≠ [] ∧ s ∉ b) → Lib.join r [s] = Lib.join t [s] → r = t
  | [], [], _, _, _ => rfl
  | [], y :: t, _, hy, h => by
    rw [Lib.join_nil, Lib.join_cons] at h
    exact absurd (List.append_eq_nil_iff.1 h.symm).1 (hy y (List.mem_cons_self ..)).1
  | x :: r, [], hx, _, h => by
    rw [Lib.join_nil, Lib.join_cons] at h
    exact absurd (List.append_eq_nil_iff.1 h).1 (hx x (List.mem_cons_self ..)).1
  | x :: r, y :: t, hx, hy, h => by
    rw [Lib.join_cons, Lib.join_cons] at h
    obtain ⟨h1, h2⟩ := tail_inj r t x y (fun b hb => (hx b hb).2) (fun b hb => (hy b hb).2) h
    rw [h1, h2]
theorem join_not {s t : UInt8} (hst : s ≠ t) : ∀ (r : List (List UInt8)), (∀ b ∈ r, t ∉ b) → t ∉ Lib.join r [s]
  | [], _ => by simp [Lib.join_nil]
  | x :: r, h => by
    rw [Lib.join_cons]
    intro hm
    rcases List.mem_append.1 hm with hm | hm
    · exact h x (List.mem_cons_self ..) hm
    · unfold Lib.joinTail at hm
      obtain ⟨l, hl, hm⟩ := List.mem_flatten.1 hm
      obtain ⟨b, hb, rfl⟩ := List.mem_map.1 hl
      rcases List.mem_append.1 hm with hm | hm
      · exact hst (List.mem_singleton.1 hm).symm
      · exact h b (List.mem_cons_of_mem _ hb) hm
theorem map_inj {α β : Type} {f : α → β} : ∀ (l m : List α), (∀ x ∈ l, ∀ y ∈ m, f x = f y → x = y) → l.map f = m.map f → l = m
  | [], [], _, _ => rfl
  | [], y :: m, _, h => by simp at h
  | x :: l, [], _, h => by simp at h
  | x :: l, y :: m, hf, h => by
    simp only [List.map_cons, List.cons.injEq] at h
    rw [hf x (List.mem_cons_self ..) y (List.mem_cons_self ..) h.1, map_inj l m (fun a ha b hb => hf a (List.mem_cons_of_mem _ ha) b (List.mem_cons_of_mem _ hb)) h.2]

def edgeL (e : Int × Int) : List UInt8 := Lib.itoa e.1 ++ 45 :: Lib.itoa e.2
theorem not_dig {x : Int} (h : 0 ≤ x) {s : UInt8} (hs : s.toNat < 48 ∨ 57 < s.toNat) : s ∉ Lib.itoa x := fun hm => by
  have := itoa_dig h s hm
  omega
theorem edgeL_not {e : Int × Int} (h1 : 0 ≤ e.1) (h2 : 0 ≤ e.2) {s : UInt8} (hs : s.toNat < 45 ∨ 57 < s.toNat) : s ∉ edgeL e := fun hm => by
  rcases List.mem_append.1 hm with hm | hm
  · exact not_dig h1 (by omega) hm
  · rcases List.mem_cons.1 hm with hm | hm
    · subst hm
      have : (45 : UInt8).toNat = 45 := rfl
      omega
    · exact not_dig h2 (by omega) hm
theorem edgeL_inj {e f : Int × Int} (h1 : 0 ≤ e.1) (h2 : 0 ≤ e.2) (h3 : 0 ≤ f.1) (h4 : 0 ≤ f.2) (h : edgeL e = edgeL f) : e = f := by
  obtain ⟨g1, g2⟩ := split_at (not_dig h1 (.inl (by decide))) (not_dig h3 (.inl (by decide))) h
  exact Prod.ext (itoa_inj h1 h3 g1) (itoa_inj h2 h4 g2)
/-- A pattern's text, as a list of bytes. -/
def textL (L : List Int) (E : List (Int × Int)) : List UInt8 := Lib.join (L.map Lib.itoa) [44] ++ 124 :: Lib.join (E.map edgeL) [44]
theorem textL_inj {L L' : List Int} {E E' : List (Int × Int)} (hL : ∀ x ∈ L, 0 ≤ x) (hL' : ∀ x ∈ L', 0 ≤ x) (hE : ∀ e ∈ E, 0 ≤ e.1 ∧ 0 ≤ e.2) (hE' : ∀ e ∈ E', 0 ≤ e.1 ∧ 0 ≤ e.2)
    (h : textL L E = textL L' E') : L = L' ∧ E = E' := by
  have n1 : ∀ (M : List Int), (∀ x ∈ M, 0 ≤ x) → (124 : UInt8) ∉ Lib.join (M.map Lib.itoa) [44] := fun M hM => join_not (by decide) _ fun b hb => by
    obtain ⟨x, hx, rfl⟩ := List.mem_map.1 hb
    exact not_dig (hM x hx) (.inr (by decide))
  obtain ⟨h1, h2⟩ := split_at (n1 L hL) (n1 L' hL') h
  have n2 : ∀ (M : List Int), (∀ x ∈ M, 0 ≤ x) → ∀ b ∈ M.map Lib.itoa, b ≠ [] ∧ (44 : UInt8) ∉ b := fun M hM b hb => by
    obtain ⟨x, hx, rfl⟩ := List.mem_map.1 hb
    exact ⟨itoa_ne (hM x hx), not_dig (hM x hx) (.inl (by decide))⟩
  have n3 : ∀ (M : List (Int × Int)), (∀ e ∈ M, 0 ≤ e.1 ∧ 0 ≤ e.2) → ∀ b ∈ M.map edgeL, b ≠ [] ∧ (44 : UInt8) ∉ b := fun M hM b hb => by
    obtain ⟨x, hx, rfl⟩ := List.mem_map.1 hb
    exact ⟨by unfold edgeL; simp, edgeL_not (hM x hx).1 (hM x hx).2 (.inl (by decide))⟩
  exact ⟨map_inj _ _ (fun x hx y hy => itoa_inj (hL x hx) (hL' y hy)) (join_inj _ _ (n2 L hL) (n2 L' hL') h1), map_inj _ _ (fun e he f hf => edgeL_inj (hE e he).1 (hE e he).2 (hE' f hf).1 (hE' f hf).2) (join_inj _ _ (n3 E hE) (n3 E' hE') h2)⟩
theorem textB_list (L : List Int) (E : List (Int × Int)) : (textB L E).data.toList = textL L E := by
  have e1 : (L.map itoaB).map (·.data.toList) = L.map Lib.itoa := by
    rw [List.map_map]
    exact List.map_congr_left fun x _ => by simp
  have e2 : (E.map edgeB).map (·.data.toList) = E.map edgeL := by
    rw [List.map_map]
    exact List.map_congr_left fun e _ => by simp [edgeB, edgeL]
  unfold textB joinB textL
  rw [e1, e2]
  simp
theorem textB_inj {L L' : List Int} {E E' : List (Int × Int)} (hL : ∀ x ∈ L, 0 ≤ x) (hL' : ∀ x ∈ L', 0 ≤ x) (hE : ∀ e ∈ E, 0 ≤ e.1 ∧ 0 ≤ e.2) (hE' : ∀ e ∈ E', 0 ≤ e.1 ∧ 0 ≤ e.2) :
    textB L E = textB L' E' ↔ L = L' ∧ E = E' := by
  constructor
  · intro h
    refine textL_inj hL hL' hE hE' ?_
    rw [← textB_list, ← textB_list, h]
  · rintro ⟨rfl, rfl⟩
    rfl
end Go.Proofs.YtapledphhfiimaaGreatDoor.Pt
/-
  The document's numbers as texts: Num, num.
-/
namespace Go.Proofs.YtapledphhfiimaaGreatDoor
open Go.RowKit
set_option maxRecDepth 100000
set_option linter.unusedVariables false

def decB (u : Nat) : ByteArray := ⟨(Lib.decDigits u).toArray⟩
theorem decB_step {u : Nat} (h : 10 ≤ u) : decB (u / 10) ++ decB (u % 10) = decB u := by
  have e : Lib.decDigits u = Lib.decDigits (u / 10) ++ Lib.decDigits (u % 10) := by
    conv => lhs; rw [Lib.decDigits, dif_neg (by omega)]
    congr 1
    rw [Lib.decDigits, dif_pos (Nat.mod_lt _ (by omega))]
  unfold decB
  rw [e]
  apply ByteArray.ext
  simp
theorem decB_one {u : Nat} (h : u < 10) : decB u = ⟨#[UInt8.ofNat (48 + u)]⟩ := by
  unfold decB
  rw [Lib.decDigits, dif_pos h]
theorem strOf_one {u : Nat} (h : u < 10) : strOfNums [((48 + u : Nat) : Int)] = decB u := by
  rw [decB_one h]
  unfold strOfNums
  simp only [List.map_cons, List.map_nil, Int.toNat_natCast]
set_option linter.unnecessarySimpa false in
theorem conv_one (w : World) (u : Nat) (h : u < 10) : (convert 142 9 (.slice (some ⟨w.heap.size, 0, none⟩) 1 1)).run Tryz.prog (w.alloc (.cells #[.int .u8 ((48 + u : Nat) : Int)] 5)) = .ok (.string (decB u)) (w.alloc (.cells #[.int .u8 ((48 + u : Nat) : Int)] 5)) := by
  rw [← strOf_one h]
  refine run_convert_bytes_arg (P := Tryz.prog) _ 142 5 Tryz.underlying142 Tryz.underlying5 _ 0 1 1 [((48 + u : Nat) : Int)] rfl (fun i hi => ?_) 9 Tryz.underlying9
  obtain rfl : i = 0 := by omega
  have c := (Blk.new w 5 #[.int .u8 ((48 + u : Nat) : Int)]).cell 0
  simpa using c

theorem decB_itoa (u : Nat) : itoaB (u : Int) = decB u := by
  unfold itoaB decB
  rw [Lib.itoa, if_neg (by omega), Int.toNat_natCast]
theorem decB_size {u : Nat} (h : u ≤ 9223372036854775807) : (decB u).size ≤ 21 := by
  rw [← decB_itoa]
  exact itoaB_size _ (by unfold i64P; omega)

theorem itoa_neg {u : Nat} (h : 1 ≤ u) : itoaB (-(u : Int)) = ⟨#[45]⟩ ++ decB u := by
  unfold itoaB decB
  rw [Lib.itoa, if_pos (by omega), Int.natAbs_neg, Int.natAbs_natCast]
  apply ByteArray.ext
  simp
theorem itoa_neg_step {u : Nat} (h : 10 ≤ u) : itoaB (-((u / 10 : Nat) : Int)) ++ decB (u % 10) = itoaB (-(u : Int)) := by
  rw [itoa_neg (by omega), itoa_neg (by omega), ByteArray.append_assoc, decB_step h]

end Go.Proofs.YtapledphhfiimaaGreatDoor
