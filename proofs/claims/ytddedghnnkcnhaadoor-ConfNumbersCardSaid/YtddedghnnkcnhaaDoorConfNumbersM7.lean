/-
  Part 7 of the proof of ConfNumbers: PgB, PgC, ConfR, CfA, Chain, Chain2.
-/
import Derived.Test.YtddedghnnkcnhaaDoorConfNumbersM5
import Derived.Test.YtddedghnnkcnhaaDoorConfNumbersM6
import Derived.Test.YtddedghnnkcnhaaDoorConfNumbersM1
import Derived.Deep.LoopGhost
/-
  Programs of tests: walks of number, test, Parse.
-/
namespace Go.Proofs.YtddedghnnkcnhaaDoor
open Go.RowKit Go.Proofs.YtddedghnnkcnhaaDoor.Pg
attribute [local go_sem ↓] Go.wp_at_zero Go.wp_at_succ
set_option maxRecDepth 100000
set_option linter.unusedVariables false

theorem split_len_le (c : UInt8) : ∀ (s x : List UInt8), x ∈ Tx.split1 c s → x.length ≤ s.length
  | [], x, h => by
    rw [Tx.split1] at h
    rw [List.mem_singleton.1 h]
    exact Nat.le_refl _
  | b :: l, x, h => by
    have ih := split_len_le c l
    unfold Tx.split1 at h
    split at h
    · rcases List.mem_cons.1 h with rfl | h
      · exact Nat.zero_le _
      · have := ih x h
        rw [List.length_cons]
        omega
    · split at h
      · rw [List.mem_singleton.1 h]
        simp
      · rename_i y r hy
        rcases List.mem_cons.1 h with rfl | h
        · have := ih y (by rw [hy]; exact List.mem_cons_self ..)
          simp only [List.length_cons]
          omega
        · have := ih x (by rw [hy]; exact List.mem_cons_of_mem _ h)
          rw [List.length_cons]
          omega
theorem cut_len_le (c : UInt8) (s : List UInt8) : (Tx.cut1 c s).1.length ≤ s.length ∧ (Tx.cut1 c s).2.1.length ≤ s.length := by
  rcases Tx.cut1_cases c s with ⟨_, h⟩ | ⟨a, b, rfl, _, h⟩
  · rw [h]; simp
  · rw [h]; simp; omega
theorem itoaB_bz (v : Int) : itoaB v = bz (Lib.itoa v) := rfl
theorem bz_beq (l m : List UInt8) : ((bz l).toList == (bz m).toList) = decide (l = m) := by
  rw [bz_toList, bz_toList]
  by_cases h : l = m
  · simp [h]
  · rw [decide_eq_false h]
    simpa using h
/-- What a number's walk answers. -/
def NumRes (o : Option Int) (w : World) (e : Ending) (w' : World) : Prop :=
  ∃ (z : Int) (b : Bool), e = .returned (.tuple #[.int .i64 z, .bool b]) ∧ Below w.heap.size w w' ∧ ((o = some z ∧ b = true) ∨ (o = none ∧ b = false))
set_option maxHeartbeats 4000000 in
theorem PgNumber_any (l : List UInt8) (w : World) (hs : l.length ≤ 1000000) (hL : LibW w) (hT : TabW w) :
    Calls Tryd.prog 37 #[.string (bz l)] w (NumRes (numP 6 l) w) := by
  have HA := Lib.hid (Atoi_any l w hs hL)
  have HT := Lib.hid hT
  obtain ⟨m, hm⟩ : ∃ m, m = l.length := ⟨_, rfl⟩
  have hsz : (bz l).size = m := by rw [bz_size, hm]
  have HNum := Lib.hid (show ∀ v, Lib.atoiAll l = .ok v → numP 6 l = if m ≤ 6 ∧ Lib.itoa v = l ∧ 0 ≤ v then some v else none from fun v h => by
    unfold numP
    rw [h, hm])
  have HNone := Lib.hid (show (∀ v, Lib.atoiAll l ≠ .ok v) → numP 6 l = none from fun h => by
    unfold numP
    split
    · rename_i v hv
      exact absurd hv (h v)
    · rfl)
  have HBd := Lib.hid (fun v (h : Lib.atoiAll l = .ok v) => Lib.atoiAll_bounds h)
  have HBq := Lib.hid (fun v => bz_beq (Lib.itoa v) l)
  obtain ⟨S, hS⟩ : ∃ S, S = bz l := ⟨_, rfl⟩
  rw [← hS] at HA hsz HBq ⊢
  clear hL hT hm hS hs
  go_enter Tryd.func37, Tryd.ntmps37
  go_upto_region 2 with (go_at_call 24; refine HA.out.mono ?_; clear HA; rintro e w1 ⟨hb1, hp⟩; obtain ⟨z, x, hev⟩ : ∃ z x, e = .returned (.tuple #[.int .i64 z, x]) := (by rcases hp with ⟨_, _, h⟩ | ⟨_, _, _, _, h⟩ <;> exact ⟨_, _, h⟩); subst hev; have HB1 := Lib.hid hb1; have HP := Lib.hid hp; clear hb1 hp)
  rcases HP.out with ⟨v, hv, he⟩ | ⟨hno, z', T, y, he⟩
  · obtain ⟨rfl, rfl⟩ : z = v ∧ x = .nilIface := by simpa using he
    have hn := HNum.out z hv
    have hbd := HBd.out z hv
    have HI := Lib.hid (Itoa_any z w1 (by unfold i64P; omega) (HT.out.keep HB1.out))
    have hbq := HBq.out z
    rw [← itoaB_bz] at hbq
    clear he HP HNum HNone HBd HBq hv hbd
    by_cases h6 : m ≤ 6
    · have h6' : (m : Int) ≤ 6 := by omega
      by_cases hi : Lib.itoa z = l
      · rw [decide_eq_true hi] at hbq
        obtain ⟨t, ht⟩ : ∃ t, t = itoaB z := ⟨_, rfl⟩
        rw [← ht] at HI hbq
        by_cases h0 : 0 ≤ z
        · have HR := Lib.hid (show numP 6 l = some z from by rw [hn, if_pos ⟨h6, hi, h0⟩])
          clear hn hi ht
          go_wp2_with (go_at_call 25; refine HI.out.mono ?_; rintro e w2 ⟨rfl, hb2⟩; have HB2 := Lib.hid (HB1.out.andThen hb2); clear hb2)
          go_ret2
          exact ⟨z, true, rfl, HB2.out, .inl ⟨HR.out, rfl⟩⟩
        · have HR := Lib.hid (show numP 6 l = none from by rw [hn, if_neg (fun h => h0 h.2.2)])
          have h0' : decide (0 ≤ z) = false := decide_eq_false h0
          clear hn hi ht
          go_wp2_with (go_at_call 25; refine HI.out.mono ?_; rintro e w2 ⟨rfl, hb2⟩; have HB2 := Lib.hid (HB1.out.andThen hb2); clear hb2)
          go_ret2
          exact ⟨z, false, rfl, HB2.out, .inr ⟨HR.out, rfl⟩⟩
      · rw [decide_eq_false hi] at hbq
        obtain ⟨t, ht⟩ : ∃ t, t = itoaB z := ⟨_, rfl⟩
        rw [← ht] at HI hbq
        have HR := Lib.hid (show numP 6 l = none from by rw [hn, if_neg (fun h => hi h.2.1)])
        clear hn hi ht
        go_wp2_with (go_at_call 25; refine HI.out.mono ?_; rintro e w2 ⟨rfl, hb2⟩; have HB2 := Lib.hid (HB1.out.andThen hb2); clear hb2)
        go_ret2
        exact ⟨z, false, rfl, HB2.out, .inr ⟨HR.out, rfl⟩⟩
    · have h6' : ¬ (m : Int) ≤ 6 := by omega
      have HR := Lib.hid (show numP 6 l = none from by rw [hn, if_neg (fun h => h6 h.1)])
      clear hn hbq HI
      go_wp2_with fail
      go_ret2
      exact ⟨z, false, rfl, HB1.out, .inr ⟨HR.out, rfl⟩⟩
  · obtain ⟨rfl, rfl⟩ : z = z' ∧ x = .iface T y := by simpa using he
    have HR := Lib.hid (HNone.out hno)
    clear he HP HNum HNone HBd HBq hno
    go_wp2_with fail
    go_ret2
    exact ⟨z, false, rfl, HB1.out, .inr ⟨HR.out, rfl⟩⟩
/-- What a test's text answers. -/
def TestRes (x : List UInt8) (w : World) (e : Ending) (w' : World) : Prop :=
  ∃ (k n : Int) (b : Bool), e = .returned (.tuple #[.agg #[.int .i64 k, .int .i64 n], .bool b]) ∧ Below w.heap.size w w' ∧ ((testP x = some (k, n) ∧ b = true) ∨ (testP x = none ∧ b = false))
set_option maxHeartbeats 8000000 in
theorem test_any (x : List UInt8) (w : World) (hs : x.length ≤ 1000000) (hL : LibW w) (hT : TabW w) :
    Calls Tryd.prog 22 #[.string (bz x)] w (TestRes x w) := by
  obtain ⟨nm, nn, has, hc⟩ : ∃ nm n has, Tx.cut1 32 x = (nm, n, has) := ⟨_, _, _, rfl⟩
  have hlen := cut_len_le 32 x
  have htp := testP_of hc
  have hb0 := bel_al (Below.refl w.heap.size w) (.cells #[.int .i64 0, .int .i64 0] 61)
  have HCut := Lib.hid (Cut_any x 32 (w.alloc (.cells #[.int .i64 0, .int .i64 0] 61)) hs (hL.keep hb0))
  rw [hc] at hlen HCut
  simp only at hlen HCut
  have HB0 := Lib.hid hb0
  have HKR := Lib.hid (Blk.new w 61 #[.int .i64 0, .int .i64 0])
  have HL0 := Lib.hid (hL.keep hb0)
  have HT0 := Lib.hid (hT.keep hb0)
  have HLen := Lib.hid hlen
  have HXs := Lib.hid hs
  have HTp := Lib.hid htp
  have hkb := kind_bounds nm
  clear hb0 hlen htp hc hL hT hs
  go_enter Tryd.func22, Tryd.ntmps22
  go_upto_region 2 with (go_at_call 9; refine HCut.out.mono ?_; clear HCut; rintro e w1 ⟨rfl, hb1⟩; have HB1 := Lib.hid hb1; clear hb1)
  have HKd := Lib.hid (Kind_any nm w1)
  obtain ⟨k, hk⟩ : ∃ k, k = kindZ nm := ⟨_, rfl⟩
  rw [← hk] at HKd HTp hkb
  clear hk
  go_upto_region 3 with (go_at_call 35; refine HKd.out.mono ?_; clear HKd; rintro e w2 ⟨rfl, hb2⟩; have HB2 := Lib.hid (HB1.out.andThen hb2); clear hb2)
  have HKo := Lib.hid (Blk.new w2 61 #[.int .i64 k, .int .i64 0])
  have HB2' := Lib.hid (bel_al HB2.out (.cells #[.int .i64 k, .int .i64 0] 61))
  have HTk := Lib.hid (fun W => takes_any k W)
  have hne : w.heap.size ≠ w2.heap.size := by have h := HB2.out.size; simp at h; omega
  obtain ⟨w3, hw3⟩ : ∃ w3, w3 = w2.alloc (.cells #[.int .i64 k, .int .i64 0] 61) := ⟨_, rfl⟩
  rw [← hw3] at HKo HB2' ⊢
  clear hw3
  have hkr := (HKR.out.keep HB2'.out)
  have HKr := Lib.hid hkr
  have r0 := hkr.cell 0
  have r1 := hkr.cell 1
  have f0 := hkr.frozen 0
  have f1 := hkr.frozen 1
  have o0 := HKo.out.cell 0
  have o1 := HKo.out.cell 1
  have g1 := HKo.out.frozen 1
  simp at r0 r1 o0 o1
  have HNe := Lib.hid hne
  have HW3 := Lib.hid (And.intro (HL0.out.keep HB2'.out) (HT0.out.keep HB2'.out))
  clear hkr hne
  have HEnd := Lib.hid (show ∀ (V : World) (a b : Int), Blk V w.heap.size 61 #[.int .i64 0, .int .i64 0] → (((V.setCell ⟨w.heap.size, 0, none⟩ (.int .i64 a)).setCell ⟨w.heap.size, 1, none⟩ (.int .i64 b)).cell? ⟨w.heap.size, 0, none⟩ = some (.int .i64 a)) ∧ (((V.setCell ⟨w.heap.size, 0, none⟩ (.int .i64 a)).setCell ⟨w.heap.size, 1, none⟩ (.int .i64 b)).cell? ⟨w.heap.size, 1, none⟩ = some (.int .i64 b)) from fun V a b h => by
    have hx := (h.set_ 0 (.int .i64 a)).set_ 1 (.int .i64 b)
    have x0 := hx.cell 0
    have x1 := hx.cell 1
    simp at x0 x1
    exact ⟨x0, x1⟩)
  by_cases hk0 : k = 0
  · subst hk0
    have HR := Lib.hid (show testP x = none from by rw [HTp.out, if_pos (.inl rfl)])
    obtain ⟨x00, x01⟩ := HEnd.out _ 0 0 HKr.out
    go_wp2_with fail
    refine bodyPost_ret (v := .tuple #[.agg #[.int .i64 0, .int .i64 0], .bool false]) (by simp [results, Tryd.results22, go_sem, x00, x01]) rfl ?_
    exact ⟨0, 0, false, rfl, ((HB0.out.andThen HB2'.out).setCell (p := ⟨w.heap.size, 0, none⟩) (Nat.le_refl _) _).setCell (p := ⟨w.heap.size, 1, none⟩) (Nat.le_refl _) _, .inr ⟨HR.out, rfl⟩⟩
  · have hk0' : (k == 0) = false := by simpa using hk0
    by_cases hht : has = takesZ k
    · have HTe := Lib.hid hht
      rw [← hht] at HTk
      cases has with
      | true =>
        have HR := Lib.hid (show testP x = (numP 6 nn).map fun v => (k, v) from by rw [HTp.out, if_neg (fun h => h.elim hk0 fun h => h HTe.out), if_pos rfl])
        have HNm := Lib.hid (PgNumber_any nn w3 (by have := HLen.out.2; have := HXs.out; omega) HW3.out.1 HW3.out.2)
        clear hht hk0 HTp HTe
        go_upto_region 8 with (first
          | (go_at_call 36; refine (HTk.out _).mono ?_; rintro e w4 ⟨rfl, rfl⟩)
          | (go_at_call 37; refine HNm.out.mono ?_; clear HNm; rintro e w5 ⟨z, b, rfl, hb5, hz⟩; have HB5 := Lib.hid hb5; have HZ := Lib.hid hz; have HKo5 := Lib.hid (HKo.out.keep hb5); have HKr5 := Lib.hid (HKr.out.keep hb5); have p0 := HKo5.out.cell 0; have p1 := HKo5.out.cell 1; have p2 := HKo5.out.frozen 1; simp at p0 p1; clear hb5 hz))
        have hko := HKo5.out.set_ 1 (.int .i64 z)
        have q0 := hko.cell 0
        have q1 := hko.cell 1
        simp at q0 q1
        have hkr := HKr5.out.far (p := ⟨w2.heap.size, 1, none⟩) HNe.out (.int .i64 z)
        have HKr6 := Lib.hid hkr
        have r0 := hkr.cell 0
        have r1 := hkr.cell 1
        have f0 := hkr.frozen 0
        have f1 := hkr.frozen 1
        simp at r0 r1
        obtain ⟨x00, x01⟩ := HEnd.out _ k z hkr
        have HB6 := Lib.hid (show Below w.heap.size w (w5.setCell ⟨w2.heap.size, 1, none⟩ (.int .i64 z)) from ((HB0.out.andThen HB2'.out).andThen HB5.out).setCell (p := ⟨w2.heap.size, 1, none⟩) (by have h1 := HB0.out.size; have h2 := HB2.out.size; exact Nat.le_trans h1 h2) _)
        clear hko hkr
        go_wp2_with fail
        refine bodyPost_ret (v := .tuple #[.agg #[.int .i64 k, .int .i64 z], .bool b]) (by simp [results, Tryd.results22, go_sem, x00, x01]) rfl ?_
        refine ⟨k, z, b, rfl, (HB6.out.setCell (p := ⟨w.heap.size, 0, none⟩) (Nat.le_refl _) _).setCell (p := ⟨w.heap.size, 1, none⟩) (Nat.le_refl _) _, ?_⟩
        rcases HZ.out with ⟨h1, h2⟩ | ⟨h1, h2⟩
        · exact .inl ⟨by rw [HR.out, h1]; rfl, h2⟩
        · exact .inr ⟨by rw [HR.out, h1]; rfl, h2⟩
      | false =>
        have HR := Lib.hid (show testP x = some (k, 0) from by rw [HTp.out, if_neg (fun h => h.elim hk0 fun h => h HTe.out), if_neg (by decide)])
        obtain ⟨x00, x01⟩ := HEnd.out _ k 0 HKr.out
        clear hht hk0 HTp HTe
        go_wp2_with (go_at_call 36; refine (HTk.out _).mono ?_; rintro e w4 ⟨rfl, rfl⟩)
        refine bodyPost_ret (v := .tuple #[.agg #[.int .i64 k, .int .i64 0], .bool true]) (by simp [results, Tryd.results22, go_sem, x00, x01]) rfl ?_
        exact ⟨k, 0, true, rfl, ((HB0.out.andThen HB2'.out).setCell (p := ⟨w.heap.size, 0, none⟩) (Nat.le_refl _) _).setCell (p := ⟨w.heap.size, 1, none⟩) (Nat.le_refl _) _, .inl ⟨HR.out, rfl⟩⟩
    · have HR := Lib.hid (show testP x = none from by rw [HTp.out, if_pos (.inr hht)])
      have hx : (has == takesZ k) = false := by simpa using hht
      obtain ⟨x00, x01⟩ := HEnd.out _ 0 0 HKr.out
      obtain ⟨tk, htk⟩ : ∃ tk, tk = takesZ k := ⟨_, rfl⟩
      rw [← htk] at HTk hx
      clear hht hk0 HTp htk
      go_wp2_with (go_at_call 36; refine (HTk.out _).mono ?_; rintro e w4 ⟨rfl, rfl⟩)
      refine bodyPost_ret (v := .tuple #[.agg #[.int .i64 0, .int .i64 0], .bool false]) (by simp [results, Tryd.results22, go_sem, x00, x01]) rfl ?_
      exact ⟨0, 0, false, rfl, ((HB0.out.andThen HB2'.out).setCell (p := ⟨w.heap.size, 0, none⟩) (Nat.le_refl _) _).setCell (p := ⟨w.heap.size, 1, none⟩) (Nat.le_refl _) _, .inr ⟨HR.out, rfl⟩⟩
/-- What Parse answers. -/
def ParseRes (l : List UInt8) (w : World) (e : Ending) (w' : World) : Prop :=
  Below w.heap.size w w' ∧ ((∃ (p : List (Int × Int)) (A : Option Addr) (c : Nat), parseG l = some p ∧ e = .returned (.tuple #[.slice A p.length c, .nilIface]) ∧ w'.ownsRow w.heap.size 61 2 (.slice A p.length c) p.length (Rk.cells p)) ∨
    (parseG l = none ∧ ∃ (c a : Int) (s : ByteArray) (g : Nat), e = .returned (.tuple #[.slice none 0 0, .iface 43 (.pointer (some ⟨g, 0, none⟩))]) ∧ (Err.flt c a s).At w' (.iface 43 (.pointer (some ⟨g, 0, none⟩))) ∧ (c = 1 ∨ c = 2 ∨ c = 3 ∨ c = 6) ∧ (testsP (Tx.split1 59 l) = none → c = 2)))
set_option maxHeartbeats 8000000 in
theorem PgParse_any (l : List UInt8) (w : World) (hs : l.length ≤ 900000) (hL : LibW w) (hT : TabW w) :
    Calls Tryd.prog 16 #[.string (bz l)] w (ParseRes l w) := by
  by_cases h0 : l = []
  · subst h0
    have hpg : parseG [] = some [] := rfl
    have HP := Lib.hid hpg
    clear hpg hL hT
    rw [show bz [] = (⟨#[]⟩ : ByteArray) from rfl]
    go_enter Tryd.func16, Tryd.ntmps16
    go_wp2_with fail
    go_ret2
    exact ⟨Below.refl _ _, .inl ⟨[], none, 0, HP.out, rfl, World.ownsRow_nil _ _ _ _⟩⟩
  · have he : (bz l).toList.isEmpty = false := by
      rw [bz_empty]
      cases l with
      | nil => exact absurd rfl h0
      | cons a l => rfl
    have HSp := Lib.hid (Split_any l 59 w (by omega) hL)
    have HGd := Lib.hid (show (testsP (Tx.split1 59 l) = none → parseG l = none) ∧ ∀ p, testsP (Tx.split1 59 l) = some p → parseG l = if rightG p then some p else none from ⟨fun h => by unfold parseG; rw [if_neg h0, h], fun p h => by unfold parseG; rw [if_neg h0, h]⟩)
    have HLe := Lib.hid (fun x (hx : x ∈ Tx.split1 59 l) => (by have := split_len_le 59 l x hx; omega : x.length ≤ 1000000))
    obtain ⟨ps, hps⟩ : ∃ ps, ps = Tx.split1 59 l := ⟨_, rfl⟩
    rw [← hps] at HSp HGd HLe
    have HPs := Lib.hid hps
    obtain ⟨N, hN⟩ : ∃ N, N = ps.length := ⟨_, rfl⟩
    have hN9 : N ≤ 900001 := by
      rw [hN, hps]
      have h := Cf.split_len 59 l
      have h2 := List.count_le_length (a := (59 : UInt8)) (l := l)
      omega
    have HN := Lib.hid hN.symm
    rw [← hN] at HSp
    have HL0 := Lib.hid hL
    have HT0 := Lib.hid hT
    obtain ⟨S, hS⟩ : ∃ S, S = bz l := ⟨_, rfl⟩
    rw [← hS] at he HSp ⊢
    clear hS hN hps hL hT h0 hs
    go_enter Tryd.func16, Tryd.ntmps16
    go_wp2_with (go_at_call 21; refine HSp.out.mono ?_; clear HSp; rintro e w1 ⟨rfl, hs1, hb1⟩; have HS1 := Lib.hid hs1; have HB1 := Lib.hid hb1; clear hs1 hb1)
    go_loopw [4, 15] (fun pv iv wr => ∃ (k : Nat) (q : List (Int × Int)), k ≤ N ∧ iv = .int .i64 (k : Int) ∧ Hid (q.length = k) ∧ Hid (testsP ps = (testsP (ps.drop k)).map (q ++ ·)) ∧ Hid (wr.ownsRow w1.heap.size 61 2 pv k (Rk.cells q)) ∧ Hid (Below w1.heap.size w1 wr)) (fun _ iv _ => N - (intOf iv).toNat)
    case atStart => exact ⟨0, [], Nat.zero_le _, rfl, Lib.hid rfl, Lib.hid (by rw [List.drop_zero]; cases testsP ps <;> rfl), Lib.hid (World.ownsRow_nil _ _ _ _), Lib.hid (Below.refl _ _)⟩
    case round =>
      obtain ⟨k, q, hk, rfl, HQl, HTs, HO, HB⟩ := hrel
      by_cases hlt : k < N
      · have hlt' : (k : Int) < (N : Int) := by omega
        have hk0 : (0 : Int) ≤ (k : Int) := by omega
        obtain ⟨x, hx⟩ : ∃ x, ps[k]? = some x := ⟨_, List.getElem?_eq_getElem (by rw [HN.out]; exact hlt)⟩
        have c1 := (HS1.out.keep HB.out).again hlt (show (ps.map fun x => Value.string (bz x))[k]? = some (.string (bz x)) by rw [List.getElem?_map, hx]; rfl)
        rw [Nat.zero_add] at c1
        have hdr : ps.drop k = x :: ps.drop (k + 1) := by
          obtain ⟨h1, h2⟩ := List.getElem?_eq_some_iff.1 hx
          rw [List.drop_eq_getElem_cons h1, h2]
        have HTst := Lib.hid (test_any x wr (HLe.out x (List.mem_of_getElem? hx)) (HL0.out.keep (HB1.out.andThen HB.out)) (HT0.out.keep (HB1.out.andThen HB.out)))
        have HSt := Lib.hid (show (testP x = none → testsP (ps.drop k) = none) ∧ ∀ o, testP x = some o → testsP (ps.drop k) = (testsP (ps.drop (k + 1))).map (o :: ·) from ⟨fun h => by rw [hdr, testsP, h], fun o h => by rw [hdr, testsP, h]⟩)
        obtain ⟨X, hX⟩ : ∃ X, X = bz x := ⟨_, rfl⟩
        rw [← hX] at c1 HTst
        clear hx hdr hX
        go_upto_region 8 with (go_at_call 22; refine HTst.out.mono ?_; clear HTst; rintro e w2 ⟨tk, tn, b, rfl, hb2, ht2⟩; have HB2 := Lib.hid (HB.out.andThen hb2); have HT2 := Lib.hid ht2; have HO2 := Lib.hid (own_block HO.out fun g hg => hb2.block g (HO.out.lt g hg).2); clear hb2 ht2)
        rcases HT2.out with ⟨ht, rfl⟩ | ⟨ht, rfl⟩
        · have HNx := Lib.hid (show testsP ps = (testsP (ps.drop (k + 1))).map ((q ++ [(tk, tn)]) ++ ·) from by
            rw [HTs.out, HSt.out.2 _ ht]
            cases testsP (ps.drop (k + 1)) with
            | none => rfl
            | some r => simp)
          have HOa := Lib.hid (HO2.out.alloc (.cells #[.int .i64 tk, .int .i64 tn] 61))
          have HBa := Lib.hid (bel_alloc HB2.out (Nat.le_refl _) (.cells #[.int .i64 tk, .int .i64 tn] 61))
          clear ht HT2
          go_wp2_with (at_builtin; refine wpList_push elemOp (w0 := w1) _ _ rfl rfl HOa.out HBa.out (Nat.le_refl _) rfl (congrArg (fun z => Value.slice (some ⟨z, 0, none⟩) 1 1) (World.size_alloc w2 (.cells #[.int .i64 tk, .int .i64 tn] 61)).symm) rfl (by simp [Value.oneCell']) (by unfold lim; omega) (by unfold lim; omega) ?_; intro v4 w4 hown4 hb4; have HO4 := Lib.hid hown4; have HB4 := Lib.hid hb4; clear hown4 hb4)
          go_roundw
          case rel => exact ⟨k + 1, q ++ [(tk, tn)], by omega, by go_num, Lib.hid (by rw [List.length_append, HQl.out]; rfl), HNx, Lib.hid (by rw [Rk.cells_snoc]; exact HO4.out), HB4⟩
          case measure => simp [intOf]; omega
        · have HNo := Lib.hid (show parseG l = none from by
            exact HGd.out.1 (by rw [HTs.out, HSt.out.1 ht]; rfl))
          clear ht HT2
          go_wp2_with (go_at_call 8; refine (New_err _ _ _ _).mono ?_; rintro e w3 ⟨v3, rfl, ⟨g3, rfl, hv3⟩, hb3⟩; have HB3 := Lib.hid hb3; have HV3 := Lib.hid hv3; clear hb3 hv3)
          go_ret2
          exact ⟨HB1.out.andThen ((bel_alloc HB2.out (Nat.le_refl _) _).andThen HB3.out), .inr ⟨HNo.out, 2, _, _, g3, rfl, ⟨g3, rfl, HV3.out⟩, .inr (.inl rfl), fun _ => rfl⟩⟩
      · obtain rfl : k = N := by omega
        have hlt' : ¬ (k : Int) < (k : Int) := by omega
        have HTq := Lib.hid (show testsP ps = some q from by
          rw [HTs.out, List.drop_of_length_le (by rw [HN.out]; exact Nat.le_refl _)]
          simp [testsP])
        obtain ⟨D, dc, rfl, hsl⟩ := Sl.own HO.out
        have HRt := Lib.hid (ProgRight_any q D k dc wr (by omega) hsl)
        clear hsl
        go_upto_region 13 with (go_at_call 23; refine HRt.out.mono ?_; clear HRt; intro e w2 hp; obtain ⟨ev, hev⟩ : ∃ ev, e = .returned ev := (by rcases hp with ⟨_, h, _⟩ | ⟨_, _, _, _, _, h, _⟩ <;> exact ⟨_, h⟩); subst hev; have HP := Lib.hid hp; clear hp)
        rcases HP.out with ⟨hok, he, hb⟩ | ⟨hno, cc, a, s, g, he, hv, hb, hc⟩
        · injection he with he
          subst he
          have HR := Lib.hid (show parseG l = some q from by rw [HGd.out.2 q HTq.out, if_pos hok])
          have HB2 := Lib.hid hb
          clear hok hb HP
          go_wp2_with fail
          go_ret2
          refine ⟨HB1.out.andThen (HB.out.andThen HB2.out), .inl ⟨q, D, dc, HR.out, ?_, ?_⟩⟩
          · rw [HQl.out]; rfl
          · rw [HQl.out]; exact own_mono (own_block HO.out fun g hg => HB2.out.block g (HO.out.lt g hg).2) HB1.out.size
        · injection he with he
          subst he
          have HR := Lib.hid (show parseG l = none from by rw [HGd.out.2 q HTq.out, if_neg hno])
          have HB2 := Lib.hid hb
          have HV := Lib.hid hv
          have HC := Lib.hid hc
          clear hno hb HP hv hc
          go_wp2_with fail
          go_ret2
          refine ⟨HB1.out.andThen (HB.out.andThen HB2.out), .inr ⟨HR.out, cc, a, s, g, rfl, HV.out, ?_, fun h => by rw [← HPs.out, HTq.out] at h; cases h⟩⟩
          rcases HC.out with h | h | h
          · exact .inl h
          · exact .inr (.inr (.inl h))
          · exact .inr (.inr (.inr h))
end Go.Proofs.YtddedghnnkcnhaaDoor
/-
  Texts joined at any byte; the walk of prog.Text.
-/
namespace Go.Proofs.YtddedghnnkcnhaaDoor
open Go.RowKit Go.Proofs.YtddedghnnkcnhaaDoor.Pg
attribute [local go_sem ↓] Go.wp_at_zero Go.wp_at_succ
set_option maxRecDepth 100000
set_option linter.unusedVariables false

theorem tailC_len (c : UInt8) : ∀ (r : List (List UInt8)) (M : Nat), (∀ b ∈ r, b.length ≤ M) → (Lib.joinTail [c] r).length ≤ r.length * (M + 1)
  | [], M, _ => Nat.zero_le _
  | x :: r, M, h => by
    have h1 := tailC_len c r M (fun b hb => h b (List.mem_cons_of_mem _ hb))
    have h2 := h x (List.mem_cons_self ..)
    unfold Lib.joinTail at h1 ⊢
    rw [List.map_cons, List.flatten_cons, List.length_append, List.length_cons, List.length_append]
    simp only [List.length_cons, List.length_nil]
    rw [Nat.add_mul (r.length) 1 (M + 1)]
    omega
theorem joinC_len (c : UInt8) (r : List (List UInt8)) (M : Nat) (h : ∀ b ∈ r, b.length ≤ M) : (Lib.join r [c]).length ≤ r.length * (M + 1) := by
  rcases r with _ | ⟨x, r⟩
  · exact Nat.zero_le _
  · have h1 := tailC_len c r M (fun b hb => h b (List.mem_cons_of_mem _ hb))
    have h2 := h x (List.mem_cons_self ..)
    rw [Lib.join_cons, List.length_append, List.length_cons, Nat.add_mul r.length 1 (M + 1)]
    omega
theorem bz_app (l m : List UInt8) : bz l ++ bz m = bz (l ++ m) := by
  apply ByteArray.ext
  simp
theorem opL_len {o : Int × Int} (h1 : 1 ≤ o.1 ∧ o.1 ≤ 8) (h2 : i64P o.2) : (opL o).length ≤ 30 := by
  have h3 := (name_ne h1.1 h1.2).2.2.2.2
  have h4 := Lib.itoa_length_le o.2 h2.1 h2.2
  unfold opL
  rw [List.length_append]
  split
  · rw [List.length_cons]; omega
  · simp; omega
theorem own_lt {w : World} {g : Nat} {t : TypeId} {k n c m : Nat} {A : Option Addr} {xs : List Value} (h : w.ownsRow g t k (.slice A n c) m xs) {x : Addr} (hx : A = some x) : x.block < w.heap.size := by
  subst hx
  exact (h.lt x.block rfl).2
end Go.Proofs.YtddedghnnkcnhaaDoor
/-
  Jobs' texts plainly: which numbers each word takes.
-/
namespace Go.Proofs.YtddedghnnkcnhaaDoor.Cf
open Go Go.Proofs.YtddedghnnkcnhaaDoor.Tx Go.Proofs.YtddedghnnkcnhaaDoor.Pg
set_option linter.unusedVariables false

/-- A number's text, as the statement writes it. -/
def sgnL (n : Int) : List UInt8 := if n < 0 then [45, 48] else Lib.itoa n
theorem numP_neg (d : Nat) : numP d [45, 48] = none := by
  unfold numP
  split
  · rename_i v hv
    rw [if_neg]
    rintro ⟨_, h2, h3⟩
    have e : v = ((v.toNat : Nat) : Int) := by omega
    rw [e, itoa_nat] at h2
    have := dec_digit v.toNat 45 (by rw [h2]; simp)
    revert this
    decide
  · rfl
theorem numC_sgn {m n : Int} (hm : m ≤ 1000000) (h9 : n ≤ 9223372036854775807) : numC m (sgnL n) = if 1 ≤ n ∧ n ≤ m then some n else none := by
  unfold sgnL
  by_cases hn : n < 0
  · rw [if_pos hn, if_neg (by omega)]
    unfold numC
    rw [numP_neg]
  · rw [if_neg hn]
    by_cases hc : 1 ≤ n ∧ n ≤ m
    · rw [if_pos hc, numC_itoa hc.1 hc.2 hm]
    · rw [if_neg hc]
      have e : n = ((n.toNat : Nat) : Int) := by omega
      unfold numC
      rw [e, itoa_nat]
      by_cases hl : (Lib.decDigits n.toNat).length ≤ 7
      · rw [numP_dec (by omega) hl]
        simp only
        rw [if_neg (by omega)]
      · have : numP 7 (Lib.decDigits n.toNat) = none := by
          unfold numP
          rw [atoi_dec (by omega)]
          simp only
          rw [if_neg (fun h => hl h.1)]
        rw [this]
theorem sgn_no {n : Int} : (10 : UInt8) ∉ sgnL n := by
  unfold sgnL
  split
  · decide
  · exact itoa_no (by omega)
def mostK (k : Nat) : Int := if k = 0 then 8 else if k = 2 then 64 else 1000000
def wordK (k : Nat) : List UInt8 := if k = 0 then wSize else if k = 1 then wSupport else if k = 2 then wWorkers else wCap
def fieldK (k : Nat) (c : CF) : Int := if k = 0 then c.size else if k = 1 then c.sup else if k = 2 then c.wk else c.cap
/-- The lines of the statement. -/
def linesK (k : Nat) (n : Int) : List (List UInt8) :=
  [lineW wJob (jobL 3), lineW (wordK k) (sgnL n)] ++ (if k = 0 then [] else [lineW wSize [49]]) ++ (if k = 1 then [] else [lineW wSupport [49]])
theorem one_itoa : ([49] : List UInt8) = Lib.itoa 1 := by
  rw [show (1 : Int) = ((1 : Nat) : Int) from rfl, itoa_nat, Lib.decDigits_one (by omega)]
  rfl
theorem set_k {c : CF} {k : Nat} {n : Int} (hk : k < 4) (h3 : c.kind = 3) (h9 : n ≤ 9223372036854775807) (h1 : 1 ≤ n) (hm : n ≤ mostK k) : ∃ c', setC c (wordK k) (sgnL n) = some c' ∧ c'.kind = 3 ∧ fieldK k c' = n ∧ (∀ j, j < 4 → j ≠ k → fieldK j c' = fieldK j c) := by
  have hs : sgnL n = Lib.itoa n := by unfold sgnL; rw [if_neg (by omega)]
  rw [hs]
  rcases (show k = 0 ∨ k = 1 ∨ k = 2 ∨ k = 3 by omega) with rfl | rfl | rfl | rfl
  · exact ⟨_, set_size h1 hm, h3, rfl, fun j hj hne => by rcases (show j = 1 ∨ j = 2 ∨ j = 3 by omega) with rfl | rfl | rfl <;> rfl⟩
  · exact ⟨_, set_support h3 h1 hm, h3, rfl, fun j hj hne => by rcases (show j = 0 ∨ j = 2 ∨ j = 3 by omega) with rfl | rfl | rfl <;> rfl⟩
  · exact ⟨_, set_workers h1 hm, h3, rfl, fun j hj hne => by rcases (show j = 0 ∨ j = 1 ∨ j = 3 by omega) with rfl | rfl | rfl <;> rfl⟩
  · exact ⟨_, set_cap h1 hm, h3, rfl, fun j hj hne => by rcases (show j = 0 ∨ j = 1 ∨ j = 2 by omega) with rfl | rfl | rfl <;> rfl⟩
theorem set_k_no {c : CF} {k : Nat} {n : Int} (hk : k < 4) (h9 : n ≤ 9223372036854775807) (h : ¬ (1 ≤ n ∧ n ≤ mostK k)) : setC c (wordK k) (sgnL n) = none := by
  have hm : mostK k ≤ 1000000 := by unfold mostK; split <;> (try split) <;> omega
  have hn := numC_sgn (n := n) hm h9
  rw [if_neg h] at hn
  rcases (show k = 0 ∨ k = 1 ∨ k = 2 ∨ k = 3 by omega) with rfl | rfl | rfl | rfl
  · have hn : numC 8 (sgnL n) = none := hn
    show setC c wSize (sgnL n) = none
    unfold setC
    rw [if_neg (by decide), if_neg (by decide), if_neg (by decide), if_pos rfl, hn]
    rfl
  · have hn : numC 1000000 (sgnL n) = none := hn
    show setC c wSupport (sgnL n) = none
    unfold setC
    rw [if_neg (by decide), if_neg (by decide), if_pos rfl, hn]
    split <;> rfl
  · have hn : numC 64 (sgnL n) = none := hn
    show setC c wWorkers (sgnL n) = none
    unfold setC
    rw [if_neg (by decide), if_neg (by decide), if_neg (by decide), if_neg (by decide), if_pos rfl, hn]
    rfl
  · have hn : numC 1000000 (sgnL n) = none := hn
    show setC c wCap (sgnL n) = none
    unfold setC
    rw [if_neg (by decide), if_neg (by decide), if_neg (by decide), if_neg (by decide), if_neg (by decide), if_pos rfl, hn]
    rfl
theorem wordK_no {k : Nat} (hk : k < 4) : (32 : UInt8) ∉ wordK k ∧ (10 : UInt8) ∉ wordK k ∧ wordK k ∉ [wJob] ∧ wordK k ≠ wJob ∧ (k ≠ 0 → wSize ≠ wordK k) ∧ (k ≠ 1 → wSupport ≠ wordK k) := by
  rcases (show k = 0 ∨ k = 1 ∨ k = 2 ∨ k = 3 by omega) with rfl | rfl | rfl | rfl <;> decide
/-- Which numbers each word takes, and where one that it doesn't is told. -/
theorem parse_numbers {k : Nat} {n : Int} (hk : k < 4) (h9 : n ≤ 9223372036854775807) :
    (1 ≤ n ∧ n ≤ mostK k → ∃ c, parseC (tellL (linesK k n)) = .ok c ∧ fieldK k c = n) ∧ (¬ (1 ≤ n ∧ n ≤ mostK k) → ∃ w, parseC (tellL (linesK k n)) = .bad 1 w) := by
  obtain ⟨w1, w2, w3, w4, w5, w6⟩ := wordK_no hk
  have hno : ∀ l ∈ linesK k n, (10 : UInt8) ∉ l := by
    intro l hl
    unfold linesK at hl
    rw [List.mem_append, List.mem_append] at hl
    rcases hl with (hl | hl) | hl
    · rcases List.mem_cons.1 hl with rfl | hl
      · decide
      · rw [List.mem_singleton.1 hl]
        exact line_no w2 sgn_no
    · split at hl
      · cases hl
      · rw [List.mem_singleton.1 hl]; decide
    · split at hl
      · cases hl
      · rw [List.mem_singleton.1 hl]; decide
  unfold parseC
  rw [tell_nil _ hno]
  clear hno
  unfold linesK
  simp only [List.cons_append, List.nil_append]
  rw [goC_line (by simp) (by decide) (by decide) (by decide) (set_job (k := 3) (by omega) (by omega))]
  have hn1 : ¬ ((0 + 1 : Nat) ≠ 0 ↔ wordK k = wJob) := fun e => w4 (e.1 (by omega))
  constructor
  · rintro ⟨h1, hm⟩
    obtain ⟨c', hset, hk3, hf, hot⟩ := set_k (c := { CF.start with kind := 3 }) hk rfl h9 h1 hm
    rw [goC_line (by simp) w1 w3 hn1 hset]
    by_cases k0 : k = 0
    · subst k0
      rw [if_pos rfl, if_neg (by decide), List.nil_append, List.cons_append, List.nil_append, one_itoa, goC_line (by simp) (by decide) (by decide) (by decide) (set_support hk3 (by omega) (by omega)), goC, if_pos rfl]
      unfold endC
      rw [if_neg (fun e => e.elim (fun e => e (by decide)) fun e => e.2 (by decide))]
      exact ⟨_, rfl, hf⟩
    · rw [if_neg k0, List.cons_append, List.nil_append, one_itoa, List.cons_append, goC_line (by simp) (by decide) (fun e => by
        rcases List.mem_cons.1 e with e | e
        · exact w5 k0 e
        · revert e; decide) (by decide) (set_size (by omega) (by omega))]
      by_cases k1 : k = 1
      · subst k1
        rw [if_pos rfl, List.nil_append, goC, if_pos rfl]
        unfold endC
        rw [if_neg (fun e => e.elim (fun e => e (by decide)) fun e => e.2 (by decide))]
        exact ⟨_, rfl, hf⟩
      · rw [if_neg k1, List.cons_append, List.nil_append, goC_line (by simp) (by decide) (fun e => by
          rcases List.mem_cons.1 e with e | e
          · revert e; decide
          · rcases List.mem_cons.1 e with e | e
            · exact w6 k1 e
            · revert e; decide) (by decide) (set_support (c := { c' with size := 1 }) hk3 (by omega) (by omega)), goC, if_pos rfl]
        unfold endC
        rw [if_neg (fun e => e.elim (fun e => e (List.mem_cons_of_mem _ (List.mem_cons_self ..))) fun e => e.2 (List.mem_cons_self ..))]
        refine ⟨_, rfl, ?_⟩
        rcases (show k = 2 ∨ k = 3 by omega) with rfl | rfl <;> exact hf
  · intro hb
    rw [goC_fail (by split <;> split <;> simp) (show lineC _ _ _ (lineW (wordK k) (sgnL n)) = none by
      unfold lineC lineW
      rw [cut1_app _ w1]
      simp only
      rw [if_neg (fun e => e.elim (fun e => by cases e) fun e => e.elim w3 hn1)]
      exact set_k_no hk h9 hb)]
    exact ⟨_, rfl⟩
end Go.Proofs.YtddedghnnkcnhaaDoor.Cf
/-
  conf: walks of names, Name, within, wrong, number, Edges.
-/
namespace Go.Proofs.YtddedghnnkcnhaaDoor
open Go.RowKit Go.Proofs.YtddedghnnkcnhaaDoor.Pg
attribute [local go_sem ↓] Go.wp_at_zero Go.wp_at_succ
set_option maxRecDepth 100000
set_option linter.unusedVariables false

def jobsB : List ByteArray := Cf.jobsL.map fun l => ⟨l.toArray⟩
theorem CfNames_any (w : World) : Calls Tryd.prog 15 #[] w fun e w' => e = .returned (.slice (some ⟨w.heap.size, 0, none⟩) 3 3) ∧ w.alloc (.cells (jobsB.map Value.string).toArray 9) = w' := by
  go_enter Tryd.func15, Tryd.ntmps15
  go_wp2
  go_ret
  exact ⟨rfl, rfl⟩
theorem Within_any (n m : Int) (w : World) : Calls Tryd.prog 17 #[.int .i64 n, .int .i64 m] w fun e w' => e = .returned (.bool (decide (1 ≤ n) && decide (n ≤ m))) ∧ w = w' := by
  by_cases h1 : 1 ≤ n
  · go_enter Tryd.func17, Tryd.ntmps17
    go_wp2_with fail
    go_ret
    exact ⟨ret_bool (by rw [decide_eq_true h1]; rfl), rfl⟩
  · go_enter Tryd.func17, Tryd.ntmps17
    go_wp2_with fail
    go_ret
    exact ⟨ret_bool (by rw [decide_eq_false (show ¬ 1 ≤ n by omega)]; rfl), rfl⟩
theorem Wrong_any (n : Int) (s : ByteArray) (w : World) : Calls Tryd.prog 11 #[.int .i64 n, .string s] w fun e w' => ∃ g, e = .returned (.iface 43 (.pointer (some ⟨g, 0, none⟩))) ∧ Blk w' g 46 #[.int .i64 12, .int .i64 n, .string s] ∧ Below w.heap.size w w' := by
  go_enter Tryd.func11, Tryd.ntmps11
  go_wp2_with (go_at_call 8; refine (New_err _ _ _ _).mono ?_; rintro e w2 ⟨v, rfl, ⟨g, rfl, hv⟩, hb2⟩)
  go_ret
  exact ⟨g, rfl, hv, hb2⟩
set_option maxHeartbeats 4000000 in
theorem CfNumber_any (l : List UInt8) (most : Int) (w : World) (hs : l.length ≤ 1000000) (hL : LibW w) (hT : TabW w) :
    Calls Tryd.prog 18 #[.string (bz l), .int .i64 most] w (NumRes (Cf.numC most l) w) := by
  have HA := Lib.hid (Atoi_any l w hs hL)
  have HT := Lib.hid hT
  obtain ⟨m, hm⟩ : ∃ m, m = l.length := ⟨_, rfl⟩
  have hsz : (bz l).size = m := by rw [bz_size, hm]
  have HNum := Lib.hid (show ∀ v, Lib.atoiAll l = .ok v → Cf.numC most l = if m ≤ 7 ∧ Lib.itoa v = l ∧ 1 ≤ v ∧ v ≤ most then some v else none from fun v h => by
    unfold Cf.numC numP
    rw [h, ← hm]
    simp only
    by_cases h1 : m ≤ 7 ∧ Lib.itoa v = l ∧ 0 ≤ v
    · rw [if_pos h1]
      simp only
      by_cases h2 : 1 ≤ v ∧ v ≤ most
      · rw [if_pos h2, if_pos ⟨h1.1, h1.2.1, h2⟩]
      · rw [if_neg h2, if_neg (fun h => h2 h.2.2)]
    · rw [if_neg h1, if_neg (fun h => h1 ⟨h.1, h.2.1, by omega⟩)])
  have HNone := Lib.hid (show (∀ v, Lib.atoiAll l ≠ .ok v) → Cf.numC most l = none from fun h => by
    have : numP 7 l = none := by
      unfold numP
      split
      · rename_i v hv
        exact absurd hv (h v)
      · rfl
    unfold Cf.numC
    rw [this])
  have HBd := Lib.hid (fun v (h : Lib.atoiAll l = .ok v) => Lib.atoiAll_bounds h)
  have HBq := Lib.hid (fun v => bz_beq (Lib.itoa v) l)
  obtain ⟨S, hS⟩ : ∃ S, S = bz l := ⟨_, rfl⟩
  rw [← hS] at HA hsz HBq ⊢
  clear hL hT hm hS hs
  go_enter Tryd.func18, Tryd.ntmps18
  go_upto_region 2 with (go_at_call 24; refine HA.out.mono ?_; clear HA; rintro e w1 ⟨hb1, hp⟩; obtain ⟨z, x, hev⟩ : ∃ z x, e = .returned (.tuple #[.int .i64 z, x]) := (by rcases hp with ⟨_, _, h⟩ | ⟨_, _, _, _, h⟩ <;> exact ⟨_, _, h⟩); subst hev; have HB1 := Lib.hid hb1; have HP := Lib.hid hp; clear hb1 hp)
  rcases HP.out with ⟨v, hv, he⟩ | ⟨hno, z', T, y, he⟩
  · obtain ⟨rfl, rfl⟩ : z = v ∧ x = .nilIface := by simpa using he
    have hn := HNum.out z hv
    have hbd := HBd.out z hv
    have HI := Lib.hid (Itoa_any z w1 (by unfold i64P; omega) (HT.out.keep HB1.out))
    have hbq := HBq.out z
    rw [← itoaB_bz] at hbq
    clear he HP HNum HNone HBd HBq hv hbd
    by_cases h6 : m ≤ 7
    · have h6' : (m : Int) ≤ 7 := by omega
      by_cases hi : Lib.itoa z = l
      · rw [decide_eq_true hi] at hbq
        obtain ⟨t, ht⟩ : ∃ t, t = itoaB z := ⟨_, rfl⟩
        rw [← ht] at HI hbq
        by_cases h0 : 1 ≤ z
        · by_cases h9 : z ≤ most
          · have HR := Lib.hid (show Cf.numC most l = some z from by rw [hn, if_pos ⟨h6, hi, h0, h9⟩])
            clear hn hi ht
            go_wp2_with (go_at_call 25; refine HI.out.mono ?_; rintro e w2 ⟨rfl, hb2⟩; have HB2 := Lib.hid (HB1.out.andThen hb2); clear hb2)
            go_ret2
            exact ⟨z, true, rfl, HB2.out, .inl ⟨HR.out, rfl⟩⟩
          · have HR := Lib.hid (show Cf.numC most l = none from by rw [hn, if_neg (fun h => h9 h.2.2.2)])
            have h9' : decide (z ≤ most) = false := decide_eq_false h9
            clear hn hi ht
            go_wp2_with (go_at_call 25; refine HI.out.mono ?_; rintro e w2 ⟨rfl, hb2⟩; have HB2 := Lib.hid (HB1.out.andThen hb2); clear hb2)
            go_ret2
            exact ⟨z, false, rfl, HB2.out, .inr ⟨HR.out, rfl⟩⟩
        · have HR := Lib.hid (show Cf.numC most l = none from by rw [hn, if_neg (fun h => h0 h.2.2.1)])
          have h0' : decide (1 ≤ z) = false := decide_eq_false h0
          clear hn hi ht
          go_wp2_with (go_at_call 25; refine HI.out.mono ?_; rintro e w2 ⟨rfl, hb2⟩; have HB2 := Lib.hid (HB1.out.andThen hb2); clear hb2)
          go_ret2
          exact ⟨z, false, rfl, HB2.out, .inr ⟨HR.out, rfl⟩⟩
      · rw [decide_eq_false hi] at hbq
        obtain ⟨t, ht⟩ : ∃ t, t = itoaB z := ⟨_, rfl⟩
        rw [← ht] at HI hbq
        have HR := Lib.hid (show Cf.numC most l = none from by rw [hn, if_neg (fun h => hi h.2.1)])
        clear hn hi ht
        go_wp2_with (go_at_call 25; refine HI.out.mono ?_; rintro e w2 ⟨rfl, hb2⟩; have HB2 := Lib.hid (HB1.out.andThen hb2); clear hb2)
        go_ret2
        exact ⟨z, false, rfl, HB2.out, .inr ⟨HR.out, rfl⟩⟩
    · have h6' : ¬ (m : Int) ≤ 7 := by omega
      have HR := Lib.hid (show Cf.numC most l = none from by rw [hn, if_neg (fun h => h6 h.1)])
      clear hn hbq HI
      go_wp2_with fail
      go_ret2
      exact ⟨z, false, rfl, HB1.out, .inr ⟨HR.out, rfl⟩⟩
  · obtain ⟨rfl, rfl⟩ : z = z' ∧ x = .iface T y := by simpa using he
    have HR := Lib.hid (HNone.out hno)
    clear he HP HNum HNone HBd HBq hno
    go_wp2_with fail
    go_ret2
    exact ⟨z, false, rfl, HB1.out, .inr ⟨HR.out, rfl⟩⟩
end Go.Proofs.YtddedghnnkcnhaaDoor
/-
  Chains of errors: errors.As at *api.Fault, errors.Is at a fault, errors.Unwrap, and the fault package's functions over whole chains.
-/
namespace Go.Proofs.YtddedghnnkcnhaaDoor
open Go.RowKit Go.Extern.Stop Go.Stop Go.Extern

def Err.depth : Err → Nat
  | .step _ e => e.depth + 1
  | _ => 0
def Err.flt? : Err → Option (Int × Int × ByteArray)
  | .flt c a s => some (c, a, s)
  | .step _ e => e.flt?
  | _ => none
theorem Err.code_of : ∀ (E : Err), E ≠ .nil → (∀ w v, E.At w v → E.code = match E.flt? with | some (c, _, _) => c | none => -1)
  | .nil, h, _, _, _ => absurd rfl h
  | .flt _ _ _, _, _, _, _ => rfl
  | .txt _, _, _, _, _ => rfl
theorem Err.at_of : ∀ (E : Err), E.at_ = match E.flt? with | some (_, a, _) => a | none => 0
  | .nil => rfl
  | .flt _ _ _ => rfl
  | .txt _ => rfl
  | .step _ e => Err.at_of e

theorem ft_typeOf (v : Value) (w : World) : (ReflectliteType.typeOf #[.iface 131 v]).run Tryd.prog w = .ok (.iface 90 (.agg #[.pointer (some ⟨9, 131, none⟩)])) w := by kernel_rfl
theorem ft_assignable (w : World) : (ReflectliteType.relation "AssignableTo" ReflectliteType.assignableTo #[.agg #[.pointer (some ⟨9, 131, none⟩)], .iface 90 (.agg #[.pointer (some ⟨9, 43, none⟩)])]).run Tryd.prog w = .ok (.bool false) w := by kernel_rfl
theorem ft_noAs (v : Value) (xT : TypeId) (w : World) : (Instr.typeAssert (.iface 131 v) xT 95 true).run Tryd.prog w = .ok (.tuple #[.nilIface, .bool false]) w := run_typeAssert_lacksB Tryd.underlying95 (by kernel_rfl) (by kernel_rfl) v xT w
theorem ft_noUnwrap (v : Value) (xT : TypeId) (w : World) : (Instr.typeAssert (.iface 131 v) xT 98 true).run Tryd.prog w = .ok (.tuple #[.nilIface, .bool false]) w := run_typeAssert_lacksB Tryd.underlying98 (by kernel_rfl) (by kernel_rfl) v xT w
theorem ft_noUnwraps (v : Value) (xT : TypeId) (w : World) : (Instr.typeAssert (.iface 131 v) xT 100 true).run Tryd.prog w = .ok (.tuple #[.nilIface, .bool false]) w := run_typeAssert_lacksB Tryd.underlying100 (by kernel_rfl) (by kernel_rfl) v xT w

/-- What errors.as leaves: the target is set to the chain's first fault; or the chain has none. -/
def AsPost (E : Err) (w0 w1 : World) (t : Addr) (ev : Ending) (w' : World) : Prop :=
  (∃ c a s g, E.flt? = some (c, a, s) ∧ ev = .returned (.bool true) ∧ Blk w0 g 46 #[.int .i64 c, .int .i64 a, .string s] ∧ (w1.alloc (.cells #[.pointer (some ⟨g, 0, none⟩)] 43)).setCell t (.pointer (some ⟨g, 0, none⟩)) = w') ∨
  (E.flt? = none ∧ ev = .returned (.bool false) ∧ w1 = w')

theorem Err.At.iface_ {w : World} {E : Err} {v : Value} (h : E.At w v) (hne : E ≠ .nil) : ∃ T x, v = .iface T x := by
  cases E with
  | nil => exact absurd rfl hne
  | flt c a s => obtain ⟨g, rfl, _⟩ := h; exact ⟨_, _, rfl⟩
  | step w e => exact h.elim
  | txt s => obtain ⟨g, rfl, _⟩ := h; exact ⟨_, _, rfl⟩

end Go.Proofs.YtddedghnnkcnhaaDoor
/-
  The fault package over whole chains: errors.As, fault.fault, fault.Code, fault.At.
-/
namespace Go.Proofs.YtddedghnnkcnhaaDoor
open Go.RowKit Go.Extern.Stop Go.Stop Go.Extern

/-- What errors.As leaves, its target the one cell t. -/
def AsDone (E : Err) (w0 w : World) (t : Addr) (old : Value) (ev : Ending) (w' : World) : Prop :=
  Below t.block w w' ∧
  ((∃ c a s g, E.flt? = some (c, a, s) ∧ ev = .returned (.bool true) ∧ Blk w0 g 46 #[.int .i64 c, .int .i64 a, .string s] ∧ w'.cell? t = some (.pointer (some ⟨g, 0, none⟩))) ∨
   (E.flt? = none ∧ ev = .returned (.bool false) ∧ w'.cell? t = some old))

/-- fault.fault: a pointer to the chain's first fault, or none. -/
def FaultPost (E : Err) (w : World) (ev : Ending) (w' : World) : Prop :=
  Below w.heap.size w w' ∧
  ((∃ c a s g, E.flt? = some (c, a, s) ∧ ev = .returned (.pointer (some ⟨g, 0, none⟩)) ∧ Blk w' g 46 #[.int .i64 c, .int .i64 a, .string s]) ∨ (E.flt? = none ∧ ev = .returned (.pointer none)))

end Go.Proofs.YtddedghnnkcnhaaDoor
