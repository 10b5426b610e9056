/-
  Part 10 of the proof of OdagMerge: OdC, Law13, OdE.
-/
import Derived.Test.YtmonepclhbappaaGreatDoorOdagMergeM8
import Derived.Test.YtmonepclhbappaaGreatDoorOdagMergeM9
/-
  Odags: Count: how many paths there are.
-/
namespace Go.Proofs.YtmonepclhbappaaGreatDoor
open Go.RowKit Go.Maps
set_option maxRecDepth 100000
set_option linter.unusedVariables false

theorem sumZ_perm {a b : List Int} (h : a.Perm b) : sumZ a = sumZ b := by
  induction h with
  | nil => rfl
  | cons x _ ih => rw [sumZ, sumZ, ih]
  | swap x y l => simp only [sumZ]; omega
  | trans _ _ h1 h2 => rw [h1, h2]
def putV (r : Rv) (y v : Int) : Rv := (r.filter fun p => decide (p.1 < y)) ++ (y, v) :: r.filter fun p => decide (y < p.1)
theorem put_ev (r : Rv) (y v : Int) : putI (r.map ev) y (.int .i64 v) = (putV r y v).map ev := by
  unfold putI putV
  rw [List.map_append, List.map_cons, List.filter_map, List.filter_map]
  rfl
theorem putV_keys (r : Rv) (y v k : Int) : k ∈ (putV r y v).map (·.1) ↔ k = y ∨ k ∈ r.map (·.1) := by
  unfold putV
  simp only [List.map_append, List.map_cons, List.mem_append, List.mem_cons, List.mem_map, List.mem_filter, decide_eq_true_eq]
  constructor
  · rintro (⟨p, ⟨h1, _⟩, rfl⟩ | rfl | ⟨p, ⟨h1, _⟩, rfl⟩)
    · exact .inr ⟨p, h1, rfl⟩
    · exact .inl rfl
    · exact .inr ⟨p, h1, rfl⟩
  · rintro (rfl | ⟨p, h1, rfl⟩)
    · exact .inr (.inl rfl)
    · rcases Int.lt_trichotomy p.1 y with h | h | h
      · exact .inl ⟨p, ⟨h1, h⟩, rfl⟩
      · exact .inr (.inl h)
      · exact .inr (.inr ⟨p, ⟨h1, h⟩, rfl⟩)
theorem putV_len (r : Rv) (y v : Int) : (putV r y v).length ≤ r.length + 1 := by
  unfold putV
  have h : ∀ r : Rv, (r.filter fun p => decide (p.1 < y)).length + (r.filter fun p => decide (y < p.1)).length ≤ r.length := by
    intro r
    induction r with
    | nil => simp
    | cons p r ih =>
      rw [List.filter_cons, List.filter_cons]
      by_cases h1 : p.1 < y
      · have h2 : ¬ y < p.1 := by omega
        simp [h1, h2]
        omega
      · by_cases h2 : y < p.1
        · simp [h1, h2]
          omega
        · simp [h1, h2]
          omega
  have := h r
  simp
  omega
/-- A map of counts: of these numbers of a row. -/
def CntMap (w : World) (b : Nat) (od : List Rw) (i : Nat) (K : List Int) : Prop := ∃ r : Rv, MapV w b r ∧ (∀ k, k ∈ r.map (·.1) ↔ k ∈ K) ∧ (∀ p ∈ r, p.2 = cnt od i p.1) ∧ r.length ≤ K.length
theorem CntMap.look {od : List Rw} {i : Nat} {r : Rv} {K : List Int} (hk : ∀ k, k ∈ r.map (·.1) ↔ k ∈ K) (hc : ∀ p ∈ r, p.2 = cnt od i p.1) {y : Int} (hy : y ∈ K) (z : Value) : (atI (r.map ev) y).getD z = .int .i64 (cnt od i y) := by
  cases h : atI (r.map ev) y with
  | none =>
    have := atI_none.1 h
    rw [List.map_map] at this
    exact absurd ((hk y).2 hy) this
  | some v =>
    have h1 := atI_mem h
    obtain ⟨q, hq, hqe⟩ := List.mem_map.1 h1
    unfold ev at hqe
    obtain ⟨h2, h3⟩ := Prod.mk.inj hqe
    rw [Option.getD_some, ← h3, hc q hq, h2]
theorem CntMap.all {w : World} {b : Nat} {od : List Rw} {i : Nat} {r : Rv} {K : List Int} (hm : MapV w b r) (hk : ∀ k, k ∈ r.map (·.1) ↔ k ∈ K) (hc : ∀ p ∈ r, p.2 = cnt od i p.1) (hI : Inc K) : r.map (·.2) = K.map (cnt od i) := by
  have h1 := MapI.inc kInt hm
  have h2 : Inc (r.map (·.1)) := by
    unfold IncK at h1
    rw [List.pairwise_map] at h1
    exact List.pairwise_map.2 h1
  rw [← inc_ext h2 hI hk, List.map_map]
  exact List.map_congr_left fun p hp => hc p hp
theorem CntMap.keep {w w' : World} {b : Nat} {od : List Rw} {i : Nat} {K : List Int} (h : CntMap w b od i K) (hb : Below w.heap.size w w') : CntMap w' b od i K := by
  obtain ⟨r, h1, h2⟩ := h
  exact ⟨r, MapI.keep h1 hb, h2⟩
theorem CntMap.other {w w' : World} {b : Nat} {row : Option Nat} {od : List Rw} {i : Nat} {K : List Int} (h : CntMap w b od i K) (hg : w.grownBy w' row) (hne : some b ≠ row) : CntMap w' b od i K := by
  obtain ⟨r, h1, h2⟩ := h
  exact ⟨r, MapI.kept h1 hg hne, h2⟩
theorem CntMap.lt {w : World} {b : Nat} {od : List Rw} {i : Nat} {K : List Int} (h : CntMap w b od i K) : b < w.heap.size := by
  obtain ⟨r, h1, _⟩ := h
  exact MapI.lt h1
theorem CntMap.nc {w : World} {b : Nat} {od : List Rw} {i : Nat} {K : List Int} (h : CntMap w b od i K) : NC w b := by
  obtain ⟨r, h1, _⟩ := h
  obtain ⟨es, cl, h4⟩ := MapI.isMap h1
  exact NC.of_map h4
theorem RangesR.other {w w' : World} {b i b' : Nat} {r done : Rw} (h : RangesR w b i r done) (hm : NC w b') (hg : w.grownBy w' (some b')) (h1 : b ≠ b') (h2 : i ≠ b') : RangesR w' b i r done := by
  obtain ⟨m, d, e1, e2, h3, h4, h5⟩ := h
  exact ⟨m, d, e1, e2, h3.kept hg (fun e => h1 (by cases e; rfl)) (fun e => h2 (by cases e; rfl)), h4, fun e he => (h5 e he).turned hm hg⟩
theorem RangesR.lti {w : World} {b i : Nat} {r done : Rw} (h : RangesR w b i r done) : i < w.heap.size := by
  obtain ⟨m, d, _, _, h3, _⟩ := h
  exact h3.ltr
theorem RangesR.nci {w : World} {b i : Nat} {r done : Rw} (h : RangesR w b i r done) : NC w i := by
  obtain ⟨m, d, _, _, h3, _⟩ := h
  obtain ⟨o, h1, h2⟩ := rng_walk h3
  exact ⟨o, h1, Obj.not_cells_of_walk h2⟩

theorem neq_mapV (a : Option Nat) (W : World) : (binOp .neq 121 (.map a) (.map none)).run Tryz.prog W = .ok (.bool a.isSome) W := by
  have hu := run_underlying Tryz.underlying121
  have he : (Op.equal 121 (.map a) (.map none)).run Tryz.prog W = .ok a.isNone W := by
    show (Op.equalIn (9999 + 1) 121 (.map a) (.map none)).run Tryz.prog W = _
    unfold Op.equalIn
    cases a <;> simp [hu, Sem.run_bind]
  unfold binOp
  simp only [Sem.run_bind, he, Result.andThen_ok, Sem.run_pure]
  cases a <;> rfl
theorem done_leR {w : World} {b i : Nat} {r done : Rw} (h : RangesR w b i r done) : done.length ≤ r.length := by
  obtain ⟨m, d, rfl, rfl, h3, _, _⟩ := h
  have := done_le h3
  rw [List.length_map, List.length_map] at this
  rw [List.length_map, List.length_map]
  exact this

set_option maxHeartbeats 32000000 in
theorem Count_any (p N : Nat) (od : List Rw) (w : World) (h : OdM w p od) (hO : OdOK od N) :
    Calls Tryz.prog 29 #[.pointer (some ⟨p, 0, none⟩)] w fun e w' => e = .returned (.tuple #[.int .i64 (totP od), .nilIface]) ∧ Below w.heap.size w w' := by
  have hmm := @run_makeMap Tryz.prog
  have HOd := Lib.hid h
  have HO := Lib.hid hO
  have HLn := Lib.hid (OdLen_any p od w h)
  rw [hO.len] at HLn
  have hN1 := hO.h1
  have hN8 := hO.h8
  have hw0 : IntKind.i64.wrap ((N : Int) - 1) = (N : Int) - 1 := by rw [IntKind.wrap_i64]; omega
  clear h hO
  go_enter Tryz.func29, Tryz.ntmps29
  go_wp2_with (go_at_call 32; refine HLn.out.mono ?_; clear HLn; rintro e w' ⟨rfl, rfl⟩)
  clear hw0
  go_loopw [4, 5] (fun bv iv wr => ∃ (k : Nat), k ≤ N ∧ (∃ z : Int, z = (k : Int) - 1 ∧ iv = .int .i64 z) ∧ Hid (Below w.heap.size w wr) ∧ ((k = N ∧ bv = .map none) ∨ (k < N ∧ ∃ bb, bv = .map (some bb) ∧ Hid (CntMap wr bb od k ((od.getD k []).map (·.1)))))) (fun _ iv _ => (intOf iv + 1).toNat)
  case atStart => exact ⟨N, Nat.le_refl _, ⟨_, rfl, rfl⟩, Lib.hid (Below.refl _ _), .inl ⟨rfl, rfl⟩⟩
  case round =>
    obtain ⟨k, hk, ⟨z, hz, rfl⟩, HB, hcase⟩ := hrel
    rcases Nat.eq_zero_or_pos k with h0 | h0
    · subst h0
      obtain rfl : z = -1 := by omega
      clear hz
      rcases hcase with ⟨h9, _⟩ | ⟨_, bb, rfl, HC⟩
      · omega
      · obtain ⟨r, hm, hr1, hr2, hr3⟩ := HC.out
        have hal := CntMap.all hm hr1 hr2 (List.pairwise_map.2 (HO.out.S 0 (by rw [HO.out.len]; omega)).1)
        have hrl : r.length ≤ 1000000 := by
          have := (HO.out.B _ (getD_memO (show 0 < od.length by rw [HO.out.len]; omega))).1
          rw [List.length_map] at hr3
          omega
        have hal2 := bel_al (Below.refl wr.heap.size wr) (.cells #[.map (some bb)] 121)
        have HCo := Lib.hid (Collect64_any r wr.heap.size bb (wr.alloc (.cells #[.map (some bb)] 121)) (by have := (Blk.new wr 121 #[.map (some bb)]).cell 0; simp at this ⊢) (by simp) (MapI.keep hm hal2) (by omega))
        have HTo := Lib.hid (show ∀ (xs : List Int) (A : Option Addr) (c : Nat) (W : World), xs.Perm (r.map (·.2)) → Sl W 1 A xs.length (xs.map (Value.int .i64)) → Calls Tryz.prog 70 #[.slice A xs.length c] W (fun e w' => e = .returned (.tuple #[.int .i64 (totP od), .nilIface]) ∧ Below W.heap.size W w') from fun xs A c W hp hs => by
          have hsum : sumZ xs = totP od := by rw [sumZ_perm hp, hal, totP_sum]
          have hfit : fitB (totP od) = true := fit_nn (Int.natCast_nonneg _) HO.out.F.2
          refine (NumsTotal_any xs A xs.length c W rfl (by have := hp.length_eq; rw [List.length_map] at this; omega) (fun x hx => ?_) hs).mono ?_
          · have h1 := hp.mem_iff.1 hx
            rw [hal] at h1
            obtain ⟨y, hy, rfl⟩ := List.mem_map.1 h1
            have h2 := HO.out.F.1 0 y (by rw [HO.out.len]; omega)
            have h3 := cnt_nn od 0 y
            omega
          · rintro e w' ⟨ev', h1, h2, h3⟩
            rw [hsum, te_fit hfit] at h2
            rw [hsum, tn_fit hfit] at h1
            have h4 : ev' = .nilIface := h2
            rw [h4] at h1
            exact ⟨h1, h3⟩)
        clear hm hr1 hr2 hr3 hal hal2 HC hmm
        go_wp2_with (first
          | (go_at_call 72; refine (Values64_any _ _).mono ?_; rintro e w1 ⟨rfl, rfl⟩)
          | (go_at_call 71; refine HCo.out.mono ?_; clear HCo; rintro e w2 ⟨v, xs, rfl, hp, hown, hb⟩; obtain ⟨A2, c2, rfl, hs2⟩ := Sl.own hown; have HP := Lib.hid hp; have HS2 := Lib.hid hs2; have HB2 := Lib.hid hb; clear hp hown hs2 hb)
          | (go_at_call 70; refine (HTo.out xs A2 c2 w2 HP.out HS2.out).mono ?_; clear HTo; rintro e w3 ⟨rfl, hb⟩; have HB3 := Lib.hid hb; clear hb))
        go_ret2
        exact ⟨rfl, HB.out.andThen (((bel_al (Below.refl _ _) _).andThen HB2.out).andThen HB3.out)⟩
    · obtain ⟨i, rfl⟩ : ∃ i, k = i + 1 := ⟨k - 1, by omega⟩
      obtain rfl : z = (i : Int) := by omega
      clear hz
      have hiN : i < od.length := by rw [HO.out.len]; omega
      obtain ⟨rb, ro, on, oc, mb, hon, co0, hoc, co1, hrow0⟩ := (HOd.out.keep HB.out).row hiN
      have hal := bel_al (Below.refl wr.heap.size wr) (.map #[] 0)
      have d0 := (hal.cell (p := ⟨p, 0, none⟩) (World.block_lt_of_cell? wr _ co0)).trans co0
      have d1 := (hal.cell (p := ⟨rb, ro + i, none⟩) (World.block_lt_of_cell? wr _ co1)).trans co1
      obtain ⟨row, hrow⟩ : ∃ row, row = od.getD i [] := ⟨_, rfl⟩
      rw [← hrow] at hrow0
      have HRowE := Lib.hid hrow
      have HRw := Lib.hid (hrow0.keep hal)
      have HInc := Lib.hid (show IncR row ∧ (∀ a, Inc (lkR row a)) ∧ row.length ≤ 60000 ∧ (∀ q ∈ row, q.2.length ≤ 60000) ∧ (∀ q ∈ row, i64ok q.1 ∧ ∀ b ∈ q.2, i64ok b) from by
        rw [hrow]
        have h1 := HO.out.S i hiN
        have h2 := HO.out.B _ (getD_memO hiN)
        exact ⟨h1.1, h1.2, h2.1, h2.2, fun q hq => ⟨(HO.out.Nu _ (getD_memO hiN) q hq).1.ok, fun b hb => ((HO.out.Nu _ (getD_memO hiN) q hq).2 b hb).ok⟩⟩)
      have hio : (i : Int) < (on : Int) := by rw [hon]; omega
      have hi0 : (0 : Int) ≤ (i : Int) := by omega
      have HBa := Lib.hid (HB.out.andThen hal)
      have HIN := Lib.hid hiN
      have HHere := Lib.hid (show CntMap (wr.alloc (.map #[] 0)) wr.heap.size od i [] from ⟨[], MapI.made _ _ wr, fun k => by simp, (fun p hp => by cases hp), Nat.le_refl _⟩)
      have HBeh := Lib.hid (show (i + 1 = N ∧ u4 = .map none) ∨ (i + 1 < N ∧ ∃ bb, u4 = .map (some bb) ∧ bb < wr.heap.size ∧ CntMap (wr.alloc (.map #[] 0)) bb od (i + 1) ((od.getD (i + 1) []).map (·.1))) from by
        rcases hcase with h9 | ⟨h9, bb, h8, HC⟩
        · exact .inl h9
        · exact .inr ⟨h9, bb, h8, HC.out.lt, HC.out.keep hal⟩)
      have HMb := Lib.hid hrow0.lt
      clear hcase hrow0 hal co0 co1 hrow hon hiN
      go_wp2_with (at_range; refine wpList_rangeR _ rfl _ rfl mb row rfl HRw.out ?_; intro w2 hrg hb2 hs2; have HRg := Lib.hid hrg; have HB2 := Lib.hid hb2; clear hrg hb2 hs2)
      clear hmm d0 d1
      obtain ⟨it, hit⟩ : ∃ it, it = (wr.alloc (.map #[] 0)).heap.size := ⟨_, rfl⟩
      have HIt := Lib.hid (show wr.heap.size < it ∧ w.heap.size ≤ wr.heap.size from ⟨by rw [hit]; simp, HB.out.size⟩)
      have HHere2 := Lib.hid (HHere.out.keep HB2.out)
      have HBeh2 := Lib.hid (show (i + 1 = N ∧ u4 = .map none) ∨ (i + 1 < N ∧ ∃ bb, u4 = .map (some bb) ∧ bb < wr.heap.size ∧ CntMap w2 bb od (i + 1) ((od.getD (i + 1) []).map (·.1))) from by
        rcases HBeh.out with h9 | ⟨h9, bb, h8, h7, HC⟩
        · exact .inl h9
        · exact .inr ⟨h9, bb, h8, h7, HC.keep HB2.out⟩)
      have HB22 := Lib.hid (HBa.out.andThen HB2.out)
      rw [← hit] at HRg ⊢
      obtain ⟨hb, hhb⟩ : ∃ hb, hb = wr.heap.size := ⟨_, rfl⟩
      rw [← hhb] at HHere2 HBeh2 HIt HMb ⊢
      clear HHere HBeh HBa HB2 HRw hit hhb HB
      go_wp2_with fail
      go_frame
      go_loopw [] (fun wx => ∃ done : Rw, Hid (RangesR wx mb it row done) ∧ Hid (CntMap wx hb od i (done.map (·.1))) ∧ Hid (Below w.heap.size w wx) ∧ Hid ((i + 1 = N ∧ u4 = .map none) ∨ (i + 1 < N ∧ ∃ bb, u4 = .map (some bb) ∧ bb < hb ∧ CntMap wx bb od (i + 1) ((od.getD (i + 1) []).map (·.1))))) (fun wx => wx.rangeLeft mb it)
      case atStart => exact ⟨[], HRg, HHere2, HB22, HBeh2⟩
      case round =>
        clear HRg HHere2 HB22 HBeh2
        obtain ⟨done, HRg, HHe, HBx, HBe⟩ := hrel
        go_wp2_with (at_next; refine wpList_nextR _ rfl _ rfl mb it _ done rfl HRg.out ?_ ?_)
        · intro hperm
          have HPm := Lib.hid hperm
          clear hperm
          go_wp2_with fail
          go_roundw
          case rel =>
            refine ⟨i, by omega, ⟨(i : Int) - 1, rfl, by go_num⟩, HBx, .inr ⟨by omega, hb, rfl, Lib.hid ?_⟩⟩
            obtain ⟨r, h1, h2, h3, h4⟩ := HHe.out
            have hpk := HPm.out.map (fun q : Int × List Int => q.1)
            rw [← HRowE.out]
            exact ⟨r, h1, fun k => (h2 k).trans hpk.mem_iff, h3, by rw [← hpk.length_eq]; exact h4⟩
          case measure => (simp [intOf] <;> omega)
        · intro y A c l w3 hyl hyk hrow3 hrg3 hlt3 hg3 hnc3 hsz3 hen3
          have hII := HInc.out
          have hsi := HIt.out
          have hyx := hII.2.2.2.2 (y, l) hyl
          have hlk : lkR row y = l := hII.1.lk hyl
          have hll : l.length ≤ 60000 := hII.2.2.2.1 (y, l) hyl
          have HYx := Lib.hid hyx
          have HLk := Lib.hid hlk
          have HHe3 := Lib.hid (HHe.out.other hg3 (fun e => by cases e; omega))
          have HB3 := Lib.hid (bel_turn HBx.out hg3 (by omega) HBx.out.size)
          have HBe3 := Lib.hid (show (i + 1 = N ∧ u4 = .map none) ∨ (i + 1 < N ∧ ∃ bb, u4 = .map (some bb) ∧ bb < hb ∧ CntMap w3 bb od (i + 1) ((od.getD (i + 1) []).map (·.1))) from by
            rcases HBe.out with h9 | ⟨h9, bb, h8, h7, HC⟩
            · exact .inl h9
            · exact .inr ⟨h9, bb, h8, h7, HC.other hg3 (fun e => by cases e; omega)⟩)
          have HRow3 := Lib.hid hrow3
          have HRg3 := Lib.hid hrg3
          have HLt3 := Lib.hid hlt3
          have HDn := Lib.hid (done_leR hrg3)
          clear hII hsi hyx hlk hyk hrow3 hrg3 hlt3 hg3 hnc3 hsz3 hyl HBe HBx HHe HRg
          go_upto_region 10 with (fail)
          obtain ⟨w4, hw4⟩ : ∃ w4, w3.alloc (.cells #[.int .i64 1] 2) = w4 := ⟨_, rfl⟩
          have hb4 : Below w3.heap.size w3 w4 := by rw [← hw4]; exact bel_al (Below.refl _ _) _
          have hs4 : Sl w4 1 (some ⟨w3.heap.size, 0, none⟩) 1 ([1].map (Value.int .i64)) := by rw [← hw4]; exact Sl.newAt w3 [.int .i64 1] _ 1 rfl
          rw [hw4]
          clear hw4
          have HB4 := Lib.hid hb4
          have HS4 := Lib.hid hs4
          clear hb4 hs4 hen3
          go_cut [37] from 36 to 37 (fun v wx => v = .bool (decide (i + 1 < N)) ∧ w4 = wx)
          case first =>
            rcases HBe3.out with ⟨h9, rfl⟩ | ⟨h9, bb, rfl, h7, HC⟩
            · have hd : decide (i + 1 < N) = false := by simp; omega
              have hq : ∀ W, (binOp .neq 121 (.map none) (.map none)).run Tryz.prog W = .ok (.bool false) W := fun W => neq_mapV none W
              go_wp2_with fail
              go_meet
              exact ⟨by rw [hd], rfl⟩
            · have hd : decide (i + 1 < N) = true := by simp; omega
              have hq : ∀ W, (binOp .neq 121 (.map (some bb)) (.map none)).run Tryz.prog W = .ok (.bool true) W := fun W => neq_mapV (some bb) W
              go_wp2_with fail
              go_meet
              exact ⟨by rw [hd], rfl⟩
          case rest =>
          obtain ⟨rfl, rfl⟩ := hcut
          go_upto_if 37 with (fail)
          go_cut [9] from 37 to 50 (fun lv wx => ∃ (B : Option Addr) (m c9 : Nat) (vals : List Int), lv = .slice B m c9 ∧ vals.length = m ∧ m ≤ 60000 ∧ Hid (Sl wx 1 B m (vals.map (Value.int .i64))) ∧ Hid (sumZ vals = cnt od i y) ∧ Hid (∀ v ∈ vals, i64ok v) ∧ Hid (Below w4.heap.size w4 wx))
          case first =>
            rcases HBe3.out with ⟨h9, rfl⟩ | ⟨h9, bb, rfl, h7, HC⟩
            · have hd : decide (i + 1 < N) = false := by simp; omega
              rw [hd]
              go_wp2_with fail
              go_meet
              exact ⟨_, 1, _, [1], rfl, rfl, by omega, HS4, Lib.hid (by rw [cnt_last (by rw [HO.out.len]; exact h9)]; rfl), Lib.hid (fun v hv => by rw [List.mem_singleton.1 hv]; exact ⟨by omega, by omega⟩), Lib.hid (Below.refl _ _)⟩
            · have hd : decide (i + 1 < N) = true := by simp; omega
              rw [hd]
              have HC4 := Lib.hid (HC.keep HB4.out)
              have HRow4 := Lib.hid (HRow3.out.keep HB4.out)
              have HKl := Lib.hid (show ∀ x ∈ l, x ∈ (od.getD (i + 1) []).map (·.1) from fun x hx => HO.out.C.link (by rw [HO.out.len]; exact h9) (by rw [← HRowE.out, HLk.out]; exact hx))
              clear HC hd
              go_wp2_with fail
              go_loopw [9, 40] (fun lv jv wx => ∃ j : Nat, j ≤ l.length ∧ jv = .int .i64 (j : Int) ∧ Hid (wx.ownsRow w4.heap.size 2 1 lv j (((l.take j).map (cnt od (i + 1))).map (Value.int .i64))) ∧ Hid (Below w4.heap.size w4 wx)) (fun _ jv _ => l.length - (intOf jv).toNat)
              case atStart => exact ⟨0, Nat.zero_le _, rfl, Lib.hid (World.ownsRow_nil _ _ _ _), Lib.hid (Below.refl _ _)⟩
              case round =>
                obtain ⟨j, hj, rfl, HO9, HB9⟩ := hrel
                by_cases hjl : j < l.length
                · have hjl' : (j : Int) < (l.length : Int) := by omega
                  obtain ⟨x, hx⟩ : ∃ x, l[j] = x := ⟨_, rfl⟩
                  obtain ⟨b5, o5, rfl, hc5⟩ := (HRow4.out.keep HB9.out).1.i64 rfl hjl
                  have hxm : x ∈ l := by rw [← hx]; exact List.getElem_mem hjl
                  have HXx := Lib.hid (HYx.out.2 x hxm)
                  have HXk := Lib.hid (HKl.out x hxm)
                  have HTk := Lib.hid (show (((l.take j).map (cnt od (i + 1))).map (Value.int .i64)) ++ [.int .i64 (cnt od (i + 1) x)] = ((l.take (j + 1)).map (cnt od (i + 1))).map (Value.int .i64) from by rw [List.take_succ_eq_append_getElem hjl, hx]; simp)
                  obtain ⟨r, hm, hr1, hr2, _⟩ := HC4.out.keep HB9.out
                  have HM := Lib.hid hm
                  have HLo := Lib.hid (CntMap.look hr1 hr2 HXk.out (.int .i64 0))
                  simp only [hx] at hc5
                  clear hx hxm hm hr1 hr2
                  go_wp2_with (first
                    | (at_lookup; refine wpList_lookI _ rfl _ _ _ rfl 2 kInt Tryz.underlying121 (.int .i64 0) (by kernel_rfl) bb _ (by go_simp) HM.out x (by go_simp) HXx.out.1 HXx.out.2 ?_; rw [HLo.out])
                    | (at_builtin; refine wpList_push elemI64r _ _ rfl rfl HO9.out HB9.out (Nat.le_refl _) rfl rfl rfl (by simp [Value.oneCell']) (by unfold lim; omega) (by unfold lim; omega) ?_; intro v' w8 hown8 hb8; have HO8 := Lib.hid hown8; have HB8 := Lib.hid hb8; clear hown8 hb8))
                  go_roundw
                  case rel => exact ⟨j + 1, by omega, by go_num, Lib.hid (by rw [← HTk.out]; exact HO8.out), HB8⟩
                  case measure => simp [intOf]; omega
                · obtain rfl : j = l.length := by omega
                  have hjl' : ¬ (l.length : Int) < (l.length : Int) := by omega
                  obtain ⟨R, c', rfl, hsl⟩ := Sl.own HO9.out
                  have HSl := Lib.hid hsl
                  go_wp2_with fail
                  go_meet
                  refine ⟨R, l.length, c', l.map (cnt od (i + 1)), rfl, List.length_map .., hll, Lib.hid ?_, Lib.hid ?_, Lib.hid ?_, HB9⟩
                  · have h := HSl.out
                    rw [List.take_length] at h
                    exact h
                  · rw [cnt_step (by rw [HO.out.len]; exact h9), ← HRowE.out, HLk.out]
                  · intro v hv
                    obtain ⟨x, _, rfl⟩ := List.mem_map.1 hv
                    have h1 := cnt_nn od (i + 1) x
                    have h2 := HO.out.F.1 (i + 1) x (by rw [HO.out.len]; exact h9)
                    exact ⟨by omega, by omega⟩
          case rest =>
            obtain ⟨B, m, c9, vals, rfl, hvl, hm6, HSv, HSm, HVo, HBv⟩ := hcut
            have HTo := Lib.hid (show Calls Tryz.prog 70 #[.slice B m c9] wc (fun e w' => e = .returned (.tuple #[.int .i64 (cnt od i y), .nilIface]) ∧ Below wc.heap.size wc w') from by
              have hfit : fitB (cnt od i y) = true := fit_nn (cnt_nn _ _ _) (HO.out.F.1 i y HIN.out)
              refine (NumsTotal_any vals B m c9 wc hvl (by omega) HVo.out HSv.out).mono ?_
              rintro e w' ⟨ev', h1, h2, h3⟩
              rw [HSm.out, te_fit hfit] at h2
              rw [HSm.out, tn_fit hfit] at h1
              have h4 : ev' = .nilIface := h2
              rw [h4] at h1
              exact ⟨h1, h3⟩)
            obtain ⟨cv, hcv⟩ : ∃ cv, cv = cnt od i y := ⟨_, rfl⟩
            rw [← hcv] at HTo
            have HCv := Lib.hid hcv
            have HHe4 := Lib.hid ((HHe3.out.keep HB4.out).keep HBv.out)
            clear hcv hvl
            go_wp2_with (first
              | (go_at_call 70; refine HTo.out.mono ?_; clear HTo; rintro e w6 ⟨rfl, hb6⟩; obtain ⟨r, hm6, hr1, hr2, hr3⟩ := HHe4.out.keep hb6; have HM6 := Lib.hid hm6; have HR1 := Lib.hid hr1; have HR2 := Lib.hid hr2; have HR3 := Lib.hid hr3; have HB6 := Lib.hid hb6; clear hb6 hm6 hr1 hr2 hr3)
              | (at_mapUpdate; refine wpList_putI _ rfl _ _ _ _ rfl 2 kInt Tryz.underlying121 hb _ rfl HM6.out (by have h1 := HR3.out; have h2 := HDn.out; have h3 := HInc.out.2.2.1; rw [List.length_map] at h1 ⊢; rw [List.length_append] at h2; unfold maxLen; omega) y (.int .i64 cv) rfl rfl HYx.out.1.1 HYx.out.1.2 ?_; intro w7 hM7 hg7; have HM7 := Lib.hid hM7; have HG7 := Lib.hid hg7; clear hM7 hg7))
            have hbb := HB4.out.andThen (HBv.out.andThen HB6.out)
            have hrg6 := HRg3.out.keep hbb
            have hsi := HIt.out
            have hmb := HMb.out
            have hnc6 : NC w6 hb := by
              obtain ⟨es, cl, h4⟩ := MapI.isMap HM6.out
              exact NC.of_map h4
            go_frame
            go_roundw
            case rel =>
              refine ⟨done ++ [(y, l)], Lib.hid (hrg6.other hnc6 HG7.out (by omega) (by omega)), Lib.hid ⟨putV r y cv, ?_, fun k => ?_, fun q hq => ?_, ?_⟩, Lib.hid (bel_turn (HB3.out.andThen hbb) HG7.out HIt.out.2 (HB3.out.andThen hbb).size), Lib.hid ?_⟩
              · have h := HM7.out
                rw [put_ev] at h
                exact h
              · rw [putV_keys, HR1.out, List.map_append, List.mem_append]
                simp
                constructor
                · rintro (h | h)
                  · exact .inr h
                  · exact .inl h
                · rintro (h | h)
                  · exact .inr h
                  · exact .inl h
              · unfold putV at hq
                rcases List.mem_append.1 hq with h | h
                · exact HR2.out q (List.mem_filter.1 h).1
                · rcases List.mem_cons.1 h with h | h
                  · rw [h]; exact HCv.out
                  · exact HR2.out q (List.mem_filter.1 h).1
              · have h1 := putV_len r y cv
                have h2 := HR3.out
                rw [List.length_map] at h2 ⊢
                rw [List.length_append]
                simp
                omega
              · rcases HBe3.out with h9 | ⟨h9, bb, h8, h7, HC⟩
                · exact .inl h9
                · exact .inr ⟨h9, bb, h8, h7, (HC.keep hbb).other HG7.out (fun e => by cases e; omega)⟩
            case measure =>
              have h1 : w7.rangeLeft mb it = w3.rangeLeft mb it := by
                have e1 : w7.heap[mb]? = w3.heap[mb]? := (HG7.out.block mb (by have := hbb.size; have := HRg3.out.row.lt; omega) (fun e => by cases e; omega)).trans (hbb.block mb HRg3.out.row.lt)
                have e2 : w7.heap[it]? = w3.heap[it]? := (HG7.out.block it (by have := hbb.size; have := HRg3.out.lti; omega) (fun e => by cases e; omega)).trans (hbb.block it HRg3.out.lti)
                unfold World.rangeLeft
                rw [e1, e2]
              rw [h1]
              exact HLt3.out
end Go.Proofs.YtmonepclhbappaaGreatDoor
/-
  The laws' alive of layer 13: the chapter's example; lengths that can't be.
-/
namespace Go.Proofs.YtmonepclhbappaaGreatDoor
open Go.RowKit Go.Maps
set_option maxRecDepth 100000
set_option linter.unusedVariables false

theorem fresh_bad (n : Int) (w : World) (h : n < 1 ∨ 8 < n) : Calls Tryz.prog 64 #[.int .i64 n] w fun e w' => ∃ ev, e = .returned (.tuple #[.pointer none, ev]) ∧ (Err.flt 1 0 ⟨#[108, 101, 110, 103, 116, 104]⟩).At w' ev ∧ Below w.heap.size w w' := by
  by_cases h1 : n < 1
  · clear h
    go_enter Tryz.func64, Tryz.ntmps64
    go_wp2_with (go_at_call 57; refine (New_err _ _ _ _).mono ?_; rintro e w' ⟨v, rfl, hv, hb⟩; have HV := Lib.hid hv; have HB := Lib.hid hb; clear hv hb)
    go_ret2
    exact ⟨_, rfl, HV.out, HB.out⟩
  · have h8 : 8 < n := by omega
    clear h
    go_enter Tryz.func64, Tryz.ntmps64
    go_wp2_with (go_at_call 57; refine (New_err _ _ _ _).mono ?_; rintro e w' ⟨v, rfl, hv, hb⟩; have HV := Lib.hid hv; have HB := Lib.hid hb; clear hv hb)
    go_ret2
    exact ⟨_, rfl, HV.out, HB.out⟩
theorem OfOd_bad (n : Int) (Q : Option Addr) (m c : Nat) (w : World) (h : n < 1 ∨ 8 < n) : Calls Tryz.prog 28 #[.int .i64 n, .slice Q m c] w fun e w' => ∃ ev, e = .returned (.tuple #[.pointer none, ev]) ∧ (Err.flt 1 0 ⟨#[108, 101, 110, 103, 116, 104]⟩).At w' ev ∧ Below w.heap.size w w' := by
  have HFr := Lib.hid (fresh_bad n w h)
  clear h
  go_enter Tryz.func28, Tryz.ntmps28
  go_upto_region 2 with (go_at_call 64; refine HFr.out.mono ?_; clear HFr; rintro e w1 ⟨v, rfl, ⟨g, rfl, hbk⟩, hb⟩; have HV := Lib.hid hbk; have HB := Lib.hid hb; clear hbk hb)
  go_wp2_with fail
  go_ret2
  exact ⟨_, rfl, ⟨g, rfl, HV.out⟩, HB.out⟩
theorem blk_sl {w : World} {g : Nat} {t : TypeId} {cs : Array Value} (h : Blk w g t cs) : Sl w 1 (some ⟨g, 0, none⟩) cs.size cs.toList :=
  ⟨by simp, fun _ => ⟨g, 0, rfl, fun j u hu => by rw [Nat.zero_add, h.cell j]; simpa using hu⟩⟩

/-- Few lists, none longer than eight. -/
theorem odOf_ok8 (n : Nat) (ls : List (List Int)) (h1 : 1 ≤ n) (h8 : n ≤ 8) (hl : ls.length ≤ 16) (h : ∀ x ∈ ls, x.length = n) (hx : ∀ x ∈ ls, ∀ y ∈ x, numOK y) : OdOK (odOf n ls) n where
  B := fun r hr => (odOf_B n _ r hr).mono (by omega)
  len := odOf_len n _
  h1 := h1
  h8 := by omega
  Nu := odOf_nums n _ h hx
  C := odOf_closed n _ h
  F := fits_of (K := 16) (fun r hr => (odOf_B n _ r hr).mono hl) (by decide) (by rw [odOf_len]; exact h1) (by rw [odOf_len]; exact Nat.le_trans (Nat.pow_le_pow_right (by decide) h8) (by decide))
  P := fun p hp => by rw [allP_el (by rw [odOf_len]; exact h1) hp, odOf_len]
  S := odOf_rising n ls h
theorem ex_tot : totP (odOf 2 [[1, 2], [3, 2], [3, 4]]) = 3 := by kernel_rfl

set_option maxHeartbeats 4000000 in
theorem alive13 (w : World) (hg : ErrT w) : Calls Tryz.prog 23 #[] w fun e w' => e = .returned (.bool true) ∧ Below w.heap.size w w' := by
  obtain ⟨W3, hW3⟩ : ∃ W3, ((w.alloc (.cells #[.int .i64 1, .int .i64 2] 3)).alloc (.cells #[.int .i64 3, .int .i64 2] 3)).alloc (.cells #[.int .i64 3, .int .i64 4] 3) = W3 := ⟨_, rfl⟩
  obtain ⟨W4, hW4⟩ : ∃ W4, W3.alloc (.cells #[.slice (some ⟨w.heap.size, 0, none⟩) 2 2, .slice (some ⟨w.heap.size + 1, 0, none⟩) 2 2, .slice (some ⟨w.heap.size + 1 + 1, 0, none⟩) 2 2] 22) = W4 := ⟨_, rfl⟩
  have hb4 : Below w.heap.size w W4 := by rw [← hW4, ← hW3]; exact bel_al (bel_al (bel_al (bel_al (Below.refl _ _) _) _) _) _
  have r1 : Blk W4 w.heap.size 3 #[.int .i64 1, .int .i64 2] := by rw [← hW4, ← hW3]; exact (((Blk.new w _ _).alloc _).alloc _).alloc _
  have r2 : Blk W4 (w.heap.size + 1) 3 #[.int .i64 3, .int .i64 2] := by
    have := ((Blk.new (w.alloc (.cells #[.int .i64 1, .int .i64 2] 3)) 3 #[.int .i64 3, .int .i64 2]).alloc (.cells #[.int .i64 3, .int .i64 4] 3))
    rw [World.size_alloc, hW3] at this
    rw [← hW4]
    exact this.alloc _
  have r3 : Blk W4 (w.heap.size + 1 + 1) 3 #[.int .i64 3, .int .i64 4] := by
    have := Blk.new ((w.alloc (.cells #[.int .i64 1, .int .i64 2] 3)).alloc (.cells #[.int .i64 3, .int .i64 2] 3)) 3 #[.int .i64 3, .int .i64 4]
    rw [World.size_alloc, World.size_alloc, hW3] at this
    rw [← hW4]
    exact this.alloc _
  have r4 : Blk W4 W3.heap.size 22 #[.slice (some ⟨w.heap.size, 0, none⟩) 2 2, .slice (some ⟨w.heap.size + 1, 0, none⟩) 2 2, .slice (some ⟨w.heap.size + 1 + 1, 0, none⟩) 2 2] := by
    rw [← hW4]
    exact Blk.new W3 _ _
  obtain ⟨its, hits⟩ : ∃ its : List (Option Addr × Nat × List Int), its = [(some ⟨w.heap.size, 0, none⟩, 2, [1, 2]), (some ⟨w.heap.size + 1, 0, none⟩, 2, [3, 2]), (some ⟨w.heap.size + 1 + 1, 0, none⟩, 2, [3, 4])] := ⟨_, rfl⟩
  have hls : its.map (·.2.2) = [[1, 2], [3, 2], [3, 4]] := by rw [hits]; rfl
  have hlen : ∀ x ∈ its.map (·.2.2), x.length = 2 := by rw [hls]; intro x hx; simp at hx; rcases hx with rfl | rfl | rfl <;> rfl
  have hnum : ∀ x ∈ its.map (·.2.2), ∀ y ∈ x, numOK y := by
    rw [hls]
    intro x hx y hy
    unfold numOK
    simp at hx
    rcases hx with rfl | rfl | rfl <;> (simp at hy; omega)
  have HOf := Lib.hid (OfOd_any 2 its (some ⟨W3.heap.size, 0, none⟩) 3 3 W4 (by omega) (by omega) (by rw [hits]; rfl) (by omega) (by
      have := blk_sl r4
      rw [hits]
      exact this) (by
      rw [hits]
      intro t ht
      simp at ht
      rcases ht with rfl | rfl | rfl
      · exact ⟨blk_sl r1, Nat.le_refl _, by simp⟩
      · exact ⟨blk_sl r2, Nat.le_refl _, by simp⟩
      · exact ⟨blk_sl r3, Nat.le_refl _, by simp⟩) (fun t ht => ⟨hlen _ (List.mem_map.2 ⟨t, ht, rfl⟩), hnum _ (List.mem_map.2 ⟨t, ht, rfl⟩)⟩))
  have HOk := Lib.hid (odOf_ok8 2 (its.map (·.2.2)) (by omega) (by omega) (by rw [hls]; decide) hlen hnum)
  have HTot := Lib.hid (show totP (odOf 2 (its.map (·.2.2))) = 3 from by rw [hls]; exact ex_tot)
  obtain ⟨od, hod⟩ : ∃ od, od = odOf 2 (its.map (·.2.2)) := ⟨_, rfl⟩
  rw [← hod] at HOf HOk HTot
  have HG := Lib.hid hg
  have HB4 := Lib.hid hb4
  clear hod hlen hnum hls hits r1 r2 r3 r4 hb4 hg
  go_enter Tryz.func23, Tryz.ntmps23
  go_wp2_with (first
    | (go_at_call 28; refine HOf.out.mono ?_; clear HOf hW3 hW4; rintro e w1 ⟨p, rfl, ho, hb⟩; have HOd := Lib.hid ho; have HB1 := Lib.hid hb; clear ho hb)
    | (go_at_call 32; refine (by have h := OdLen_any p od w1 HOd.out; rw [HOk.out.len] at h; exact h : Calls _ _ _ _ _).mono ?_; rintro e w2 ⟨rfl, rfl⟩)
    | (go_at_call 29; refine (Count_any p 2 od w1 HOd.out HOk.out).mono ?_; rw [HTot.out]; rintro e w3 ⟨rfl, hb⟩; have HB3 := Lib.hid hb; clear hb)
    | (go_at_call 28; refine (OfOd_bad 9 none 0 0 w3 (by omega)).mono ?_; rintro e w4 ⟨ev, rfl, ⟨g, rfl, hbk⟩, hb⟩; have HCo := Lib.hid (Code_flt g 1 0 _ w4 (((HG.out.keep HB4.out).keep HB1.out).keep HB3.out |>.keep hb) hbk); have HB5 := Lib.hid hb; clear hbk hb)
    | (go_at_call 21; refine HCo.out.mono ?_; clear HCo; rintro e w5 ⟨rfl, hb⟩; have HB6 := Lib.hid hb; clear hb))
  go_ret
  exact ⟨rfl, (((HB4.out.andThen HB1.out).andThen HB3.out).andThen HB5.out).andThen HB6.out⟩
end Go.Proofs.YtmonepclhbappaaGreatDoor
/-
  Odags: Cost: numbers and links.
-/
namespace Go.Proofs.YtmonepclhbappaaGreatDoor
open Go.RowKit Go.Maps
set_option maxRecDepth 100000
set_option linter.unusedVariables false

/-- Numbers and links of a row, of rows. -/
def costR (r : Rw) : Nat := (r.map fun q => 1 + q.2.length).sum
def costO (od : List Rw) : Nat := (od.map costR).sum
theorem costR_snoc (r : Rw) (q : Int × List Int) : costR (r ++ [q]) = costR r + (1 + q.2.length) := by unfold costR; rw [List.map_append, List.sum_append]; simp
theorem costR_cons (q : Int × List Int) (r : Rw) : costR (q :: r) = (1 + q.2.length) + costR r := by unfold costR; rw [List.map_cons, List.sum_cons]
theorem costR_perm {r r' : Rw} (h : r.Perm r') : costR r = costR r' := by
  induction h with
  | nil => rfl
  | cons x _ ih => rw [costR_cons, costR_cons, ih]
  | swap x y l => rw [costR_cons, costR_cons, costR_cons, costR_cons]; omega
  | trans _ _ a b => rw [a, b]
theorem costO_take {od : List Rw} {i : Nat} (h : i < od.length) : costO (od.take (i + 1)) = costO (od.take i) + costR (od.getD i []) := by
  unfold costO
  rw [List.take_succ_eq_append_getElem h, List.map_append, List.sum_append, List.getD_eq_getElem?_getD, List.getElem?_eq_getElem h]
  simp
theorem costR_le {K : Nat} {r : Rw} (h : ∀ q ∈ r, q.2.length ≤ K) : costR r ≤ r.length * (K + 1) := by
  induction r with
  | nil => simp [costR]
  | cons q r ih =>
    have h1 := h q (List.mem_cons_self ..)
    have h2 := ih fun x hx => h x (List.mem_cons_of_mem _ hx)
    have e : costR (q :: r) = (1 + q.2.length) + costR r := by unfold costR; rw [List.map_cons, List.sum_cons]
    rw [e, List.length_cons, Nat.add_mul]
    omega

set_option maxHeartbeats 8000000 in
theorem Cost_any (p N : Nat) (od : List Rw) (w : World) (h : OdM w p od) (hO : OdOK od N) :
    Calls Tryz.prog 33 #[.pointer (some ⟨p, 0, none⟩)] w fun e w' => e = .returned (.int .i64 (costO od : Nat)) ∧ Below w.heap.size w w' := by
  have HOd := Lib.hid h
  have HO := Lib.hid hO
  have HLn := Lib.hid (OdLen_any p od w h)
  rw [hO.len] at HLn
  have hN8 := hO.h8
  have HRl := Lib.hid (show ∀ i, i < N → costR (od.getD i []) ≤ 3600060000 ∧ ∀ d : Rw, d.length ≤ (od.getD i []).length → (∀ q ∈ d, q ∈ od.getD i []) → costR d ≤ 3600060000 from fun i hi => by
    have h2 := hO.B _ (getD_memO (show i < od.length by rw [hO.len]; exact hi))
    have h3 := fun (d : Rw) (h5 : d.length ≤ (od.getD i []).length) (h6 : ∀ q ∈ d, q ∈ od.getD i []) => costR_le (r := d) (K := 60000) fun q hq => h2.2 q (h6 q hq)
    have h4 : ∀ d : Rw, d.length ≤ (od.getD i []).length → (∀ q ∈ d, q ∈ od.getD i []) → costR d ≤ 3600060000 := fun d h5 h6 => Nat.le_trans (h3 d h5 h6) (by have := h2.1; have h7 : d.length * (60000 + 1) ≤ 60000 * (60000 + 1) := Nat.mul_le_mul_right _ (by omega); omega)
    exact ⟨h4 _ (Nat.le_refl _) (fun q hq => hq), h4⟩)
  have HCt := Lib.hid (show ∀ i, i ≤ N → costO (od.take i) ≤ i * 3600060000 from fun i => by
    induction i with
    | zero => intro _; simp [costO]
    | succ i ih =>
      intro hi
      rw [costO_take (by rw [hO.len]; omega)]
      have := ih (by omega)
      have := (HRl.out i (by omega)).1
      omega)
  clear h hO
  go_enter Tryz.func33, Tryz.ntmps33
  go_wp2_with (go_at_call 32; refine HLn.out.mono ?_; clear HLn; rintro e w' ⟨rfl, rfl⟩)
  go_loopw [3, 9] (fun nv iv wr => ∃ (i : Nat), i ≤ N ∧ iv = .int .i64 (i : Int) ∧ nv = .int .i64 ((costO (od.take i) : Nat) : Int) ∧ Hid (Below w.heap.size w wr)) (fun _ iv _ => N - (intOf iv).toNat)
  case atStart => exact ⟨0, Nat.zero_le _, rfl, rfl, Lib.hid (Below.refl _ _)⟩
  case round =>
    obtain ⟨i, hi, rfl, rfl, HB⟩ := hrel
    by_cases hiN : i < N
    · have hiN' : (i : Int) < (N : Int) := by omega
      have hio : i < od.length := by rw [HO.out.len]; exact hiN
      obtain ⟨rb, ro, on, oc, mb, hon, co0, hoc, co1, hrow0⟩ := (HOd.out.keep HB.out).row hio
      obtain ⟨row, hrow⟩ : ∃ row, row = od.getD i [] := ⟨_, rfl⟩
      have HTk := Lib.hid (costO_take hio)
      rw [← hrow] at hrow0 HTk
      have HRowE := Lib.hid hrow
      have HRw := Lib.hid hrow0
      have hion : (i : Int) < (on : Int) := by rw [hon]; omega
      have hi0 : (0 : Int) ≤ (i : Int) := by omega
      obtain ⟨cb, hcb⟩ : ∃ cb, cb = costO (od.take i) := ⟨_, rfl⟩
      have hcbl : cb ≤ 8 * 3600060000 := by rw [hcb]; exact Nat.le_trans (HCt.out i hi) (Nat.mul_le_mul_right _ (by omega))
      rw [← hcb] at HTk ⊢
      have HRb := Lib.hid (HRl.out i hiN)
      rw [← hrow] at HRb
      clear hcb hrow hrow0 hon hio
      go_wp2_with (at_range; refine wpList_rangeR _ rfl _ rfl mb row rfl HRw.out ?_; intro w2 hrg hb2 hs2; have HRg := Lib.hid hrg; have HB2 := Lib.hid hb2; clear hrg hb2 hs2)
      obtain ⟨it, hit⟩ : ∃ it, it = wr.heap.size := ⟨_, rfl⟩
      have HIt := Lib.hid (show w.heap.size ≤ it from by rw [hit]; exact HB.out.size)
      have HB22 := Lib.hid (HB.out.andThen HB2.out)
      rw [← hit] at HRg ⊢
      clear co0 co1 hit HB HB2 HRw
      go_wp2_with fail
      go_frame
      go_loopw [3] (fun nv wx => ∃ done : Rw, nv = .int .i64 ((cb + costR done : Nat) : Int) ∧ Hid (RangesR wx mb it row done) ∧ Hid (Below w.heap.size w wx)) (fun _ wx => wx.rangeLeft mb it)
      case atStart => exact ⟨[], rfl, HRg, HB22⟩
      case round =>
        clear HRg HB22
        obtain ⟨done, rfl, HRg, HBx⟩ := hrel
        go_wp2_with (at_next; refine wpList_nextR _ rfl _ rfl mb it _ done rfl HRg.out ?_ ?_)
        · intro hperm
          have HPm := Lib.hid hperm
          clear hperm
          go_wp2_with fail
          go_roundw
          case rel => exact ⟨i + 1, by omega, by go_num, by rw [HTk.out, costR_perm HPm.out]; first | rfl | (congr 1; omega), HBx⟩
          case measure => (simp [intOf] <;> omega)
        · intro y A c l w3 hyl hyk hrow3 hrg3 hlt3 hg3 hnc3 hsz3 hen3
          have HRg3 := Lib.hid hrg3
          have HB3 := Lib.hid (bel_turn HBx.out hg3 HIt.out HBx.out.size)
          have hcd := HRb.out.2 (done ++ [(y, l)]) (done_leR hrg3) hrg3.sub
          have HSn := Lib.hid (costR_snoc done (y, l))
          rw [HSn.out] at hcd
          have HLt3 := Lib.hid hlt3
          obtain ⟨cd, hcd2⟩ : ∃ cd, cd = costR done := ⟨_, rfl⟩
          rw [← hcd2] at HSn hcd ⊢
          simp only at hcd
          have hw1 : IntKind.i64.wrap (1 + (l.length : Int)) = 1 + (l.length : Int) := by rw [IntKind.wrap_i64]; omega
          have hw2 : IntKind.i64.wrap (((cb + cd : Nat) : Int) + (1 + (l.length : Int))) = ((cb + cd : Nat) : Int) + (1 + (l.length : Int)) := by rw [IntKind.wrap_i64]; omega
          have hw3 : IntKind.i64.wrap ((cb : Int) + (cd : Int) + (1 + (l.length : Int))) = (cb : Int) + (cd : Int) + (1 + (l.length : Int)) := by rw [IntKind.wrap_i64]; omega
          clear hcd2 hyl hyk hrow3 hrg3 hlt3 hg3 hnc3 hsz3
          go_wp2_with fail
          go_roundw
          case rel => exact ⟨done ++ [(y, l)], by rw [HSn.out]; congr 1; simp only; omega, HRg3, HB3⟩
          case measure => exact HLt3.out
    · obtain rfl : i = N := by omega
      have hiN' : ¬ (i : Int) < (i : Int) := by omega
      have HTk := Lib.hid (show od.take i = od from List.take_of_length_le (by rw [HO.out.len]; exact Nat.le_refl _))
      rw [HTk.out]
      go_wp2_with fail
      go_ret
      exact ⟨rfl, HB.out⟩
end Go.Proofs.YtmonepclhbappaaGreatDoor
