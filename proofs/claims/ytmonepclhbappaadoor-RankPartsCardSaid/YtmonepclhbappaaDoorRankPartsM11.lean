/-
  Part 11 of the proof of RankParts: RefP, RankAt1, RankE, KeepT.
-/
import Derived.Deep.RegionHeldLaw
import Derived.Deep.Cut
import Derived.Deep.DeepCutAuto
import Derived.Test.YtmonepclhbappaaDoorRankPartsM10
import Derived.Deep.RegionHeld3
import Derived.RangeFuncFrom
import Derived.Test.YtmonepclhbappaaDoorRankPartsM9
import Derived.Test.YtmonepclhbappaaDoorRankPartsM4
import Derived.Test.YtmonepclhbappaaDoorRankPartsM2
/-
  The document's odags: Paths.
-/
namespace Go.Proofs.YtmonepclhbappaaDoor
open Go.RowKit
set_option maxRecDepth 100000
set_option linter.unusedVariables false

/-- May a number come behind a beginning? -/
def okD (ls : List (List Int)) (p : List Int) (b : Int) : Bool := p.isEmpty || linkedB ls (p.length - 1) (p.getD (p.length - 1) 0) b
theorem nextD_ok (ls : List (List Int)) (p : List Int) : nextD ls p = (col ls p.length).filter (okD ls p) := by
  unfold nextD okD
  by_cases h : p = []
  · subst h
    rw [if_pos rfl]
    simp
    exact (List.filter_eq_self.2 fun _ _ => rfl).symm
  · rw [if_neg h]
    refine List.filter_congr fun b _ => ?_
    have : p.isEmpty = false := by simpa using h
    rw [this]
    rfl
def stepP (ls : List (List Int)) (p : List Int) : List (List Int) := ((col ls p.length).filter (okD ls p)).map fun a => p ++ [a]
def stepPj (ls : List (List Int)) (p : List Int) (r : List Int) (j : Nat) : List (List Int) := ((r.take j).filter (okD ls p)).map fun a => p ++ [a]
theorem stepPj_succ {ls : List (List Int)} {p r : List Int} {j : Nat} {y : Int} (h : r[j]? = some y) : stepPj ls p r (j + 1) = stepPj ls p r j ++ if okD ls p y then [p ++ [y]] else [] := by
  unfold stepPj
  obtain ⟨h1, h2⟩ := List.getElem?_eq_some_iff.1 h
  rw [List.take_succ_eq_append_getElem h1, h2, List.filter_append, List.map_append]
  congr 1
  by_cases hk : okD ls p y = true
  · rw [if_pos hk, List.filter_cons_of_pos hk]; rfl
  · rw [if_neg hk, List.filter_cons_of_neg hk]; rfl
theorem stepPj_len (ls : List (List Int)) (p r : List Int) (j : Nat) : (stepPj ls p r j).length ≤ r.length := by
  unfold stepPj
  rw [List.length_map]
  refine Nat.le_trans (List.length_filter_le _ _) ?_
  rw [List.length_take]
  exact Nat.min_le_right _ _
theorem stepP_len (ls : List (List Int)) (p : List Int) : (stepP ls p).length ≤ ls.length := by
  unfold stepP
  rw [List.length_map]
  exact Nat.le_trans (List.length_filter_le _ _) (col_le _ _)
/-- The beginnings of a length, as the document makes them. -/
def prefD (ls : List (List Int)) : Nat → List (List Int)
  | 0 => [[]]
  | i + 1 => (prefD ls i).flatMap (stepP ls)
theorem prefD_eq {n : Nat} {ls : List (List Int)} (h : ∀ x ∈ ls, x.length = n) : ∀ i, i ≤ n → prefD ls i = prefs (odOf n ls) i
  | 0, _ => rfl
  | i + 1, hi => by
    rw [prefD, prefs, prefD_eq h i (by omega)]
    refine flatMap_congr' fun p hp => ?_
    have hpl := prefs_el _ _ p hp
    unfold stepP
    rw [nextD_eq h (by omega), nextD_ok]
theorem flatP_len {f : List Int → List (List Int)} {K : Nat} (h : ∀ l, (f l).length ≤ K) : ∀ L : List (List Int), (L.flatMap f).length ≤ L.length * K
  | [] => Nat.zero_le _
  | l :: L => by
    rw [List.flatMap_cons, List.length_append, List.length_cons, Nat.add_mul]
    have h1 := flatP_len h L
    have h2 := h l
    omega
theorem prefD_len (ls : List (List Int)) : ∀ i, (prefD ls i).length ≤ ls.length ^ i
  | 0 => Nat.le_refl _
  | i + 1 => by
    rw [prefD, Nat.pow_succ]
    exact Nat.le_trans (flatP_len (stepP_len ls) _) (Nat.mul_le_mul_right _ (prefD_len ls i))
theorem prefD_el (ls : List (List Int)) : ∀ i, ∀ p ∈ prefD ls i, p.length = i
  | 0, p, h => by rw [List.mem_singleton.1 h]; rfl
  | i + 1, p, h => by
    obtain ⟨q, hq, hp⟩ := List.mem_flatMap.1 h
    obtain ⟨a, _, rfl⟩ := List.mem_map.1 hp
    rw [List.length_append, prefD_el ls i q hq]
    rfl
theorem flat_step (f : List Int → List (List Int)) {L : List (List Int)} {k : Nat} {p : List Int} (h : L[k]? = some p) : (L.take (k + 1)).flatMap f = (L.take k).flatMap f ++ f p := by
  obtain ⟨h1, h2⟩ := List.getElem?_eq_some_iff.1 h
  rw [List.take_succ_eq_append_getElem h1, h2, List.flatMap_append]; simp
theorem own0 (W : World) (cs : Array Value) (h : cs = #[]) : (W.alloc (.cells cs 3)).ownsRow W.heap.size 3 1 (.slice (some ⟨W.heap.size, 0, none⟩) 0 0) 0 [] := by
  subst h
  have := World.ownsRow_made (base := W.heap.size) (size := 1) (e := 3) W #[] 0 (Nat.le_refl _) (by unfold maxLen; omega) rfl
  simpa using this

theorem newAt1' (w : World) (o : Obj) (cs : List Value) (e : TypeId) (n : Nat) (hn : cs.length = n) : Sl ((w.alloc o).alloc (.cells cs.toArray e)) 1 (some ⟨w.heap.size + 1, 0, none⟩) n cs := by
  have h := Sl.newAt (w.alloc o) cs e n hn
  rw [World.size_alloc] at h
  exact h

set_option maxHeartbeats 16000000 in
theorem RefPaths_any (its : List (Option Addr × Nat × List Int)) (Q : Option Addr) (m cq n : Nat) (w : World) (hm : its.length = m) (hm2 : m ≤ 13) (hq : Sl w 1 Q m (its.map rv)) (hr : AllRows w its) (hlen : ∀ t ∈ its, t.2.2.length = n) (hn1 : 1 ≤ n) (hn : n ≤ 5) :
    Calls Tryd.prog 31 #[.slice Q m cq, .int .i64 (n : Int)] w fun e w' => ∃ (A : Option Addr) (c : Nat) (jts : List (Option Addr × Nat × List Int)), e = .returned (.slice A jts.length c) ∧ jts.map (·.2.2) = allP (odOf n (its.map (·.2.2))) ∧ Sl w' 1 A jts.length (jts.map rv) ∧ AllRows w' jts ∧ jts.length ≤ c ∧ c ≤ 9223372036854775807 ∧ jts.length ≤ 371293 ∧ Below w.heap.size w w' := by
  have HQ := Lib.hid hq
  have HR := Lib.hid hr
  have HM := Lib.hid hm
  have HL := Lib.hid hlen
  obtain ⟨ls, hls⟩ : ∃ ls, ls = its.map (·.2.2) := ⟨_, rfl⟩
  have HLs := Lib.hid hls
  have HLl := Lib.hid (show ls.length ≤ 13 from by rw [hls, List.length_map, hm]; exact hm2)
  have HEnd := Lib.hid (show prefD ls n = allP (odOf n (its.map (·.2.2))) from by
    have hx : ∀ x ∈ its.map (·.2.2), x.length = n := fun x hx => by
      obtain ⟨t, ht, rfl⟩ := List.mem_map.1 hx
      exact hlen t ht
    have := prefs_end (od := odOf n (its.map (·.2.2))) (by rw [odOf_len]; exact hn1)
    rw [odOf_len] at this
    rw [hls, prefD_eq hx n (Nat.le_refl _), this])
  clear hq hr hm hlen hls
  go_enter Tryd.func31, Tryd.ntmps31
  go_wp2_with fail
  go_loopw [5, 6] (fun lv iv wr => ∃ (i : Nat) (A : Option Addr) (c : Nat) (jts : List (Option Addr × Nat × List Int)), i ≤ n ∧ iv = .int .i64 (i : Int) ∧ lv = .slice A jts.length c ∧ Hid (jts.map (·.2.2) = prefD ls i) ∧ Hid (Sl wr 1 A jts.length (jts.map rv)) ∧ Hid (AllRows wr jts) ∧ Hid (jts.length ≤ c ∧ c ≤ 9223372036854775807) ∧ Hid (Below w.heap.size w wr)) (fun _ iv _ => n - (intOf iv).toNat)
  case atStart =>
    refine ⟨0, _, _, [(some ⟨w.heap.size, 0, none⟩, 0, [])], Nat.zero_le _, rfl, rfl, Lib.hid rfl, ?_, ?_, Lib.hid ⟨Nat.le_refl _, by simp⟩, Lib.hid (bel_al (bel_al (Below.refl _ _) _) _)⟩
    · have := Sl.newAt (w.alloc (.cells #[] 3)) [.slice (some ⟨w.heap.size, 0, none⟩) 0 0] 22 1 rfl
      exact Lib.hid (by simpa [rv] using this)
    · refine Lib.hid fun t ht => ?_
      obtain rfl : t = (some ⟨w.heap.size, 0, none⟩, 0, []) := by simpa using ht
      exact ⟨Sl.nil _ _ _, Nat.le_refl _, by simp⟩
  case round =>
    obtain ⟨i, A, c, jts, hi, rfl, rfl, HJ, HSl, HOk, HCap, HBr⟩ := hrel
    have hlen : jts.length ≤ 371293 := by
      have h1 := congrArg List.length HJ.out
      rw [List.length_map] at h1
      have h2 := prefD_len ls i
      have h3 : ls.length ^ i ≤ 13 ^ i := Nat.pow_le_pow_left HLl.out i
      have h4 : (13 : Nat) ^ i ≤ 13 ^ 5 := Nat.pow_le_pow_right (by omega) (by omega)
      have h5 : (13 : Nat) ^ 5 = 371293 := rfl
      omega
    obtain ⟨z, hz⟩ : ∃ z, z = jts.length := ⟨_, rfl⟩
    rw [← hz] at hlen HSl HCap ⊢
    have HZ := Lib.hid hz
    clear hz
    by_cases hin : i < n
    · have hin' : (i : Int) < (n : Int) := by omega
      have HRo := Lib.hid (RefRow_any its Q m cq n i wr HM.out (by omega) (HQ.out.keep HBr.out) (HR.out.keep HBr.out) HL.out hin)
      rw [← HLs.out] at HRo
      obtain ⟨r, hr⟩ : ∃ r, r = col ls i := ⟨_, rfl⟩
      rw [← hr] at HRo
      have HRe := Lib.hid hr
      have hrl : r.length ≤ 13 := by rw [hr]; exact Nat.le_trans (col_le _ _) HLl.out
      clear hr
      go_upto_region 6 with (go_at_call 69; refine HRo.out.mono ?_; clear HRo; rintro e wo ⟨D, rc, rfl, h1, h2, h3, hb⟩; have HRs := Lib.hid h3; have HRb := Lib.hid hb; clear h1 h2 h3 hb)
      obtain ⟨rn, hrn⟩ : ∃ rn, rn = r.length := ⟨_, rfl⟩
      rw [← hrn] at hrl HRs ⊢
      have HRn := Lib.hid hrn
      have HSo := Lib.hid (HSl.out.keep HRb.out)
      have HOo := Lib.hid (HOk.out.keep HRb.out)
      have HBo := Lib.hid (HBr.out.andThen HRb.out)
      clear HSl HOk HRb HBr hrn
      go_wp2_with fail
      go_loopw [8, 9] (fun nv kv wx => ∃ (k : Nat) (its2 : List (Option Addr × Nat × List Int)), k ≤ z ∧ kv = .int .i64 (k : Int) ∧ Hid (wx.ownsRow wo.heap.size 22 1 nv its2.length (its2.map rv)) ∧ Hid (its2.map (·.2.2) = ((jts.map (·.2.2)).take k).flatMap (stepP ls)) ∧ Hid (RowsOK wx nv its2) ∧ Hid (Below wo.heap.size wo wx)) (fun _ kv _ => z - (intOf kv).toNat)
      case atStart => exact ⟨0, [], Nat.zero_le _, rfl, Lib.hid (World.ownsRow_nil _ _ _ _), Lib.hid rfl, Lib.hid (fun _ h => by simp at h), Lib.hid (Below.refl _ _)⟩
      case round =>
        obtain ⟨k, its2, hk, rfl, HO, HI2, HI2ok, HB⟩ := hrel
        by_cases hkz : k < z
        · have hkz' : (k : Int) < (z : Int) := by omega
          obtain ⟨D2, d2, l, ht, hl⟩ := its_row (its := jts) (k := k) (by rw [← HZ.out]; exact hkz)
          have HT := Lib.hid ht
          have hll : l.length = i := prefD_el ls i l (by rw [← HJ.out]; exact List.mem_of_getElem? hl)
          have HLk := Lib.hid hl
          have HLi := Lib.hid hll
          have HRow := Lib.hid (HOo.out _ (List.mem_of_getElem? ht))
          clear ht hl hll
          go_wp2_with fail
          go_loopw [8, 10] (fun nv jv wx => ∃ (j : Nat) (its2 : List (Option Addr × Nat × List Int)), j ≤ rn ∧ jv = .int .i64 (j : Int) ∧ Hid (wx.ownsRow wo.heap.size 22 1 nv its2.length (its2.map rv)) ∧ Hid (its2.map (·.2.2) = ((jts.map (·.2.2)).take k).flatMap (stepP ls) ++ stepPj ls l r j) ∧ Hid (RowsOK wx nv its2) ∧ Hid (Below wo.heap.size wo wx)) (fun _ jv _ => rn - (intOf jv).toNat)
          case atStart => exact ⟨0, its2, Nat.zero_le _, rfl, HO, Lib.hid (by rw [HI2.out]; simp [stepPj]), HI2ok, HB⟩
          case round =>
            clear HO HI2 HI2ok HB its2
            obtain ⟨j, its2, hj, rfl, HO, HI2, HI2ok, HB⟩ := hrel
            have hjl : its2.length ≤ 5000000 := by
              have h1 := congrArg List.length HI2.out
              rw [List.length_map, List.length_append] at h1
              have h2 := flatP_len (stepP_len ls) ((jts.map (·.2.2)).take k)
              have h3 : ((jts.map (·.2.2)).take k).length * ls.length ≤ 371293 * 13 := Nat.mul_le_mul (by rw [List.length_take, List.length_map]; omega) HLl.out
              have h4 := stepPj_len ls l r j
              have h5 := HRn.out
              omega
            obtain ⟨y2, hy2⟩ : ∃ y, y = its2.length := ⟨_, rfl⟩
            rw [← hy2] at hjl HO
            have HY2 := Lib.hid hy2
            clear hy2
            by_cases hjn : j < rn
            · have hjn' : (j : Int) < (rn : Int) := by omega
              obtain ⟨x, hx⟩ : ∃ x, r[j]? = some x := ⟨_, List.getElem?_eq_getElem (by rw [← HRn.out]; exact hjn)⟩
              have HXr := Lib.hid hx
              have HBw := Lib.hid HB.out
              obtain ⟨b, off, rfl, _⟩ := HSo.out.at_ (show 0 < z by omega)
              have c1o := HSo.out.again hkz (show (jts.map rv)[k]? = some (rv (D2, d2, l)) by rw [List.getElem?_map, HT.out]; rfl)
              have c1 := (HSo.out.keep HB.out).again hkz (show (jts.map rv)[k]? = some (rv (D2, d2, l)) by rw [List.getElem?_map, HT.out]; rfl)
              simp only [rv] at c1
              rw [HLi.out] at c1
              obtain ⟨b3, o3, rfl, c3o⟩ := HRs.out.i64 HRn.out.symm hjn
              have HLt := Lib.hid (show b < wo.heap.size ∧ b3 < wo.heap.size from ⟨World.block_lt_of_cell? wo _ c1o, World.block_lt_of_cell? wo _ c3o⟩)
              obtain ⟨b3', o3', e3', c3⟩ := (HRs.out.keep HB.out).i64 HRn.out.symm hjn
              cases e3'
              clear c1o c3o
              rw [(List.getElem?_eq_some_iff.1 hx).2] at c3
              clear hx
              have HSt := Lib.hid (stepPj_succ (ls := ls) (p := l) HXr.out)
              go_upto_region 13 with (fail)
              go_cut [52] from 33 to 52 (fun v wx => v = .bool (okD ls l x) ∧ Hid (∃ q, wx = wr.drewN q))
              case first =>
                by_cases h0 : i = 0
                · subst h0
                  have HOk0 := Lib.hid (show okD ls l x = true from by
                    have := List.eq_nil_of_length_eq_zero HLi.out
                    rw [this]
                    rfl)
                  go_quiet (fail)
                  go_wp2_with fail
                  go_meet
                  exact ⟨by rw [HOk0.out], Lib.hid ⟨_, rfl⟩⟩
                · obtain ⟨i', rfl⟩ : ∃ i', i = i' + 1 := ⟨i - 1, by omega⟩
                  have hrow := (HRow.out.keep HB.out).1
                  simp only at hrow
                  rw [HLi.out] at hrow
                  obtain ⟨b4, o4, rfl, c4⟩ := hrow.i64 HLi.out (show i' < i' + 1 by omega)
                  obtain ⟨y, hy⟩ : ∃ y, l[i']'(by rw [HLi.out]; omega) = y := ⟨_, rfl⟩
                  rw [hy] at c4
                  have HLk2 := Lib.hid (show ∀ W, Below wr.heap.size wr W → Calls Tryd.prog 70 #[.slice Q m cq, .int .i64 (i' : Int), .int .i64 y, .int .i64 x] W (fun e w' => e = .returned (.bool (okD ls l x)) ∧ ∃ q, w' = W.drewN q) from fun W hW => by
                    have h := RefLinked_any its Q m cq n i' y x W HM.out (by omega) (((HQ.out.keep HBo.out).keep HB.out).keep hW) (((HR.out.keep HBo.out).keep HB.out).keep hW) HL.out (by omega) (by omega)
                    refine h.mono ?_
                    rintro e w' ⟨rfl, rfl⟩
                    refine ⟨ret_bool ?_, 0, rfl⟩
                    unfold okD
                    rw [← HLs.out, HLi.out, Nat.add_sub_cancel, List.getD_eq_getElem?_getD, List.getElem?_eq_getElem (by rw [HLi.out]; omega), hy]
                    have : l.isEmpty = false := by
                      cases l with
                      | nil => have := HLi.out; cases this
                      | cons _ _ => rfl
                    rw [this]
                    rfl)
                  have e0 : (((i' + 1 : Nat) : Int) == 0) = false := by simp; omega
                  have e1 : ((i' : Int) + 1 == 0) = false := by simp; omega
                  have e2 : ¬ ((i' : Int) + 1 = 0) := by omega
                  have e3 : IntKind.i64.wrap ((i' : Int) + 1 - 1) = (i' : Int) := by rw [IntKind.wrap_i64]; omega
                  have e4 : IntKind.i64.wrap (i' : Int) = (i' : Int) := by rw [IntKind.wrap_i64]; omega
                  have e5 : (i' : Int) < (i' : Int) + 1 := by omega
                  have e6 : (i' : Int) < ((i' + 1 : Nat) : Int) := by omega
                  clear hy hrow h0
                  obtain ⟨ob, hob⟩ : ∃ ob, ob = okD ls l x := ⟨_, rfl⟩
                  have HOb := Lib.hid hob
                  rw [← hob] at HLk2
                  clear hob
                  go_quiet (first | (go_at_call 70; exact Calls.quiet_of (HLk2.out _ (drew_bel ⟨_, rfl⟩))))
                  go_wp2_with fail
                  go_meet
                  exact ⟨by rw [HOb.out], Lib.hid ⟨_, rfl⟩⟩
              case rest =>
                obtain ⟨rfl, HDq⟩ := hcut
                have HBc := Lib.hid (show Below wr.heap.size wr wc from by
                  obtain ⟨q, rfl⟩ := HDq.out
                  exact bel_drewN (Below.refl _ _) _)
                clear c1 c3 HDq
                obtain ⟨ob, hob⟩ : ∃ ob, ob = okD ls l x := ⟨_, rfl⟩
                rw [← hob]
                have HObb := Lib.hid hob
                clear hob
                have HBq := Lib.hid (HB.out.andThen HBc.out)
                have HOc := Lib.hid (own_below HO.out (fun g hg => (HO.out.lt g hg).2) HBc.out)
                have HI2c := Lib.hid (HI2ok.out.keep HBc.out)
                cases ob with
                | false =>
                  go_wp2_with fail
                  go_roundw
                  case rel => exact ⟨j + 1, its2, by omega, by go_num, by rw [← HY2.out]; exact HOc, Lib.hid (by rw [HSt.out, HI2.out, ← HObb.out]; simp), HI2c, HBq⟩
                  case measure => simp [intOf]; omega
                | true =>
                  have HRowc := Lib.hid (HRow.out.keep HBq.out)
                  have hrowc := HRowc.out.1
                  simp only at hrowc
                  rw [HLi.out] at hrowc
                  have HRc := Lib.hid hrowc
                  have c1 := (HSo.out.keep HBq.out).again hkz (show (jts.map rv)[k]? = some (rv (D2, d2, l)) by rw [List.getElem?_map, HT.out]; rfl)
                  simp only [rv] at c1
                  rw [HLi.out] at c1
                  obtain ⟨b3', o3', e3, c3⟩ := (HRs.out.keep HBq.out).i64 HRn.out.symm hjn
                  cases e3
                  rw [(List.getElem?_eq_some_iff.1 HXr.out).2] at c3
                  have HC := Lib.hid (show ∀ W, Below wc.heap.size wc W → W.cell? ⟨b, off + k, none⟩ = some (.slice D2 i d2) ∧ W.cell? ⟨b3, o3 + j, none⟩ = some (.int .i64 x) from fun W hW => ⟨(hW.cell (p := ⟨b, off + k, none⟩) (World.block_lt_of_cell? wc _ c1)).trans c1, (hW.cell (p := ⟨b3, o3 + j, none⟩) (World.block_lt_of_cell? wc _ c3)).trans c3⟩)
                  have c1a : ∀ o, (wc.drew.alloc o).cell? ⟨b, off + k, none⟩ = some (.slice D2 i d2) := fun o => (HC.out _ (bel_al (bel_drewN (Below.refl _ _) 1) o)).1
                  have c1b : ∀ o o', ((wc.drew.alloc o).alloc o').cell? ⟨b, off + k, none⟩ = some (.slice D2 i d2) := fun o o' => (HC.out _ (bel_al (bel_al (bel_drewN (Below.refl _ _) 1) o) o')).1
                  have c3a : ∀ o, (wc.drew.alloc o).cell? ⟨b3, o3 + j, none⟩ = some (.int .i64 x) := fun o => (HC.out _ (bel_al (bel_drewN (Below.refl _ _) 1) o)).2
                  have c1a' : ∀ o, (wc.alloc o).cell? ⟨b, off + k, none⟩ = some (.slice D2 i d2) := fun o => (HC.out _ (bel_al (Below.refl _ _) o)).1
                  have c1b' : ∀ o o', ((wc.alloc o).alloc o').cell? ⟨b, off + k, none⟩ = some (.slice D2 i d2) := fun o o' => (HC.out _ (bel_al (bel_al (Below.refl _ _) o) o')).1
                  have c3a' : ∀ o, (wc.alloc o).cell? ⟨b3, o3 + j, none⟩ = some (.int .i64 x) := fun o => (HC.out _ (bel_al (Below.refl _ _) o)).2
                  have HD := Lib.hid (show Below wc.heap.size wc wc.drew from bel_drewN (Below.refl _ _) 1)
                  have HE1 := Lib.hid (show ∀ cs : Array Value, cs = #[] → (wc.drew.alloc (.cells cs 3)).ownsRow wc.heap.size 3 1 (.slice (some ⟨wc.heap.size, 0, none⟩) 0 0) 0 [] from fun cs h => own0 wc.drew cs h)
                  have HE3 := Lib.hid (show ∀ (o : Obj) (cs : Array Value), cs = #[] → ((wc.drew.alloc o).alloc (.cells cs 3)).ownsRow wc.heap.size 3 1 (.slice (some ⟨wc.heap.size + 1, 0, none⟩) 0 0) 0 [] from fun o cs h => by
                    have := own_mono (own0 (wc.drew.alloc o) cs h) (show wc.heap.size ≤ (wc.drew.alloc o).heap.size by simp)
                    rw [World.size_alloc] at this
                    exact this)
                  have hi5 : i ≤ 5 := by omega
                  have HO1 := Lib.hid (one_i64 l)
                  have HOB := Lib.hid (fun w4 (hb4 : Below wc.heap.size wc w4) => (show w4.ownsRow wo.heap.size 22 1 u8 y2 (its2.map rv) ∧ wo.heap.size ≤ w4.heap.size from ⟨own_below HOc.out (fun g hg => (HOc.out.lt g hg).2) hb4, Nat.le_trans HBq.out.size hb4.size⟩))
                  go_upto_region 14 with (fail)
                  have HCo := Lib.hid (show ∀ W, Below wo.heap.size wc W → W.cell? ⟨b, off + k, none⟩ = some (.slice D2 i d2) ∧ W.cell? ⟨b3, o3 + j, none⟩ = some (.int .i64 x) from fun W hW => ⟨(hW.cell (p := ⟨b, off + k, none⟩) HLt.out.1).trans c1, (hW.cell (p := ⟨b3, o3 + j, none⟩) HLt.out.2).trans c3⟩)
                  have hws := HBq.out.size
                  go_region_held_law (fun w' => w'.cell? ⟨b, off + k, none⟩ = some (.slice D2 i d2) ∧ w'.cell? ⟨b3, o3 + j, none⟩ = some (.int .i64 x)) (first | exact HCo.out _ HX67.out | exact HCo.out _ HX65.out | exact HCo.out _ HX59.out | go_keep) (first
                    | (refine step_cat_at elemInt (.tmp 54) (.tmp 58) rfl rfl (HE1.out _ rfl) (by simp) (Sl.keep HRc.out (bel_al HD.out _)) rfl rfl HO1.out (by unfold lim; omega) (by unfold lim; omega) ?_
                       intro v59 w59 hown59 hgr59
                       have hb59 := (bel_al HD.out (.cells #[] 3)).trans (hgr59.belowOwn (by simp) (HE1.out _ rfl))
                       have HO59 := Lib.hid hown59
                       have HB59 := Lib.hid hb59
                       have HX59 := Lib.hid (hb59.mono hws)
                       clear hown59 hgr59 hb59)
                    | (refine step_cat_at elemInt (.tmp 54) (.tmp 58) rfl rfl ((HE1.out _ rfl).alloc (.cells #[.int .i64 x] 3)) (by simp; omega) (Sl.keep HRc.out (bel_al (bel_al HD.out _) _)) rfl rfl HO1.out (by unfold lim; omega) (by unfold lim; omega) ?_
                       intro v59 w59 hown59 hgr59
                       have hb59 := (bel_al (bel_al HD.out (.cells #[] 3)) (.cells #[.int .i64 x] 3)).trans (hgr59.belowOwn (by simp; omega) ((HE1.out _ rfl).alloc _))
                       have HO59 := Lib.hid hown59
                       have HB59 := Lib.hid hb59
                       have HX59 := Lib.hid (hb59.mono hws)
                       have HSx := Lib.hid (Sl.grownQ (newAt1' wc.drew (.cells #[] 3) [.int .i64 x] 3 1 rfl) hgr59.g (fun y hy => by cases hy; exact ⟨by simp, fun e => by have e' := Option.some.inj e; simp at e'⟩))
                       clear hown59 hgr59 hb59)
                    | (refine step_cat_at elemInt (.tmp 54) (.tmp 58) rfl rfl (HE3.out (.cells #[.int .i64 x] 3) _ rfl) (by simp; omega) (Sl.keep HRc.out (bel_al (bel_al HD.out _) _)) rfl rfl HO1.out (by unfold lim; omega) (by unfold lim; omega) ?_
                       intro v59 w59 hown59 hgr59
                       have hb59 := (bel_al (bel_al HD.out (.cells #[.int .i64 x] 3)) (.cells #[] 3)).trans (hgr59.belowOwn (by simp; omega) (HE3.out _ _ rfl))
                       have HO59 := Lib.hid hown59
                       have HB59 := Lib.hid hb59
                       have HX59 := Lib.hid (hb59.mono hws)
                       have HSx := Lib.hid (Sl.grownQ ((Sl.newAt wc.drew [.int .i64 x] 3 1 rfl).alloc (.cells #[] 3)) hgr59.g (fun y hy => by cases hy; exact ⟨by simp; omega, fun e => by have e' := Option.some.inj e; simp at e'⟩))
                       clear hown59 hgr59 hb59)
                    | (refine step_cat_at elemInt (.tmp 59) (.tmp 64) rfl rfl (HO59.out.alloc _) (by have := HB59.out.size; simp; omega) (Sl.newAt w59 [.int .i64 x] _ 1 rfl) rfl rfl (by simp [Value.oneCell']) (by unfold lim; omega) (by unfold lim; omega) ?_
                       intro v65 w65 hown65 hgr65
                       have hb65 := (bel_al HB59.out (.cells #[.int .i64 x] 3)).trans (hgr65.belowOwn (by have := HB59.out.size; simp; omega) (HO59.out.alloc _))
                       obtain ⟨g65, c65, rfl, hg65⟩ := own_form hown65 (by omega)
                       have HO65 := Lib.hid hown65
                       have HB65 := Lib.hid hb65
                       have HG65 := Lib.hid hg65
                       have HX65 := Lib.hid (hb65.mono hws)
                       clear hown65 hgr65 hb65 hg65)
                    | (refine step_cat_at elemInt (.tmp 59) (.tmp 64) rfl rfl HO59.out HB59.out.size HSx.out rfl rfl (by simp [Value.oneCell']) (by unfold lim; omega) (by unfold lim; omega) ?_
                       intro v65 w65 hown65 hgr65
                       have hb65 := HB59.out.trans (hgr65.belowOwn HB59.out.size HO59.out)
                       obtain ⟨g65, c65, rfl, hg65⟩ := own_form hown65 (by omega)
                       have HO65 := Lib.hid hown65
                       have HB65 := Lib.hid hb65
                       have HG65 := Lib.hid hg65
                       have HX65 := Lib.hid (hb65.mono hws)
                       clear hown65 hgr65 hb65 hg65)
                    | (refine step_cat_at elemIntsQ (.tmp 53) (.tmp 66) rfl rfl ((HOB.out w65 HB65.out).1.alloc _) (by have := (HOB.out w65 HB65.out).2; simp; omega) (Sl.newAt w65 _ _ 1 rfl) rfl rfl (by simp [Value.oneCell']) (by unfold lim; omega) (by unfold lim; omega) ?_
                       intro v67 w67 hown67 hgr67
                       have hgr := hgr67.after_alloc
                       have hb67 := HX65.out.trans (hgr.belowOwn (HOB.out w65 HB65.out).2 (HOB.out w65 HB65.out).1)
                       have HO67 := Lib.hid hown67
                       have HGr := Lib.hid hgr
                       have HX67 := Lib.hid hb67
                       clear hown67 hgr67 hb67 hgr))
                  all_goals
                    go_wp2_with fail
                    try go_big_round
                    refine ⟨?_, ?_⟩
                    · have hsl := Sl.of_own HO65.out
                      have hcap := own_cap HO65.out
                      have e2 : 0 + i + 1 = (l ++ [x]).length := by rw [List.length_append, HLi.out]; simp
                      rw [e2] at hsl hcap
                      have hit : RowOK w65 (some ⟨g65, 0, none⟩, c65, l ++ [x]) := ⟨by simpa using hsl, hcap.1, hcap.2⟩
                      have h6 := rows_more HOc.out HI2c.out HB65.out hit HG65.out (HO65.out.lt g65 rfl).2 (by simpa [rv, HLi.out] using HO67.out) HGr.out
                      refine ⟨j + 1, its2 ++ [(some ⟨g65, 0, none⟩, c65, l ++ [x])], by omega, by go_num, Lib.hid ?_, Lib.hid ?_, Lib.hid h6.2, Lib.hid (HBq.out.trans HX67.out)⟩
                      · rw [List.length_append, ← HY2.out]; exact h6.1
                      · rw [List.map_append, HSt.out, HI2.out, ← HObb.out, List.append_assoc]; rfl
                    · simp [intOf]; omega
            · obtain rfl : j = rn := by omega
              have hjn' : ¬ (j : Int) < (j : Int) := by omega
              go_wp2_with fail
              go_roundw
              case rel =>
                refine ⟨k + 1, its2, by omega, by go_num, by rw [← HY2.out]; exact HO, Lib.hid ?_, HI2ok, HB⟩
                rw [flat_step _ HLk.out, HI2.out]
                unfold stepP stepPj
                rw [HLi.out, ← HRe.out, HRn.out, List.take_length]
              case measure => simp [intOf]; omega
        · obtain rfl : k = z := by omega
          have hkz' : ¬ (k : Int) < (k : Int) := by omega
          go_wp2_with fail
          go_roundw
          case rel =>
            obtain ⟨A2, c2, rfl, hs2⟩ := Sl.own HO.out
            have hcap2 := own_cap HO.out
            refine ⟨i + 1, A2, c2, its2, by omega, by go_num, rfl, Lib.hid ?_, Lib.hid hs2, Lib.hid (fun t ht => (HI2ok.out t ht).1), Lib.hid hcap2, Lib.hid (HBo.out.andThen HB.out)⟩
            rw [HI2.out, HZ.out, ← List.length_map (·.2.2), List.take_length, HJ.out]; rfl
          case measure => simp [intOf]; omega
    · obtain rfl : i = n := by omega
      have hin' : ¬ (i : Int) < (i : Int) := by omega
      go_wp2_with fail
      go_ret
      exact ⟨A, c, jts, by rw [← HZ.out]; rfl, by rw [HJ.out]; exact HEnd.out, by rw [← HZ.out]; exact HSl.out, HOk.out, by rw [← HZ.out]; exact HCap.out.1, HCap.out.2, by rw [← HZ.out]; exact hlen, HBr.out⟩
end Go.Proofs.YtmonepclhbappaaDoor
/-
  Ranks: At where there is no such rank, At and Rank of nothing.
-/
namespace Go.Proofs.YtmonepclhbappaaDoor
open Go.RowKit Go.Maps
set_option maxRecDepth 100000
set_option linter.unusedVariables false

theorem At_nil (n : Int) (w : World) : Calls Tryd.prog 38 #[.pointer none, .int .i64 n] w fun e w' => ∃ ev, e = .returned (.tuple #[.slice none 0 0, ev]) ∧ (Err.flt 10 0 ⟨#[114, 97, 110, 107, 115]⟩).At w' ev ∧ Below w.heap.size w w' := by
  go_enter Tryd.func38, Tryd.ntmps38
  go_wp2_with (go_at_call 44; refine (New_err _ _ _ _).mono ?_; rintro e w' ⟨v, rfl, hv, hb⟩; have HV := Lib.hid hv; have HB := Lib.hid hb; clear hv hb)
  go_ret2
  exact ⟨_, rfl, HV.out, HB.out⟩
theorem At_out (q p : Nat) (od : List Rw) (n : Int) (w : World) (h : RkM w q p od) (hn : n < 0 ∨ totP od ≤ n) : Calls Tryd.prog 38 #[.pointer (some ⟨q, 0, none⟩), .int .i64 n] w fun e w' => ∃ ev, e = .returned (.tuple #[.slice none 0 0, ev]) ∧ (Err.flt 3 0 ⟨#[114, 97, 110, 107]⟩).At w' ev ∧ Below w.heap.size w w' := by
  obtain ⟨mb, m, f, hq, _⟩ := h
  have c2 := hq.cell 2
  simp at c2
  clear hq
  by_cases h0 : n < 0
  · go_enter Tryd.func38, Tryd.ntmps38
    go_wp2_with (go_at_call 44; refine (New_err _ _ _ _).mono ?_; rintro e w' ⟨v, rfl, hv, hb⟩; have HV := Lib.hid hv; have HB := Lib.hid hb; clear hv hb)
    go_ret2
    exact ⟨_, rfl, HV.out, HB.out⟩
  · have h1 : totP od ≤ n := by omega
    clear hn
    go_enter Tryd.func38, Tryd.ntmps38
    go_wp2_with (go_at_call 44; refine (New_err _ _ _ _).mono ?_; rintro e w' ⟨v, rfl, hv, hb⟩; have HV := Lib.hid hv; have HB := Lib.hid hb; clear hv hb)
    go_ret2
    exact ⟨_, rfl, HV.out, HB.out⟩
theorem Rank_nil (A : Option Addr) (n c : Nat) (w : World) : Calls Tryd.prog 39 #[.pointer none, .slice A n c] w fun e w' => ∃ ev, e = .returned (.tuple #[.int .i64 0, ev]) ∧ (Err.flt 10 0 ⟨#[114, 97, 110, 107, 115]⟩).At w' ev ∧ Below w.heap.size w w' := by
  go_enter Tryd.func39, Tryd.ntmps39
  go_wp2_with (go_at_call 44; refine (New_err _ _ _ _).mono ?_; rintro e w' ⟨v, rfl, hv, hb⟩; have HV := Lib.hid hv; have HB := Lib.hid hb; clear hv hb)
  go_ret2
  exact ⟨_, rfl, HV.out, HB.out⟩
end Go.Proofs.YtmonepclhbappaaDoor
/-
  Ranks: Each, where there is nothing to tell.
-/
namespace Go.Proofs.YtmonepclhbappaaDoor
open Go.RowKit Go.Maps
set_option maxRecDepth 100000
set_option linter.unusedVariables false

theorem Each_any (o : Option Addr) (f t : Int) (w : World) : Calls Tryd.prog 32 #[.pointer o, .agg #[.int .i64 f, .int .i64 t]] w fun e w' =>
    e = .returned (.func (.func 71) #[] #[.pointer (some ⟨w.heap.size + 1, 0, none⟩), .pointer (some ⟨w.heap.size, 0, none⟩)]) ∧ w' = (w.alloc (.cells #[.pointer o] 57)).alloc (.cells #[.int .i64 f, .int .i64 t] 63) := by
  go_enter Tryd.func32, Tryd.ntmps32
  go_wp2_with fail
  go_ret
  exact ⟨rfl, rfl⟩

set_option maxHeartbeats 4000000 in
theorem Each1_none (y : Value) (Bp Br q p : Nat) (od : List Rw) (f t : Int) (w : World) (hp : Blk w Bp 63 #[.int .i64 f, .int .i64 t]) (hr : Blk w Br 57 #[.pointer (some ⟨q, 0, none⟩)]) (hk : RkM w q p od) (hft : min t (totP od) ≤ max f 0) :
    Calls Tryd.prog 71 #[y, .pointer (some ⟨Bp, 0, none⟩), .pointer (some ⟨Br, 0, none⟩)] w fun e w' => (∃ v, e = .returned v) ∧ w.grownBy w' none := by
  have c0 := hp.cell 0
  have c1 := hp.cell 1
  have c2 := hr.cell 0
  simp at c0 c1 c2
  have HK := Lib.hid hk
  have hft' : ¬ max f 0 < min t (totP od) := by omega
  clear hp hr hk hft
  go_enter Tryd.func71, Tryd.ntmps71
  go_wp2_with fail
  go_region_held3 (fun w' => w'.cell? ⟨Bp, 0, none⟩ = some (.int .i64 f) ∧ w'.cell? ⟨Bp, 1, none⟩ = some (.int .i64 t) ∧ w'.cell? ⟨Br, 0, none⟩ = some (.pointer (some ⟨q, 0, none⟩))) (go_keep)
    ((go_at_call 34; refine (RkTotal_any q p od _ (HK.out.keep (bel_drewN (Below.refl _ _) 1))).mono ?_; rintro e' w3 ⟨rfl, rfl⟩))
  have hg : w.grownBy (w.drewN 1) none := gb_below (bel_drewN (Below.refl w.heap.size w) 1) none
  have d0 : (w.drewN 1).cell? ⟨Bp, 0, none⟩ = some (.int .i64 f) := c0
  have HG := Lib.hid hg
  clear hg c0 c1 c2 HK
  obtain ⟨w1, hw1⟩ : ∃ w1, w1 = w.drewN 1 := ⟨_, rfl⟩
  rw [← hw1] at HG d0 ⊢
  clear hw1
  go_wp2_with fail
  go_loop [5] (fun iv => iv = .int .i64 (max f 0)) (fun iv => 0)
  case atStart => rfl
  case round =>
    subst hrel
    go_wp2_with fail
    go_end0
    exact ⟨⟨_, rfl⟩, HG.out⟩
abbrev RowE := Option Addr × Nat × List Int
theorem each_none (k : Nat) (Bp Br q p : Nat) (od : List Rw) (f t : Int) (w : World) (hp : Blk w Bp 63 #[.int .i64 f, .int .i64 t]) (hr : Blk w Br 57 #[.pointer (some ⟨q, 0, none⟩)]) (hk : RkM w q p od) (hft : min t (totP od) ≤ max f 0) :
    GivesKnown Fence.wide k Tryd.prog 71 #[.pointer (some ⟨Bp, 0, none⟩), .pointer (some ⟨Br, 0, none⟩)] (fun x : RowE => #[rv x]) (fun _ _ _ => False) (fun _ _ _ => True) (fun xs => xs = []) (fun _ => False) 0 w := by
  intro l J Jx W hW hJ hJx hY h0
  refine (callsIn_wide.2 (Each1_none (.func (.yield l) #[] #[]) Bp Br q p od f t W (hp.keep hW) (hr.keep hW) (hk.keep hW) hft)).mono fun e W' ⟨hv, hg⟩ => ⟨hv, .inl ⟨[], rfl, hJ _ _ _ none h0 hg (fun r e => by cases e)⟩⟩
end Go.Proofs.YtmonepclhbappaaDoor
/-
  What a round of a range over a function leaves be: all below a place, and, from another place on, cells that are no rows of rows.
-/
namespace Go.Proofs.YtmonepclhbappaaDoor
open Go.RowKit
set_option linter.unusedVariables false

def KT (n₀ n₂ : Nat) (W W' : World) : Prop := Below n₀ W W' ∧ ∀ k cs t fr, n₂ ≤ k → t ≠ 22 → W.heap[k]? = some (.cells cs t fr) → W'.heap[k]? = some (.cells cs t fr)
section
variable {n₀ n₂ : Nat} {A B C W W' : World}
theorem KT.refl (n₀ n₂ : Nat) (W : World) : KT n₀ n₂ W W := ⟨Below.refl _ _, fun _ _ _ _ _ _ h => h⟩
theorem KT.trans (h : KT n₀ n₂ A B) (k : KT n₀ n₂ B C) : KT n₀ n₂ A C := ⟨h.1.trans k.1, fun j cs t fr hj ht ho => k.2 j cs t fr hj ht (h.2 j cs t fr hj ht ho)⟩
theorem KT.of_below (h : Below W.heap.size W W') (hn : n₀ ≤ W.heap.size) : KT n₀ n₂ W W' := ⟨h.mono hn, fun k cs t fr _ _ ho => (h.block k (Array.getElem?_eq_some_iff.1 ho).1).trans ho⟩
theorem KT.putObj {l : Nat} {o : Obj} (o' : Obj) (hn : n₀ ≤ l) (hl : W.heap[l]? = some o) (ho : o.isCells = false) : KT n₀ n₂ W (W.putObj l o') := by
  have hg := grownBy_putObj' W l o'
  refine ⟨⟨hg.os, hg.tape, hg.output, hg.size, fun k hk => World.putObj_heap_other (by omega)⟩, fun k cs t fr _ _ hk => ?_⟩
  by_cases e : k = l
  · subst e
    rw [hl] at hk
    cases hk
    cases ho
  · exact (World.putObj_heap_other e).trans hk
theorem KT.set {b j : Nat} (u : Value) (h0 : n₀ ≤ b) (h2 : b < n₂) : KT n₀ n₂ W (W.setCell ⟨b, j, none⟩ u) :=
  ⟨bel_set (Below.refl _ _) (p := ⟨b, j, none⟩) h0 u, fun k cs t fr hk _ ho => (Below.heap_setCell W ⟨b, j, none⟩ u k (fun e => by have e' : k = b := e; omega)).trans ho⟩
theorem KT.blk {g : Nat} {t : TypeId} {cs : Array Value} (h : KT n₀ n₂ W W') (hb : Blk W g t cs) (hg : n₂ ≤ g) (ht : t ≠ 22) : Blk W' g t cs := h.2 g cs t (0, 0) hg ht hb
theorem KT.own {n B0 : Nat} {v : Value} {xs : List Value} {e : TypeId} (h : KT n₀ n₂ W W') (hb : W.ownsRow B0 e 1 v n xs) (hg : n₂ ≤ B0) (he : e ≠ 22) : W'.ownsRow B0 e 1 v n xs := by
  refine ⟨hb.1, ?_⟩
  rcases hb.2 with h' | ⟨g, cap, cur, rfl, h1, h2, h3⟩
  · exact .inl h'
  · exact .inr ⟨g, cap, cur, rfl, h1, h.2 g _ _ _ (by omega) he h2, h3⟩
end
/-- A slice of ints that lies below n₀, or from n₂ on in a row of ints. -/
def SnT (n₀ n₂ : Nat) (W : World) (A : Option Addr) (n : Nat) (xs : List Value) : Prop := Sl W 1 A n xs ∧ ∀ x : Addr, A = some x → x.block < n₀ ∨ (n₂ ≤ x.block ∧ ∃ cs fr, W.heap[x.block]? = some (.cells cs 3 fr))
theorem SnT.keep {n₀ n₂ : Nat} {W W' : World} {A : Option Addr} {n : Nat} {xs : List Value} (h : SnT n₀ n₂ W A n xs) (hk : KT n₀ n₂ W W') : SnT n₀ n₂ W' A n xs := by
  refine ⟨⟨h.1.1, fun hn => ?_⟩, fun x hx => ?_⟩
  · obtain ⟨b, off, rfl, h2⟩ := h.1.2 hn
    refine ⟨b, off, rfl, fun j v hj => ?_⟩
    have h3 := h2 j v hj
    rcases h.2 _ rfl with h4 | ⟨h4, cs, fr, h5⟩
    · exact (hk.1.cell (p := ⟨b, off + j, none⟩) h4).trans h3
    · have h6 := hk.2 b cs _ fr h4 (by decide) h5
      exact (World.cell?_of_block (w := W) (a := ⟨b, off + j, none⟩) (h6.trans h5.symm)).trans h3
  · rcases h.2 x hx with h4 | ⟨h4, cs, fr, h5⟩
    · exact .inl h4
    · exact .inr ⟨h4, cs, fr, hk.2 _ cs _ fr h4 (by decide) h5⟩
theorem SnT.nil (n₀ n₂ : Nat) (W : World) : SnT n₀ n₂ W none 0 [] := ⟨Sl.nil _ _ _, fun x h => by cases h⟩
theorem SnT.of_own {n₀ n₂ B0 n c : Nat} {W : World} {A : Option Addr} {xs : List Value} (h : W.ownsRow B0 3 1 (.slice A n c) n xs) (hB : n₂ ≤ B0) : SnT n₀ n₂ W A n xs := by
  refine ⟨Sl.of_own h, fun x hx => ?_⟩
  subst hx
  rcases h.2 with ⟨h1, _⟩ | ⟨g, cap, cur, h1, h2, h3, _⟩
  · cases h1
  · cases h1
    exact .inr ⟨Nat.le_trans hB h2, cur, _, h3⟩
end Go.Proofs.YtmonepclhbappaaDoor
