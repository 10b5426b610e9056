/-
  The document's orders: Right, Back, Even; perm.Then and perm.Put in one form; the circles' rows.
-/
import Derived.Test.YtkhhjompondnnaaDoorPermK
import Derived.Test.YtkhhjompondnnaaDoorSetsRef
namespace Go.Proofs.YtkhhjompondnnaaDoor
open Go.RowKit
set_option maxRecDepth 100000

theorem sub_len : ∀ (a b : List Int), a.Nodup → (∀ x ∈ a, x ∈ b) → a.length ≤ b.length
  | [], _, _, _ => Nat.zero_le _
  | x :: a, b, hn, h => by
    obtain ⟨hx, hn'⟩ := List.nodup_cons.1 hn
    have hm := h x (List.mem_cons_self ..)
    have := sub_len a (b.erase x) hn' (fun y hy => (List.mem_erase_of_ne (fun e : y = x => hx (e ▸ hy))).2 (h y (List.mem_cons_of_mem _ hy)))
    rw [List.length_erase_of_mem hm] at this
    have := List.length_pos_of_mem hm
    rw [List.length_cons]
    omega
theorem sub_perm : ∀ (a b : List Int), a.Nodup → (∀ x ∈ a, x ∈ b) → b.length ≤ a.length → List.Perm a b
  | [], b, _, _, hl => by rw [List.eq_nil_of_length_eq_zero (Nat.le_zero.1 hl)]
  | x :: a, b, hn, h, hl => by
    obtain ⟨hx, hn'⟩ := List.nodup_cons.1 hn
    have hm := h x (List.mem_cons_self ..)
    have := sub_perm a (b.erase x) hn' (fun y hy => (List.mem_erase_of_ne (fun e : y = x => hx (e ▸ hy))).2 (h y (List.mem_cons_of_mem _ hy))) (by rw [List.length_erase_of_mem hm]; rw [List.length_cons] at hl; omega)
    exact (this.cons x).trans (List.perm_cons_erase hm).symm
theorem ord_iff (p : List Int) : Ord p ↔ p.length ≤ 8 ∧ ∀ i : Nat, i < p.length → (i : Int) ∈ p := by
  constructor
  · intro h
    exact ⟨h.1, fun i hi => h.mem (by omega) (by omega)⟩
  · rintro ⟨h1, h2⟩
    refine ord_of_perm h1 (sub_perm (ids p.length) p (ids_nodup _) (fun x hx => ?_) (by rw [ids_len]; exact Nat.le_refl _)).symm
    have := ids_mem.1 hx
    have h3 := h2 x.toNat (by omega)
    rwa [show ((x.toNat : Nat) : Int) = x by omega] at h3

set_option maxHeartbeats 1000000 in
theorem RefRight_any (p : List Int) (A : Option Addr) (n c : Nat) (w : World) (hn : n ≤ 4294967296) (hl : p.length = n) (hs : Sl w 1 A n (p.map (Value.int .i64))) :
    Calls Tryd.prog 28 #[.slice A n c] w fun e w' => e = .returned (.bool (decide (Ord p))) ∧ w = w' := by
  have HH := Lib.hid (fun x => Has_any p x A n c w (by omega) hl hs)
  clear hs
  go_enter Tryd.func28, Tryd.ntmps28
  go_wp2_with fail
  go_loop [3] (fun i => ∃ k : Nat, k ≤ n ∧ i = .int .i64 k ∧ Hid (∀ j : Nat, j < k → (j : Int) ∈ p)) (fun i => n - (intOf i).toNat)
  case atStart => exact ⟨0, Nat.zero_le _, rfl, fun j hj => absurd hj (by omega)⟩
  case round =>
    obtain ⟨k, hk, rfl, HK⟩ := hrel
    by_cases hlt : k < n
    · have h := HH.out (k : Int)
      by_cases hm : (k : Int) ∈ p
      · rw [decide_eq_true hm] at h
        have HM := Lib.hid hm
        have H := Lib.hid h
        clear hm h
        go_wp2_with fail
        refine H.out.mono ?_
        rintro e w1 ⟨rfl, rfl⟩
        go_wp2_with fail
        go_round
        case rel =>
          refine ⟨k + 1, by omega, by go_num, fun j hj => ?_⟩
          by_cases e : j = k
          · rw [e]; exact HM.out
          · exact HK.out j (by omega)
        case measure => simp [intOf]; omega
      · rw [decide_eq_false hm] at h
        have HM := Lib.hid hm
        have H := Lib.hid h
        clear hm h
        go_wp2_with fail
        refine H.out.mono ?_
        rintro e w1 ⟨rfl, rfl⟩
        go_wp2_with fail
        go_ret
        exact ⟨ret_bool (decide_eq_false (fun h => HM.out ((ord_iff p).1 h |>.2 k (by omega)))).symm, rfl⟩
    · obtain rfl : k = n := by omega
      by_cases h8 : k ≤ 8
      · go_wp2_with fail
        go_ret
        exact ⟨ret_bool (by rw [decide_eq_true ((ord_iff p).2 ⟨by omega, fun i hi => HK.out i (by omega)⟩)]; exact decide_eq_true (by omega)), rfl⟩
      · go_wp2_with fail
        go_ret
        exact ⟨ret_bool (by rw [decide_eq_false (fun h : Ord p => h8 (by have := h.1; omega))]; exact decide_eq_false (by omega)), rfl⟩

set_option maxHeartbeats 1000000 in
theorem RefBack_ok (p : List Int) (A : Option Addr) (n c : Nat) (w : World) (hO : Ord p) (hl : p.length = n) (hs : Sl w 1 A n (p.map (Value.int .i64))) :
    Calls Tryd.prog 37 #[.slice A n c] w fun e w' => ∃ C k, e = .returned (.slice C n k) ∧ Sl w' 1 C n ((backL p).map (Value.int .i64)) ∧ Below w.heap.size w w' := by
  have hn : n ≤ 8 := by rw [← hl]; exact hO.1
  have HO := Lib.hid hO
  have HS := Lib.hid hs
  have hmk := fun W => make_elem elemInt rfl n (by omega) (by omega) W
  have HOwn := Lib.hid (own_replicate (B := w.heap.size) (e := 3) w n (.int .i64 0) (Nat.le_refl _) (by omega))
  clear hs hO
  go_enter Tryd.func37, Tryd.ntmps37
  go_wp2_with fail
  go_loopw [4] (fun i wr => ∃ k : Nat, k ≤ n ∧ i = .int .i64 k ∧ wr.ownsRow w.heap.size 3 1 (.slice (some ⟨w.heap.size, 0, none⟩) n n) n ((scat (p.take k) ((ids n).take k) (List.replicate n 0)).map (Value.int .i64)) ∧ Below w.heap.size w wr) (fun i _ => n - (intOf i).toNat)
  case atStart => exact ⟨0, Nat.zero_le _, rfl, by simpa [scat] using HOwn.out, bel_al (Below.refl _ _) _⟩
  case round =>
    obtain ⟨k, hk, rfl, hown, hb⟩ := hrel
    by_cases hlt : k < n
    · have hj : k < p.length := by omega
      have hj' : k < (ids n).length := by rw [ids_len]; exact hlt
      obtain ⟨b, off, u, rfl, e1, c1⟩ := (HS.out.keep hb).one hlt
      rw [List.getElem?_map, List.getElem?_eq_getElem hj] at e1
      obtain rfl := Option.some.inj e1
      have hr := HO.out.2.1 _ (List.getElem_mem hj)
      have HT := Lib.hid (List.take_succ_eq_append_getElem hj)
      have HT' := Lib.hid (List.take_succ_eq_append_getElem hj')
      have hid' : (ids n)[k] = (k : Int) := by
        have := ids_get n k hlt
        rw [List.getElem?_eq_getElem hj'] at this
        exact Option.some.inj this
      rw [hid'] at HT'
      have HL := Lib.hid (show (p.take k).length = ((ids n).take k).length by rw [List.length_take, List.length_take, ids_len]; omega)
      clear hid' hj'
      generalize p[k] = x at *
      obtain ⟨m, rfl⟩ := Int.eq_ofNat_of_zero_le hr.1
      have hmn : m < n := by omega
      have hcell := hown.cellAt m (by omega)
      have hlen : m < (scat (p.take k) ((ids n).take k) (List.replicate n 0)).length := by rw [scat_len, List.length_replicate]; exact hmn
      rw [List.getElem?_map, List.getElem?_eq_getElem hlen] at hcell
      have hfr := hown.frozenAt m
      have HSt := Lib.hid (hown.stored m (.int .i64 k))
      have hbs := hb.setCell (p := ⟨w.heap.size, m, none⟩) (Nat.le_refl _) (.int .i64 k)
      have HBs := Lib.hid hbs
      clear e1 hbs hr hown
      go_wp2_with fail
      go_roundw
      case rel =>
        refine ⟨k + 1, by omega, by go_num, ?_, HBs.out⟩
        rw [HT.out, HT'.out, scat_snoc _ _ _ _ _ HL.out, List.map_set]
        exact HSt.out.1
      case measure => simp [intOf]; omega
    · obtain rfl : k = n := by omega
      rw [List.take_of_length_le (by omega), List.take_of_length_le (by rw [ids_len]; omega)] at hown
      have HX := Lib.hid (Sl.of_own hown)
      clear hown
      go_wp2_with fail
      go_ret
      exact ⟨_, _, rfl, by rw [backL, if_pos HO.out, hl]; exact HX.out, hb⟩

theorem inv_le : ∀ l : List Int, inv l ≤ l.length * l.length
  | [] => Nat.le_refl _
  | x :: l => by
    have h1 := inv_le l
    have h2 : (l.filter fun y => decide (y < x)).length ≤ l.length := List.length_filter_le ..
    rw [inv, List.length_cons, Nat.succ_mul, Nat.mul_succ]
    omega

set_option maxHeartbeats 1000000 in
theorem RefEven_any (p : List Int) (A : Option Addr) (n c : Nat) (w : World) (hn : n ≤ 1000) (hl : p.length = n) (hs : Sl w 1 A n (p.map (Value.int .i64))) :
    Calls Tryd.prog 38 #[.slice A n c] w fun e w' => e = .returned (.bool (decide (inv p % 2 = 0))) ∧ Below w.heap.size w w' := by
  have HS := Lib.hid hs
  have hil : inv p ≤ 1000000 := by
    have h1 := inv_le p
    have h2 : p.length * p.length ≤ 1000 * 1000 := Nat.mul_le_mul (by omega) (by omega)
    omega
  clear hs
  go_enter Tryd.func38, Tryd.ntmps38
  go_wp2_with fail
  go_loopw [3, 4] (fun nv iv wr => ∃ i m : Nat, i ≤ n ∧ iv = .int .i64 i ∧ nv = .int .i64 m ∧ Hid (m + inv (p.drop i) = inv p) ∧ Below w.heap.size w wr) (fun _ iv _ => n - (intOf iv).toNat)
  case atStart => exact ⟨0, 0, Nat.zero_le _, rfl, rfl, by show _ = _; simp, Below.refl _ _⟩
  case round =>
    obtain ⟨i, m, hi, rfl, rfl, HM, hb⟩ := hrel
    by_cases hlt : i < n
    · have hj : i < p.length := by omega
      have HX := Lib.hid (fun W (hW : Below w.heap.size w W) => (HS.out.keep hW).one hlt)
      have HD := Lib.hid (List.drop_eq_getElem_cons hj)
      have HG := Lib.hid (List.getElem?_eq_getElem hj)
      generalize hx : p[i] = x at HD HG
      have HB := Lib.hid hb
      clear hb hx
      go_wp2_with fail
      go_loopw [3, 5] (fun nv kv wr => ∃ k m' : Nat, i + 1 ≤ k ∧ k ≤ n ∧ kv = .int .i64 k ∧ nv = .int .i64 m' ∧ Hid (m' + ((p.drop k).filter fun y => decide (y < x)).length + inv (p.drop (i + 1)) = inv p) ∧ Below w.heap.size w wr) (fun _ kv _ => n - (intOf kv).toNat)
      case atStart => exact ⟨i + 1, m, Nat.le_refl _, by omega, by go_num, rfl, by show _ = _; rw [← HM.out, HD.out, inv]; omega, HB.out⟩
      case round =>
        obtain ⟨k, m', hk1, hk, rfl, rfl, HM', hb⟩ := hrel
        by_cases hlt2 : k < n
        · have hj2 : k < p.length := by omega
          obtain ⟨b, off, u, rfl, e1, c1⟩ := HX.out _ hb
          obtain ⟨b', off', u', hA, e2, c2⟩ := (HS.out.keep hb).one hlt2
          cases hA
          rw [List.getElem?_map, HG.out] at e1
          rw [List.getElem?_map, List.getElem?_eq_getElem hj2] at e2
          obtain rfl := Option.some.inj e1
          obtain rfl := Option.some.inj e2
          have HD2 := Lib.hid (List.drop_eq_getElem_cons hj2)
          generalize p[k] = y at *
          have hm' : m' ≤ 1000000 := by have := HM'.out; omega
          clear e1 e2
          by_cases hyx : y < x
          · go_wp2_with fail
            go_quiet (fail)
            go_wp2_with fail
            go_roundw
            case rel =>
              refine ⟨k + 1, m' + 1, by omega, by omega, by go_num, by go_num, ?_, bel_drewN hb _⟩
              show _ = _
              have := HM'.out
              rw [HD2.out, List.filter_cons, if_pos (by simpa using hyx), List.length_cons] at this
              omega
            case measure => simp [intOf]; omega
          · go_wp2_with fail
            go_quiet (fail)
            go_wp2_with fail
            go_roundw
            case rel =>
              refine ⟨k + 1, m', by omega, by omega, by go_num, rfl, ?_, bel_drewN hb _⟩
              show _ = _
              have := HM'.out
              rw [HD2.out, List.filter_cons, if_neg (by simpa using hyx)] at this
              omega
            case measure => simp [intOf]; omega
        · obtain rfl : k = n := by omega
          have HM2 := Lib.hid (show m' + inv (p.drop (i + 1)) = inv p by
            have := HM'.out
            rw [List.drop_eq_nil_of_le (by omega : p.length ≤ k)] at this
            simpa using this)
          go_wp2_with fail
          go_roundw
          case rel => exact ⟨i + 1, m', by omega, by go_num, rfl, HM2.out, hb⟩
          case measure => simp [intOf]; omega
    · obtain rfl : i = n := by omega
      have hm : m = inv p := by
        have := HM.out
        rw [List.drop_eq_nil_of_le (by omega)] at this
        simpa [inv] using this
      have h3 : ((m : Int) % 2 == 0) = decide (inv p % 2 = 0) := by
        rw [hm]
        by_cases hz : inv p % 2 = 0
        · rw [decide_eq_true hz]; simp; omega
        · rw [decide_eq_false hz]; simp; omega
      have H3 := Lib.hid h3
      have hmm : m ≤ 1000000 := by omega
      clear h3 hm
      go_wp2_with fail
      go_ret
      exact ⟨ret_bool H3.out, hb⟩

/-- perm.Put, whatever comes. -/
theorem Put_any (p l : List Int) (A B : Option Addr) (n m c d : Nat) (w : World) (hl : p.length = n) (hm : l.length = m) (hs : Sl w 1 A n (p.map (Value.int .i64))) (ht : Sl w 1 B m (l.map (Value.int .i64))) :
    Calls Tryd.prog 31 #[.slice A n c, .slice B m d] w fun e w' => ∃ C t k ev, e = .returned (.tuple #[.slice C t k, ev]) ∧ t = (putL p l).length ∧ (putE p l).At w' ev ∧ Sl w' 1 C t ((putL p l).map (Value.int .i64)) ∧ Below w.heap.size w w' := by
  by_cases h : Ord p ∧ p.length = l.length
  · have hnm : n = m := by omega
    subst hnm
    refine (Put_ok p l A B n c d w h.1 hl hm hs ht).mono ?_
    rintro e w' ⟨C, k, rfl, h1, h2⟩
    exact ⟨C, n, k, _, rfl, by rw [putL_len h.1 h.2, hl], by rw [putE_ok h.1 h.2]; rfl, h1, h2⟩
  · refine (Put_bad p l A B n m c d w h hl hm hs).mono ?_
    rintro e w' ⟨ev, rfl, h1, h2⟩
    have : putL p l = [] := by rw [putL, if_neg h]
    exact ⟨none, 0, 0, ev, rfl, by rw [this]; rfl, h1, by rw [this]; exact Sl.nil _ _ _, h2⟩
/-- perm.Then, whatever comes. -/
theorem Then_any (p q : List Int) (A B : Option Addr) (n m c d : Nat) (w : World) (hl : p.length = n) (hm : q.length = m) (hs : Sl w 1 A n (p.map (Value.int .i64))) (ht : Sl w 1 B m (q.map (Value.int .i64))) :
    Calls Tryd.prog 30 #[.slice A n c, .slice B m d] w fun e w' => ∃ C t k ev, e = .returned (.tuple #[.slice C t k, ev]) ∧ t = (thenL p q).length ∧ (thenE p q).At w' ev ∧ Sl w' 1 C t ((thenL p q).map (Value.int .i64)) ∧ Below w.heap.size w w' := by
  by_cases h : Ord p ∧ Ord q ∧ p.length = q.length
  · have hnm : n = m := by omega
    subst hnm
    refine (Then_ok p q A B n c d w h.1 h.2.1 hl hm hs ht).mono ?_
    rintro e w' ⟨C, k, rfl, h1, h2⟩
    exact ⟨C, n, k, _, rfl, by rw [then_get h.1 h.2.1 h.2.2, List.length_map, hl], by rw [thenE, if_pos ⟨h.1, h.2.1⟩, if_pos h.2.2]; rfl, h1, h2⟩
  · refine (Then_bad p q A B n m c d w h hl hm hs ht).mono ?_
    rintro e w' ⟨ev, rfl, h1, h2⟩
    have : thenL p q = [] := by rw [thenL, if_neg h]
    exact ⟨none, 0, 0, ev, rfl, by rw [this]; rfl, h1, by rw [this]; exact Sl.nil _ _ _, h2⟩
theorem CRows.at_ {B : Nat} {w : World} {Bc : Nat} : ∀ {outs : List (List Int)} {vs : List Value}, CRows B w Bc outs vs → ∀ {k : Nat} {c : List Int}, outs[k]? = some c → ∃ v, vs[k]? = some v ∧ w.ownsRow B 3 1 v c.length (c.map (Value.int .i64)) ∧ ∀ g, v.ownBlock = some g → g < Bc
  | d :: _, _, ⟨v, vs', h1, h2, h3, h4⟩, 0, c, h => by
    obtain rfl : d = c := by simpa using h
    exact ⟨v, by rw [h1]; rfl, h2, h3⟩
  | _ :: _, _, ⟨v, vs', h1, h2, h3, h4⟩, k + 1, c, h => by
    rw [h1]
    exact CRows.at_ h4 (by simpa using h)
  | [], _, _, k, c, h => by simp at h
end Go.Proofs.YtkhhjompondnnaaDoor
