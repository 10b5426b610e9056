/-
  The document's list of all orders (fretworkref07.All).
-/
import Derived.Test.YtakkdpnaoahpcaaDoorPermP
import Derived.Test.YtakkdpnaoahpcaaDoorPermB
import Derived.Test.YtakkdpnaoahpcaaDoorWords3
import Derived.Test.YtakkdpnaoahpcaaDoorRowsL
namespace Go.Proofs.YtakkdpnaoahpcaaDoor
open Go.RowKit
set_option maxRecDepth 100000
set_option linter.unusedVariables false

set_option maxHeartbeats 1000000 in
theorem RefHas_any (l : List Int) (x : Int) (A : Option Addr) (n c : Nat) (w : World) (hn : n ≤ 9223372036854775807) (hl : l.length = n) (hs : Sl w 1 A n (l.map (Value.int .i64))) :
    Calls Tryd.prog 20 #[.slice A n c, .int .i64 x] w fun e w' => e = .returned (.bool (decide (x ∈ l))) ∧ w = w' := by
  go_enter Tryd.func20, Tryd.ntmps20
  go_wp2
  go_loop [5] (fun i => ∃ k : Nat, k ≤ n ∧ i = .int .i64 k ∧ x ∉ l.take k) (fun i => n - (intOf i).toNat)
  case atStart => exact ⟨0, Nat.zero_le _, rfl, by simp⟩
  case round =>
    obtain ⟨k, hk, rfl, hx⟩ := hrel
    by_cases hlt : k < n
    · have hj : k < l.length := by omega
      obtain ⟨b, off, u, rfl, e1, c1⟩ := hs.one hlt
      rw [List.getElem?_map, List.getElem?_eq_getElem hj] at e1
      obtain rfl := Option.some.inj e1
      have HM := Lib.hid (List.getElem_mem hj)
      have HT := Lib.hid (List.take_succ_eq_append_getElem hj)
      have HX := Lib.hid hx
      generalize l[k] = y at *
      clear e1 hx hs
      by_cases hxy : y = x
      · subst hxy
        go_wp2
        go_ret
        exact ⟨ret_bool (decide_eq_true HM.out).symm, rfl⟩
      · have hb1 : (y == x) = false := by simpa using hxy
        go_wp2
        go_round
        case rel =>
          refine ⟨k + 1, by omega, by go_num, ?_⟩
          rw [HT.out]
          simp only [List.mem_append, List.mem_singleton]
          rintro (h | h)
          · exact HX.out h
          · exact hxy h.symm
        case measure => simp [intOf]; omega
    · obtain rfl : k = n := by omega
      rw [List.take_of_length_le (by omega)] at hx
      have HX := Lib.hid hx
      clear hx hs
      go_wp2
      go_ret
      exact ⟨ret_bool (decide_eq_false HX.out).symm, rfl⟩


/-- A list with the numbers below x more that are not in it. -/
def extx (x : Nat) (l : List Int) : List (List Int) := ((ids x).filter fun y => decide (y ∉ l)).map fun y => l ++ [y]
theorem extx_zero (l : List Int) : extx 0 l = [] := rfl
theorem extx_succ (x : Nat) (l : List Int) : extx (x + 1) l = extx x l ++ if (x : Int) ∈ l then [] else [l ++ [(x : Int)]] := by
  unfold extx
  rw [ids_succ, List.filter_append, List.map_append]
  congr 1
  by_cases h : (x : Int) ∈ l
  · rw [if_pos h, List.filter_cons_of_neg (by simp [h])]; rfl
  · rw [if_neg h, List.filter_cons_of_pos (by simp [h])]; rfl
theorem extx_len (x : Nat) (l : List Int) : (extx x l).length ≤ x := by
  unfold extx
  rw [List.length_map]
  exact Nat.le_trans (List.length_filter_le _ _) (Nat.le_of_eq (ids_len x))
theorem flat_len {f : List Int → List (List Int)} {n : Nat} (h : ∀ l, (f l).length ≤ n) : ∀ L : List (List Int), (L.flatMap f).length ≤ L.length * n
  | [] => Nat.zero_le _
  | l :: L => by
    rw [List.flatMap_cons, List.length_append, List.length_cons, Nat.add_mul]
    have h1 := flat_len h L
    have h2 := h l
    omega
theorem lev_len (n : Nat) : ∀ i, (lev n i).length ≤ n ^ i
  | 0 => Nat.le_refl _
  | i + 1 => by
    rw [lev, Nat.pow_succ]
    exact Nat.le_trans (flat_len (f := ext n) (fun l => extx_len n l) _) (Nat.mul_le_mul_right _ (lev_len n i))
theorem lev_el (n : Nat) : ∀ i, ∀ l ∈ lev n i, l.length = i
  | 0, l, h => by obtain rfl : l = [] := by simpa [lev] using h
                  rfl
  | i + 1, l, h => by
    obtain ⟨l0, h0, h1⟩ := List.mem_flatMap.1 h
    obtain ⟨x, _, rfl⟩ := List.mem_map.1 h1
    rw [List.length_append, lev_el n i l0 h0]; rfl
theorem take_flat (f : List Int → List (List Int)) {L : List (List Int)} {k : Nat} (h : k < L.length) : (L.take (k + 1)).flatMap f = (L.take k).flatMap f ++ f L[k] := by
  rw [List.take_succ_eq_append_getElem h, List.flatMap_append]; simp

set_option maxHeartbeats 16000000 in
theorem RefAll_any (n : Nat) (w : World) (hn : n ≤ 6) :
    Calls Tryd.prog 9 #[.int .i64 (n : Int)] w fun e w' => ∃ (A : Option Addr) (c : Nat) (its : List (Option Addr × Nat × List Int)), e = .returned (.slice A its.length c) ∧ its.map (·.2.2) = lev n n ∧ Sl w' 1 A its.length (its.map rv) ∧ AllRows w' its ∧ its.length ≤ c ∧ c ≤ 9223372036854775807 ∧ Below w.heap.size w w' := by
  go_enter Tryd.func9, Tryd.ntmps9
  go_wp2_with fail
  go_loopw [3, 4] (fun lv iv wr => ∃ (i : Nat) (A : Option Addr) (c : Nat) (its : List (Option Addr × Nat × List Int)), i ≤ n ∧ iv = .int .i64 (i : Int) ∧ lv = .slice A its.length c ∧ its.map (·.2.2) = lev n i ∧ Sl wr 1 A its.length (its.map rv) ∧ AllRows wr its ∧ (its.length ≤ c ∧ c ≤ 9223372036854775807) ∧ Below w.heap.size w wr) (fun _ iv _ => n - (intOf iv).toNat)
  case atStart =>
    refine ⟨0, _, _, [(some ⟨w.heap.size, 0, none⟩, 0, [])], Nat.zero_le _, rfl, rfl, rfl, ?_, ?_, ⟨Nat.le_refl _, by simp⟩, bel_al (bel_al (Below.refl _ _) _) _⟩
    · have := Sl.newAt (w.alloc (.cells #[] 3)) [.slice (some ⟨w.heap.size, 0, none⟩) 0 0] 23 1 rfl
      simpa [rv] using this
    · intro t ht
      obtain rfl : t = (some ⟨w.heap.size, 0, none⟩, 0, []) := by simpa using ht
      exact ⟨Sl.nil _ _ _, Nat.le_refl _, by simp⟩
  case round =>
    obtain ⟨i, A, c, its, hi, rfl, rfl, hits, hsl, hok, hcap, hb⟩ := hrel
    have HIts := Lib.hid hits
    have HSl := Lib.hid hsl
    have HOk := Lib.hid hok
    have HCap := Lib.hid hcap
    have HBr := Lib.hid hb
    have hlen : its.length ≤ 46656 := by
      have h1 := congrArg List.length hits
      rw [List.length_map] at h1
      have h2 := lev_len n i
      have h3 : n ^ i ≤ 6 ^ i := Nat.pow_le_pow_left hn i
      have h4 : (6 : Nat) ^ i ≤ 6 ^ 6 := Nat.pow_le_pow_right (by omega) (by omega)
      have h5 : (6 : Nat) ^ 6 = 46656 := rfl
      omega
    obtain ⟨z, hz⟩ : ∃ z, z = its.length := ⟨_, rfl⟩
    rw [← hz] at hlen HSl HCap ⊢
    have HZ := Lib.hid hz
    clear hits hsl hok hcap hb hz
    by_cases hin : i < n
    · have hin' : (i : Int) < (n : Int) := by omega
      obtain ⟨wo, rfl⟩ : ∃ wo, wo = wr := ⟨_, rfl⟩
      go_wp2_with fail
      go_loopw [5, 6] (fun nv kv wx => ∃ (k : Nat) (jts : List (Option Addr × Nat × List Int)), k ≤ z ∧ kv = .int .i64 (k : Int) ∧ wx.ownsRow wo.heap.size 23 1 nv jts.length (jts.map rv) ∧ jts.map (·.2.2) = ((its.map (·.2.2)).take k).flatMap (ext n) ∧ RowsOK wx nv jts ∧ Below wo.heap.size wo wx) (fun _ kv _ => z - (intOf kv).toNat)
      case atStart => exact ⟨0, [], Nat.zero_le _, rfl, World.ownsRow_nil _ _ _ _, rfl, fun _ h => by simp at h, Below.refl _ _⟩
      case round =>
        obtain ⟨k, jts, hk, rfl, hown, hjts, hjok, hb⟩ := hrel
        have HO := Lib.hid hown
        have HJts := Lib.hid hjts
        have HJok := Lib.hid hjok
        have HB := Lib.hid hb
        clear hown hjts hjok hb
        by_cases hkz : k < z
        · have hkz' : (k : Int) < (z : Int) := by omega
          obtain ⟨D, d, l, ht, hl⟩ := its_row (its := its) (k := k) (by rw [← HZ.out]; exact hkz)
          have HT := Lib.hid ht
          have hll : l.length = i := lev_el n i l (by rw [← HIts.out]; exact List.mem_of_getElem? hl)
          have HL := Lib.hid hl
          have HLl := Lib.hid hll
          have HRow := Lib.hid (HOk.out _ (List.mem_of_getElem? ht))
          clear ht hl hll
          go_wp2_with fail
          go_loopw [5, 7] (fun nv xv wx => ∃ (x : Nat) (jts : List (Option Addr × Nat × List Int)), x ≤ n ∧ xv = .int .i64 (x : Int) ∧ wx.ownsRow wo.heap.size 23 1 nv jts.length (jts.map rv) ∧ jts.map (·.2.2) = ((its.map (·.2.2)).take k).flatMap (ext n) ++ extx x l ∧ RowsOK wx nv jts ∧ Below wo.heap.size wo wx) (fun _ xv _ => n - (intOf xv).toNat)
          case atStart => exact ⟨0, jts, Nat.zero_le _, rfl, HO.out, by rw [extx_zero, List.append_nil]; exact HJts.out, HJok.out, HB.out⟩
          case round =>
            clear HO HJts HJok HB jts
            obtain ⟨x, jts, hx, rfl, hown, hjts, hjok, hb⟩ := hrel
            have HO := Lib.hid hown
            have HJts := Lib.hid hjts
            have HJok := Lib.hid hjok
            have HB := Lib.hid hb
            have hjl : jts.length ≤ 300000 := by
              have h1 := congrArg List.length hjts
              rw [List.length_map, List.length_append] at h1
              have h2 := flat_len (f := ext n) (n := n) (fun l => extx_len n l) ((its.map (·.2.2)).take k)
              have h3 : ((its.map (·.2.2)).take k).length * n ≤ 46656 * 6 := Nat.mul_le_mul (by rw [List.length_take, List.length_map]; omega) hn
              have h4 := extx_len x l
              omega
            obtain ⟨j, hj⟩ : ∃ j, j = jts.length := ⟨_, rfl⟩
            rw [← hj] at hjl HO
            have HJ := Lib.hid hj
            clear hown hjts hjok hb hj
            by_cases hxn : x < n
            · have hxn' : (x : Int) < (n : Int) := by omega
              obtain ⟨b, off, u, rfl, e1, c1⟩ := (HSl.out.keep HB.out).one hkz
              rw [List.getElem?_map, HT.out] at e1
              obtain rfl := Option.some.inj e1
              have c2 := (((HSl.out.keep HB.out).alloc (.cells #[] 3)).again hkz (show (its.map rv)[k]? = some (rv (D, d, l)) by rw [List.getElem?_map, HT.out]; rfl))
              have HRowX := Lib.hid (HRow.out.keep HB.out)
              have hll2 : l.length ≤ 6 := by have := HLl.out; omega
              have HHas := Lib.hid (RefHas_any l (x : Int) D l.length d wr (by omega) rfl HRowX.out.1)
              simp only [rv] at c1 c2
              clear e1
              by_cases hm : (x : Int) ∈ l
              · rw [decide_eq_true hm] at HHas
                have HX := Lib.hid (extx_succ x l)
                rw [if_pos hm, List.append_nil] at HX
                clear hm
                go_wp2_with fail
                refine HHas.out.mono ?_
                rintro e w2 ⟨rfl, rfl⟩
                go_wp2_with fail
                go_roundw
                case rel => exact ⟨x + 1, jts, by omega, rfl, by rw [← HJ.out]; exact HO.out, by rw [HX.out]; exact HJts.out, HJok.out, HB.out⟩
                case measure => simp [intOf]; omega
              · rw [decide_eq_false hm] at HHas
                have HX := Lib.hid (extx_succ x l)
                rw [if_neg hm] at HX
                clear hm
                go_wp2_with fail
                refine HHas.out.mono ?_
                rintro e w2 ⟨rfl, rfl⟩
                have hb0 := bel_al (Below.refl wr.heap.size wr) (.cells #[] 3)
                have hown0 : (wr.alloc (.cells #[] 3)).ownsRow wr.heap.size 3 1 (.slice (some ⟨wr.heap.size, 0, none⟩) 0 0) 0 [] := by
                  have := World.ownsRow_made (base := wr.heap.size) (size := 1) (e := 3) wr #[] 0 (Nat.le_refl _) (by unfold maxLen; omega) rfl
                  simpa using this
                have HY := Lib.hid (HRowX.out.1.keep hb0)
                have HO1 := Lib.hid (one_i64 l)
                have HOB := Lib.hid (fun w4 (hb4 : Below wr.heap.size wr w4) => (show w4.ownsRow wo.heap.size 23 1 u5 j (jts.map rv) ∧ wo.heap.size ≤ w4.heap.size from ⟨own_below HO.out (fun g hg => (HO.out.lt g hg).2) hb4, Nat.le_trans HB.out.size hb4.size⟩))
                go_wp2_with (first
                  | (at_builtin; refine wpList_cat elemInt (w0 := wr) _ _ rfl rfl hown0 hb0 (Nat.le_refl _) HY.out rfl rfl HO1.out (by unfold lim; omega) (by unfold lim; omega) ?_; intro v1 w3 hown1 hb1 _)
                  | (at_builtin; refine wpList_push elemInt (w0 := wr) _ _ rfl rfl hown1 hb1 (Nat.le_refl _) rfl rfl rfl (by simp [Value.oneCell']) (by unfold lim; omega) (by unfold lim; omega) ?_; intro v2 w5 hown2 hb2; obtain ⟨g2, c2, rfl, hg2⟩ := own_form hown2 (by omega); have HO2 := Lib.hid hown2; have HB2 := Lib.hid hb2; have HG2 := Lib.hid hg2; clear hown0 hown1 hown2 hb0 hb1 hb2 hg2)
                  | (at_builtin; refine wpList_cat_at elemIntsQ _ _ rfl rfl ((HOB.out w5 HB2.out).1.alloc _) (by have := (HOB.out w5 HB2.out).2; simp; omega) (Sl.newAt w5 _ _ 1 rfl) rfl rfl (by simp [Value.oneCell']) (by unfold lim; omega) (by unfold lim; omega) ?_; intro v6 w6 hown6 hgr; have HO6 := Lib.hid hown6; have HGr := Lib.hid hgr; clear hown6 hgr))
                go_roundw
                case rel =>
                  have hsl := Sl.of_own HO2.out
                  have hcap := own_cap HO2.out
                  have e2 : 0 + l.length + 1 = (l ++ [(x : Int)]).length := by simp
                  rw [e2] at hsl hcap
                  have hit : RowOK w5 (some ⟨g2, 0, none⟩, c2, l ++ [(x : Int)]) := ⟨by simpa using hsl, hcap.1, hcap.2⟩
                  have h6 := rows_more HO.out HJok.out HB2.out hit HG2.out (HO2.out.lt g2 rfl).2 (by simpa [rv, e2] using HO6.out) HGr.out.after_alloc
                  refine ⟨x + 1, jts ++ [(some ⟨g2, 0, none⟩, c2, l ++ [(x : Int)])], by omega, by go_num, ?_, ?_, h6.2, ?_⟩
                  · rw [List.length_append, ← HJ.out]; exact h6.1
                  · rw [List.map_append, HJts.out, HX.out, List.append_assoc]; rfl
                  · have hB5 := HB.out.andThen HB2.out
                    exact hB5.trans (HGr.out.after_alloc.belowOwn hB5.size (HOB.out w5 HB2.out).1)
                case measure => simp [intOf]; omega
            · obtain rfl : x = n := by omega
              have hxn' : ¬ (x : Int) < (x : Int) := by omega
              go_wp2_with fail
              go_roundw
              case rel =>
                refine ⟨k + 1, jts, by omega, rfl, by rw [← HJ.out]; exact HO.out, ?_, HJok.out, HB.out⟩
                have hk' : k < (its.map (·.2.2)).length := by rw [List.length_map, ← HZ.out]; exact hkz
                have hl' : (its.map (·.2.2))[k] = l := Option.some.inj ((List.getElem?_eq_getElem hk').symm.trans HL.out)
                rw [take_flat _ hk', hl', HJts.out]; rfl
              case measure => simp [intOf]; omega
        · obtain rfl : k = z := by omega
          have hkz' : ¬ (k : Int) < (k : Int) := by omega
          go_wp2_with fail
          go_roundw
          case rel =>
            obtain ⟨A2, c2, rfl, hs2⟩ := Sl.own HO.out
            have hcap2 := own_cap HO.out
            refine ⟨i + 1, A2, c2, jts, by omega, rfl, rfl, ?_, hs2, fun t ht => (HJok.out t ht).1, hcap2, HBr.out.andThen HB.out⟩
            rw [HJts.out, HZ.out, ← List.length_map (·.2.2), List.take_length, HIts.out]; rfl
          case measure => simp [intOf]; omega
    · obtain rfl : i = n := by omega
      have hin' : ¬ (i : Int) < (i : Int) := by omega
      go_wp2_with fail
      go_ret
      exact ⟨A, c, its, by rw [← HZ.out]; rfl, HIts.out, by rw [← HZ.out]; exact HSl.out, HOk.out, by rw [← HZ.out]; exact HCap.out.1, HCap.out.2, HBr.out⟩
end Go.Proofs.YtakkdpnaoahpcaaDoor
