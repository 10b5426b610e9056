/-
  Patterns: the statements' Same.
-/
import Derived.Test.YtmonepclhbappaaDoorPatE
namespace Go.Proofs.YtmonepclhbappaaDoor
open Go.RowKit
attribute [local go_sem ↓] Go.wp_at_zero Go.wp_at_succ
set_option maxRecDepth 100000
set_option linter.unusedVariables false

set_option maxHeartbeats 8000000 in
theorem Same08_any (L L' : List Int) (E E' : List (Int × Int)) (A A' B B' : Option Addr) (n n' m m' c c' d d' : Nat) (w : World)
    (hl : L.length = n) (hl' : L'.length = n') (hn : n ≤ 1048576) (hm : m ≤ 1048576) (hs : Sl w 1 A n (L.map (Value.int .i64))) (hs' : Sl w 1 A' n' (L'.map (Value.int .i64))) (ht : Sl w 2 B m (Rk.cells E)) (ht' : Sl w 2 B' m' (Rk.cells E')) :
    Calls Tryd.prog 17 #[pv A n c B m d, pv A' n' c' B' m' d'] w fun e w' => e = .returned (.bool (decide (L = L' ∧ E = E'))) ∧ Below w.heap.size w w' := by
  have hb0 := bel_al (bel_al (Below.refl w.heap.size w) (.cells #[.slice A n c, .slice B m d] 29)) (.cells #[.slice A' n' c', .slice B' m' d'] 25)
  have HB0 := Lib.hid hb0
  have HCI := Lib.hid (SameInts_any L L' A A' n n' c c' _ hl hl' (hs.keep hb0) (hs'.keep hb0) (by omega))
  have HK1 := Lib.hid (((Blk.new w 29 #[.slice A n c, .slice B m d]).alloc (.cells #[.slice A' n' c', .slice B' m' d'] 25)))
  have HK2 := Lib.hid (Blk.new (w.alloc (.cells #[.slice A n c, .slice B m d] 29)) 25 #[.slice A' n' c', .slice B' m' d'])
  rw [World.size_alloc] at HK2
  have HT := Lib.hid (ht.keep hb0)
  have HT' := Lib.hid (ht'.keep hb0)
  have HM := Lib.hid ht.len2
  have HM' := Lib.hid ht'.len2
  clear hl hl' hs hs' ht ht' hb0
  by_cases hLL : L = L'
  · rw [decide_eq_true hLL] at HCI
    by_cases hmm : m = m'
    · rw [show decide (L = L' ∧ E = E') = decide (E = E') from decide_eq_decide.2 ⟨fun h => h.2, fun h => ⟨hLL, h⟩⟩]
      clear hLL
      subst hmm
      go_enter Tryd.func17, Tryd.ntmps17
      go_wp2_with (go_at_call 24; refine HCI.out.mono ?_; rintro e w1 ⟨rfl, hb1⟩; have k1 := HK1.out.keep hb1; have k2 := HK2.out.keep hb1; have k11 := k1.cell 1; have k21 := k2.cell 1; have HB1 := Lib.hid (HB0.out.andThen hb1); have HKa := Lib.hid k1; have HKb := Lib.hid k2; have HTa := Lib.hid (HT.out.keep hb1); have HTb := Lib.hid (HT'.out.keep hb1); simp at k11 k21; clear hb1 k1 k2)
      clear k11 k21
      go_loopw [5] (fun i wr => ∃ k : Nat, k ≤ m ∧ i = .int .i64 k ∧ Hid (E.take k = E'.take k) ∧ Below w1.heap.size w1 wr) (fun i _ => m - (intOf i).toNat)
      case atStart => exact ⟨0, Nat.zero_le _, rfl, rfl, Below.refl _ _⟩
      case round =>
        obtain ⟨k, hk, rfl, HD, hb⟩ := hrel
        have HBk := Lib.hid hb
        have k11 := (HKa.out.keep hb).cell 1
        have k21 := (HKb.out.keep hb).cell 1
        have hta := HTa.out.keep hb
        have htb := HTb.out.keep hb
        simp at k11 k21
        clear hb
        by_cases hlt : k < m
        · have hlt' : (k : Int) < (m : Int) := by omega
          obtain ⟨⟨x, y⟩, he⟩ : ∃ e, E[k]? = some e := ⟨_, List.getElem?_eq_getElem (by rw [HM.out]; exact hlt)⟩
          obtain ⟨⟨u, v⟩, hf⟩ : ∃ e, E'[k]? = some e := ⟨_, List.getElem?_eq_getElem (by rw [HM'.out]; exact hlt)⟩
          obtain ⟨b1, off1, rfl, c0, c1⟩ := hta.edge hlt he
          obtain ⟨b2, off2, rfl, d0, d1⟩ := htb.edge hlt hf
          simp only at c0 c1 d0 d1
          have HE := Lib.hid he
          have HF := Lib.hid hf
          clear he hf hta htb
          have hk0 : (0 : Int) ≤ (k : Int) := by omega
          by_cases hxy : x = u ∧ y = v
          · obtain ⟨rfl, rfl⟩ := hxy
            have HN := Lib.hid (show E.take (k + 1) = E'.take (k + 1) by
              obtain ⟨h1, h2⟩ := List.getElem?_eq_some_iff.1 HE.out
              obtain ⟨h3, h4⟩ := List.getElem?_eq_some_iff.1 HF.out
              rw [List.take_succ_eq_append_getElem h1, List.take_succ_eq_append_getElem h3, h2, h4, HD.out])
            go_wp2_with fail
            go_quiet (fail)
            go_wp2_with fail
            go_roundw
            case rel => exact ⟨k + 1, by omega, by go_num, HN.out, bel_drewN HBk.out _⟩
            case measure => simp [intOf]; omega
          · have HNo := Lib.hid (show false = decide (E = E') by
              refine (decide_eq_false fun h => hxy ?_).symm
              have h1 := HE.out
              rw [h, HF.out] at h1
              have h2 := Option.some.inj h1
              exact ⟨(Prod.ext_iff.1 h2).1.symm, (Prod.ext_iff.1 h2).2.symm⟩)
            by_cases hx : x = u
            · subst hx
              have hy : ¬ y = v := fun h => hxy ⟨rfl, h⟩
              have hy' : (y == v) = false := by simpa using hy
              clear hxy
              go_wp2_with fail
              go_quiet (fail)
              go_wp2_with fail
              go_ret
              exact ⟨ret_bool HNo.out, bel_drewN (HB1.out.andThen HBk.out) _⟩
            · have hx' : (x == u) = false := by simpa using hx
              clear hxy
              go_wp2_with fail
              go_quiet (fail)
              go_wp2_with fail
              go_ret
              exact ⟨ret_bool HNo.out, bel_drewN (HB1.out.andThen HBk.out) _⟩
        · obtain rfl : k = m := by omega
          have hlt' : ¬ (k : Int) < (k : Int) := by omega
          have HE := Lib.hid (show true = decide (E = E') by
            refine (decide_eq_true ?_).symm
            have h := HD.out
            rw [List.take_of_length_le (by rw [HM.out]; exact Nat.le_refl _), List.take_of_length_le (by rw [HM'.out]; exact Nat.le_refl _)] at h
            exact h)
          go_wp2_with fail
          go_ret
          exact ⟨ret_bool HE.out, HB1.out.andThen HBk.out⟩
    · have hmm' : ((m : Int) != (m' : Int)) = true := by simp; omega
      rw [show decide (L = L' ∧ E = E') = false from decide_eq_false (fun h => hmm (by rw [← HM.out, ← HM'.out, h.2]))]
      clear hLL
      go_enter Tryd.func17, Tryd.ntmps17
      go_wp2_with (go_at_call 24; refine HCI.out.mono ?_; rintro e w1 ⟨rfl, hb1⟩; have k1 := HK1.out.keep hb1; have k2 := HK2.out.keep hb1; have k11 := k1.cell 1; have k21 := k2.cell 1; have HB1 := Lib.hid (HB0.out.andThen hb1); simp at k11 k21; clear hb1 k1 k2)
      go_ret
      exact ⟨rfl, HB1.out⟩
  · rw [decide_eq_false hLL] at HCI
    rw [show decide (L = L' ∧ E = E') = false from decide_eq_false (fun h => hLL h.1)]
    clear hLL
    go_enter Tryd.func17, Tryd.ntmps17
    go_wp2_with (go_at_call 24; refine HCI.out.mono ?_; rintro e w1 ⟨rfl, hb1⟩; have HB1 := Lib.hid (HB0.out.andThen hb1); clear hb1)
    go_ret
    exact ⟨rfl, HB1.out⟩
end Go.Proofs.YtmonepclhbappaaDoor
