/-
  Part 15 of the proof of PatTexts: ConA, ConB.
-/
import Derived.BigQuiet
import Derived.Deep.RegionHeld3
import Derived.Test.YtddedghnnkcnhaaGreatDoorPatTextsM13
import Derived.Test.YtddedghnnkcnhaaGreatDoorPatTextsM2
/-
  The document's Has and Right of patterns.
-/
namespace Go.Proofs.YtddedghnnkcnhaaGreatDoor
open Go.RowKit
set_option maxRecDepth 100000
set_option linter.unusedVariables false

set_option maxHeartbeats 4000000 in
theorem RefHas_any (E : List (Int × Int)) (A B : Option Addr) (n c m d : Nat) (a b : Int) (w : World) (hm : m ≤ 1000000) (ht : Sl w 2 B m (Rk.cells E)) :
    Calls Tryz.prog 82 #[pv A n c B m d, .int .i64 a, .int .i64 b] w fun e w' => e = .returned (.bool (decide (AdjE E a b))) ∧ Below w.heap.size w w' := by
  have hb0 := bel_al (Below.refl w.heap.size w) (.cells #[.slice A n c, .slice B m d] 25)
  have HB0 := Lib.hid hb0
  have HTt := Lib.hid (ht.keep hb0)
  have HM := Lib.hid ht.len2
  clear hb0 ht
  go_enter Tryz.func82, Tryz.ntmps82
  go_wp2_with fail
  go_loop [7] (fun i => ∃ k : Nat, k ≤ m ∧ i = .int .i64 k ∧ Hid (∀ e ∈ E.take k, e ≠ (a, b) ∧ e ≠ (b, a))) (fun i => m - (intOf i).toNat)
  case atStart => exact ⟨0, Nat.zero_le _, rfl, Lib.hid fun e he => by cases he⟩
  case round =>
    obtain ⟨k, hk, rfl, HD⟩ := hrel
    by_cases hlt : k < m
    · have hlt' : (k : Int) < (m : Int) := by omega
      have hk0 : (0 : Int) ≤ (k : Int) := by omega
      obtain ⟨⟨x, y⟩, he⟩ : ∃ e, E[k]? = some e := ⟨_, List.getElem?_eq_getElem (by rw [HM.out]; exact hlt)⟩
      obtain ⟨b1, off1, rfl, c0, c1⟩ := HTt.out.edge hlt he
      simp only at c0 c1
      have HN := Lib.hid (show ((x, y) ≠ (a, b) ∧ (x, y) ≠ (b, a)) → ∀ e ∈ E.take (k + 1), e ≠ (a, b) ∧ e ≠ (b, a) from fun h e hm => by
        obtain ⟨h1, h2⟩ := List.getElem?_eq_some_iff.1 he
        rw [List.take_succ_eq_append_getElem h1, h2] at hm
        rcases List.mem_append.1 hm with h3 | h3
        · exact HD.out e h3
        · rw [List.mem_singleton.1 h3]; exact h)
      have HMem := Lib.hid (List.mem_of_getElem? he)
      clear he
      by_cases h1 : x = a
      · subst h1
        by_cases h2 : y = b
        · subst h2
          have HR := Lib.hid (show true = decide (AdjE E x y) from (decide_eq_true (Or.inl HMem.out)).symm)
          go_wp2_with fail
          go_ret
          exact ⟨ret_bool HR.out, HB0.out⟩
        · have h2' : (y == b) = false := by simpa using h2
          by_cases h3 : x = b
          · subst h3
            have h4' : (y == x) = false := by simpa using h2
            have HN1 := Lib.hid (HN.out ⟨fun e => h2 (Prod.ext_iff.1 e).2, fun e => h2 (Prod.ext_iff.1 e).2⟩)
            go_wp2_with fail
            go_round
            case rel => exact ⟨k + 1, by omega, by go_num, HN1⟩
            case measure => simp [intOf]; omega
          · have h3' : (x == b) = false := by simpa using h3
            have HN1 := Lib.hid (HN.out ⟨fun e => h2 (Prod.ext_iff.1 e).2, fun e => h3 (Prod.ext_iff.1 e).1⟩)
            go_wp2_with fail
            go_round
            case rel => exact ⟨k + 1, by omega, by go_num, HN1⟩
            case measure => simp [intOf]; omega
      · have h1' : (x == a) = false := by simpa using h1
        by_cases h3 : x = b
        · subst h3
          by_cases h4 : y = a
          · subst h4
            have HR := Lib.hid (show true = decide (AdjE E y x) from (decide_eq_true (Or.inr HMem.out)).symm)
            go_wp2_with fail
            go_ret
            exact ⟨ret_bool HR.out, HB0.out⟩
          · have h4' : (y == a) = false := by simpa using h4
            have HN1 := Lib.hid (HN.out ⟨fun e => h1 (Prod.ext_iff.1 e).1, fun e => h4 (Prod.ext_iff.1 e).2⟩)
            go_wp2_with fail
            go_round
            case rel => exact ⟨k + 1, by omega, by go_num, HN1⟩
            case measure => simp [intOf]; omega
        · have h3' : (x == b) = false := by simpa using h3
          have HN1 := Lib.hid (HN.out ⟨fun e => h1 (Prod.ext_iff.1 e).1, fun e => h3 (Prod.ext_iff.1 e).1⟩)
          go_wp2_with fail
          go_round
          case rel => exact ⟨k + 1, by omega, by go_num, HN1⟩
          case measure => simp [intOf]; omega
    · obtain rfl : k = m := by omega
      have hlt' : ¬ (k : Int) < (k : Int) := by omega
      rw [List.take_of_length_le (by rw [HM.out]; exact Nat.le_refl _)] at HD
      have HR := Lib.hid (show false = decide (AdjE E a b) from (decide_eq_false fun h => by
        rcases h with h | h
        · exact (HD.out _ h).1 rfl
        · exact (HD.out _ h).2 rfl).symm)
      go_wp2_with fail
      go_ret
      exact ⟨ret_bool HR.out, HB0.out⟩

/-- What the document's Right answers. -/
def RefRes (L : List Int) (E : List (Int × Int)) (w : World) (e : Ending) (w' : World) : Prop :=
  ∃ cc at_ : Int, e = .returned (.tuple #[.int .i64 cc, .int .i64 at_]) ∧ Below w.heap.size w w' ∧ ((rightP L E ∧ cc = 0) ∨ (¬ rightP L E ∧ 1 ≤ cc ∧ cc ≤ 6))
set_option maxHeartbeats 8000000 in
theorem RefRight_any (L : List Int) (E : List (Int × Int)) (A B : Option Addr) (n c m d : Nat) (w : World) (hl : L.length = n) (hn : n ≤ 1000000) (hm : m ≤ 1000000) (hs : Sl w 1 A n (L.map (Value.int .i64))) (ht : Sl w 2 B m (Rk.cells E)) :
    Calls Tryz.prog 17 #[pv A n c B m d] w (RefRes L E w) := by
  have hb0 := bel_al (Below.refl w.heap.size w) (.cells #[.slice A n c, .slice B m d] 25)
  have HB0 := Lib.hid hb0
  have HK := Lib.hid (Blk.new w 25 #[.slice A n c, .slice B m d])
  have HLab := Lib.hid (RefLabels_any L A n c _ hl (hs.keep hb0))
  have HT := Lib.hid (ht.keep hb0)
  have HM := Lib.hid ht.len2
  have HL := Lib.hid hl
  clear hb0 hs ht hl
  go_enter Tryz.func17, Tryz.ntmps17
  go_wp2_with fail
  refine HLab.out.mono ?_
  clear HLab
  rintro e w1 ⟨cc, at0, rfl, rfl, hlab⟩
  rcases hlab with ⟨hlab, rfl⟩ | ⟨hlab, hcc⟩
  · have HLab := Lib.hid hlab
    clear hlab
    go_wp2_with fail
    go_loopw [6] (fun i wr => ∃ k : Nat, k ≤ m ∧ i = .int .i64 k ∧ Hid (∀ j e, j < k → E[j]? = some e → atOK n E j e) ∧ Below (w.alloc (.cells #[.slice A n c, .slice B m d] 25)).heap.size (w.alloc (.cells #[.slice A n c, .slice B m d] 25)) wr) (fun i _ => m - (intOf i).toNat)
    case atStart => exact ⟨0, Nat.zero_le _, rfl, fun j e hj => absurd hj (Nat.not_lt_zero _), Below.refl _ _⟩
    case round =>
      obtain ⟨k, hk, rfl, HD, hb⟩ := hrel
      have HBw := Lib.hid (HB0.out.andThen hb)
      have HBk := Lib.hid hb
      have HTk := Lib.hid (HT.out.keep hb)
      have HCe := Lib.hid (show ∀ V, Below wr.heap.size wr V → V.cell? ⟨w.heap.size, 0, none⟩ = some (.slice A n c) ∧ V.cell? ⟨w.heap.size, 1, none⟩ = some (.slice B m d) from fun V hV => by
        have k0 := (HK.out.keep (HBk.out.andThen hV)).cell 0
        have k1 := (HK.out.keep (HBk.out.andThen hV)).cell 1
        simp at k0 k1
        exact ⟨k0, k1⟩)
      obtain ⟨k0, k1⟩ := HCe.out wr (Below.refl _ _)
      clear hb
      by_cases hlt : k < m
      · have hlt' : (k : Int) < (m : Int) := by omega
        have hkk : (0 : Int) ≤ (k : Int) := by omega
        obtain ⟨⟨x, y⟩, he⟩ : ∃ e, E[k]? = some e := ⟨_, List.getElem?_eq_getElem (by rw [HM.out]; exact hlt)⟩
        obtain ⟨b1, off1, rfl, c0, c1⟩ := HTk.out.edge hlt he
        simp only at c0 c1
        have HE := Lib.hid he
        have HBad := Lib.hid (show ¬ atOK n E k (x, y) → ¬ rightP L E from fun h hr => h (by rw [← HL.out]; exact hr.2 k _ HE.out))
        have HNx := Lib.hid (show atOK n E k (x, y) → ∀ j e, j < k + 1 → E[j]? = some e → atOK n E j e from fun h j e hj hje => by
          by_cases h1 : j < k
          · exact HD.out j e h1 hje
          · obtain rfl : j = k := by omega
            rw [HE.out] at hje
            cases hje
            exact h)
        have HAll := Lib.hid (show ∀ V, Below wr.heap.size wr V → V.cell? ⟨w.heap.size, 0, none⟩ = some (.slice A n c) ∧ V.cell? ⟨w.heap.size, 1, none⟩ = some (.slice (some ⟨b1, off1, none⟩) m d) ∧ V.cell? ⟨b1, off1 + k * 2, none⟩ = some (.int .i64 x) ∧ V.cell? ⟨b1, off1 + k * 2 + 1, none⟩ = some (.int .i64 y) from fun V hV => by
          obtain ⟨b3, off3, hA, d0, d1⟩ := (HTk.out.keep hV).edge hlt HE.out
          cases hA
          exact ⟨(HCe.out V hV).1, (HCe.out V hV).2, d0, d1⟩)
        have HBc := Lib.hid (bel_drewN (Below.refl wr.heap.size wr) 1)
        clear he
        by_cases ho : outP x y n
        · have HO := Lib.hid (fun W => RefOut_any x y n W)
          rw [show decide (outP x y n) = true from decide_eq_true ho] at HO
          have HNo := Lib.hid (HBad.out (fun h => ((edge_out n x y).1 h.1).1 ho))
          go_wp2_with fail
          go_region_held3 (fun w' => w'.cell? ⟨w.heap.size, 0, none⟩ = some (.slice A n c) ∧ w'.cell? ⟨w.heap.size, 1, none⟩ = some (.slice (some ⟨b1, off1, none⟩) m d) ∧ w'.cell? ⟨b1, off1 + k * 2, none⟩ = some (.int .i64 x) ∧ w'.cell? ⟨b1, off1 + k * 2 + 1, none⟩ = some (.int .i64 y)) (go_keep)
            ((go_at_call 80; refine (HO.out _).mono ?_; rintro e' w2 ⟨rfl, hb2⟩; replace HBc := Lib.hid (HBc.out.andThen hb2); obtain ⟨q0, q1, q2, q3⟩ := HAll.out _ HBc.out; clear hb2))
          all_goals go_wp2_with fail
          all_goals go_ret2
          all_goals exact ⟨_, _, rfl, HBw.out.andThen HBc.out, .inr ⟨HNo.out, by decide, by decide⟩⟩
        · have HO := Lib.hid (fun W => RefOut_any x y n W)
          rw [show decide (outP x y n) = false from decide_eq_false ho] at HO
          have HNot := Lib.hid ho
          clear ho
          go_wp2_with fail
          go_region_held3 (fun w' => w'.cell? ⟨w.heap.size, 0, none⟩ = some (.slice A n c) ∧ w'.cell? ⟨w.heap.size, 1, none⟩ = some (.slice (some ⟨b1, off1, none⟩) m d) ∧ w'.cell? ⟨b1, off1 + k * 2, none⟩ = some (.int .i64 x) ∧ w'.cell? ⟨b1, off1 + k * 2 + 1, none⟩ = some (.int .i64 y)) (go_keep)
            ((go_at_call 80; refine (HO.out _).mono ?_; rintro e' w2 ⟨rfl, hb2⟩; replace HBc := Lib.hid (HBc.out.andThen hb2); obtain ⟨q0, q1, q2, q3⟩ := HAll.out _ HBc.out; clear hb2))
          all_goals (
            obtain ⟨V, hV⟩ : ∃ V, V = w2 := ⟨_, rfl⟩
            rw [← hV] at HBc q0 q1 q2 q3 ⊢
            clear hV k0 k1 c0 c1
            by_cases hxy : y ≤ x
            · have hxd : decide (y ≤ x) = true := decide_eq_true hxy
              have HNo := Lib.hid (HBad.out (fun h => by have := ((edge_out n x y).1 h.1).2; omega))
              go_wp2_with fail
              go_quiet (fail)
              go_wp2_with fail
              go_ret2
              exact ⟨_, _, rfl, bel_drewN (HBw.out.andThen HBc.out) _, .inr ⟨HNo.out, by decide, by decide⟩⟩
            · have hxd : decide (y ≤ x) = false := decide_eq_false hxy
              have HEd := Lib.hid (show Pt.EdgeOK n (x, y) from (edge_out n x y).2 ⟨HNot.out, by omega⟩)
              rcases Nat.eq_zero_or_pos k with hk0 | hk0
              · subst hk0
                have HN1 := Lib.hid (HNx.out ⟨HEd.out, fun f h => absurd h (Nat.lt_irrefl _)⟩)
                have h00 : ¬ (0 : Int) < ((0 : Nat) : Int) := by omega
                rw [Nat.zero_mul, Nat.add_zero] at q2 q3
                go_wp2_with fail
                go_quiet (fail)
                go_wp2_with fail
                go_roundw
                case rel => exact ⟨1, by omega, by go_num, HN1.out, bel_drewN (HBk.out.andThen HBc.out) _⟩
                case measure => simp [intOf]; omega
              · obtain ⟨k', hk'⟩ : ∃ k', k = k' + 1 := ⟨k - 1, by omega⟩
                obtain ⟨⟨fx, fy⟩, hf⟩ : ∃ f, E[k']? = some f := ⟨_, List.getElem?_eq_getElem (by rw [HM.out]; omega)⟩
                have HAll2 := Lib.hid (show ∀ V', Below V.heap.size V V' → V'.cell? ⟨w.heap.size, 1, none⟩ = some (.slice (some ⟨b1, off1, none⟩) m d) ∧ V'.cell? ⟨b1, off1 + k * 2, none⟩ = some (.int .i64 x) ∧ V'.cell? ⟨b1, off1 + k * 2 + 1, none⟩ = some (.int .i64 y) ∧ V'.cell? ⟨b1, off1 + k' * 2, none⟩ = some (.int .i64 fx) ∧ V'.cell? ⟨b1, off1 + k' * 2 + 1, none⟩ = some (.int .i64 fy) from fun V' hV' => by
                  obtain ⟨p0, p1, p2, p3⟩ := HAll.out V' (HBc.out.andThen hV')
                  obtain ⟨b3, off3, hA, d0, d1⟩ := (HTk.out.keep (HBc.out.andThen hV')).edge (show k' < m by omega) hf
                  cases hA
                  exact ⟨p1, p2, p3, d0, d1⟩)
                obtain ⟨f0, f1, f2, f3, f4⟩ := HAll2.out V (Below.refl _ _)
                have h00 : (0 : Int) < (k : Int) := by omega
                have hk1 : (k : Int) - 1 = (k' : Int) := by omega
                have hk2 : (0 : Int) ≤ (k' : Int) := by omega
                have hk3 : (k' : Int) < (m : Int) := by omega
                have hk4 : IntKind.i64.wrap (k' : Int) = (k' : Int) := by rw [IntKind.wrap_i64]; omega
                have HK1 := Lib.hid hk'
                have HLs := Lib.hid (fun W => RefLess_any fx fy x y W)
                have HF := Lib.hid hf
                have HBd := Lib.hid (bel_drewN (Below.refl V.heap.size V) 1)
                clear hf hk' q0 q1 q2 q3
                by_cases hz : lessP fx fy x y
                · rw [decide_eq_true hz] at HLs
                  have HN1 := Lib.hid (HNx.out ⟨HEd.out, fun f h hf => by rw [show k - 1 = k' by have := HK1.out; omega, HF.out] at hf; cases hf; exact (ordE_less fx fy x y).2 hz⟩)
                  go_wp2_with fail
                  go_region_held3 (fun w' => w'.cell? ⟨w.heap.size, 1, none⟩ = some (.slice (some ⟨b1, off1, none⟩) m d) ∧ w'.cell? ⟨b1, off1 + k * 2, none⟩ = some (.int .i64 x) ∧ w'.cell? ⟨b1, off1 + k * 2 + 1, none⟩ = some (.int .i64 y) ∧ w'.cell? ⟨b1, off1 + k' * 2, none⟩ = some (.int .i64 fx) ∧ w'.cell? ⟨b1, off1 + k' * 2 + 1, none⟩ = some (.int .i64 fy)) (go_keep)
                    ((go_at_call 81; refine (HLs.out _).mono ?_; rintro e' w3 ⟨rfl, hb3⟩; replace HBd := Lib.hid (HBd.out.andThen hb3); obtain ⟨q0, q1, q2, q3, q4⟩ := HAll2.out _ HBd.out; clear hb3))
                  all_goals (
                    go_wp2_with fail
                    go_roundw
                    case rel => exact ⟨k + 1, by omega, by go_num, HN1.out, (HBk.out.andThen HBc.out).andThen HBd.out⟩
                    case measure => simp [intOf]; omega)
                · rw [decide_eq_false hz] at HLs
                  have HNo := Lib.hid (HBad.out (fun h => hz ((ordE_less fx fy x y).1 (h.2 (fx, fy) hk0 (by rw [show k - 1 = k' by have := HK1.out; omega]; exact HF.out)))))
                  go_wp2_with fail
                  go_region_held3 (fun w' => w'.cell? ⟨w.heap.size, 1, none⟩ = some (.slice (some ⟨b1, off1, none⟩) m d) ∧ w'.cell? ⟨b1, off1 + k * 2, none⟩ = some (.int .i64 x) ∧ w'.cell? ⟨b1, off1 + k * 2 + 1, none⟩ = some (.int .i64 y) ∧ w'.cell? ⟨b1, off1 + k' * 2, none⟩ = some (.int .i64 fx) ∧ w'.cell? ⟨b1, off1 + k' * 2 + 1, none⟩ = some (.int .i64 fy)) (go_keep)
                    ((go_at_call 81; refine (HLs.out _).mono ?_; rintro e' w3 ⟨rfl, hb3⟩; replace HBd := Lib.hid (HBd.out.andThen hb3); obtain ⟨q0, q1, q2, q3, q4⟩ := HAll2.out _ HBd.out; clear hb3))
                  all_goals go_wp2_with fail
                  all_goals go_ret2
                  all_goals exact ⟨_, _, rfl, (HBw.out.andThen HBc.out).andThen HBd.out, .inr ⟨HNo.out, by decide, by decide⟩⟩)
      · obtain rfl : k = m := by omega
        have hlt' : ¬ (k : Int) < (k : Int) := by omega
        go_wp2_with fail
        go_ret2
        exact ⟨0, _, rfl, HBw.out, .inl ⟨⟨HLab.out, fun i e he => by rw [HL.out]; exact HD.out i e (by have := (List.getElem?_eq_some_iff.1 he).1; rw [HM.out] at this; exact this) he⟩, rfl⟩⟩
  · have hc0 : ¬ cc = 0 := by omega
    have hcb : (cc == 0) = false := by simpa using hc0
    go_wp2_with fail
    go_loopw [6] (fun i wr => i = .int .i64 0 ∧ wr = w.alloc (.cells #[.slice A n c, .slice B m d] 25)) (fun i _ => 0)
    case atStart => exact ⟨rfl, rfl⟩
    case round =>
      obtain ⟨rfl, rfl⟩ := hrel
      go_wp2_with fail
      go_ret2
      exact ⟨cc, _, rfl, HB0.out, .inr ⟨fun h => hlab h.1, by omega, by omega⟩⟩
end Go.Proofs.YtddedghnnkcnhaaGreatDoor
/-
  The document's Connected: breadth first.
-/
namespace Go.Proofs.YtddedghnnkcnhaaGreatDoor
open Go.RowKit
set_option maxRecDepth 100000
set_option linter.unusedVariables false

theorem mem_take_succ {S : List Int} {k : Nat} {x v : Int} (h : S[k]? = some x) : decide (v ∈ S.take (k + 1)) = (decide (v ∈ S.take k) || (x == v)) := by
  obtain ⟨h1, h2⟩ := List.getElem?_eq_some_iff.1 h
  rw [List.take_succ_eq_append_getElem h1, h2]
  by_cases hx : x = v
  · subst hx
    simp
  · have h3 : ¬ v = x := fun e => hx e.symm
    have h4 : (x == v) = false := by simpa using hx
    rw [h4, Bool.or_false]
    exact decide_eq_decide.2 (by simp [h3])

set_option maxHeartbeats 8000000 in
theorem RefConnected_any (L : List Int) (E : List (Int × Int)) (A B : Option Addr) (n c m d : Nat) (w : World) (hl : L.length = n) (hn : n ≤ 1000000) (hm : m ≤ 1000000) (hs : Sl w 1 A n (L.map (Value.int .i64))) (ht : Sl w 2 B m (Rk.cells E)) :
    Calls Tryz.prog 19 #[pv A n c B m d] w (ConRes L E w) := by
  have hb0 := bel_al (Below.refl w.heap.size w) (.cells #[.slice A n c, .slice B m d] 25)
  have HB0 := Lib.hid hb0
  have HK := Lib.hid (Blk.new w 25 #[.slice A n c, .slice B m d])
  have HRt := Lib.hid (RefRight_any L E A B n c m d _ hl hn hm (hs.keep hb0) (ht.keep hb0))
  have HT := Lib.hid (ht.keep hb0)
  have HM := Lib.hid ht.len2
  have HL := Lib.hid hl
  clear hb0 hs ht hl
  go_enter Tryz.func19, Tryz.ntmps19
  go_upto_region 2 with (go_at_call 17; refine HRt.out.mono ?_; clear HRt; rintro e w1 ⟨cc, at0, rfl, hb1, hc1⟩; have HB1 := Lib.hid hb1; have HC1 := Lib.hid hc1; clear hb1 hc1)
  rcases HC1.out with ⟨hR, rfl⟩ | ⟨hR, h1, h6⟩
  · obtain ⟨w0, hw0⟩ : ∃ w0, w0 = w.alloc (.cells #[.slice A n c, .slice B m d] 25) := ⟨_, rfl⟩
    rw [← hw0] at HB0 HK HT HB1
    clear hw0
    have HCe := Lib.hid (show ∀ V, Below w0.heap.size w0 V → V.cell? ⟨w.heap.size, 0, none⟩ = some (.slice A n c) ∧ V.cell? ⟨w.heap.size, 1, none⟩ = some (.slice B m d) from fun V hV => by
      have k0 := (HK.out.keep hV).cell 0
      have k1 := (HK.out.keep hV).cell 1
      simp at k0 k1
      exact ⟨k0, k1⟩)
    obtain ⟨k0, k1⟩ := HCe.out w1 HB1.out
    rcases Nat.eq_zero_or_pos n with h0 | h0
    · subst h0
      go_wp2_with fail
      go_ret
      exact ⟨false, rfl, ⟨fun h => (by cases h), fun h => by have := h.2.1; rw [HL.out] at this; omega⟩, HB0.out.andThen HB1.out⟩
    · have hn0 : ((n : Int) == 0) = false := by simp; omega
      have HN0 := Lib.hid h0
      have HR := Lib.hid hR
      have h8 := hR.1.1
      rw [HL.out] at h8
      have hed := right_edges hR
      rw [HL.out] at hed
      have HEd := Lib.hid hed
      have HHas := Lib.hid (fun (V : World) (x y : Int) (hV : Below w0.heap.size w0 V) => RefHas_any E A B n c m d x y V hm (HT.out.keep hV))
      have HSt := Lib.hid (Bfs.start (E := E) h0)
      clear hR hed HC1
      go_wp2_with fail
      have HO1 := Lib.hid (show (w1.alloc (.cells #[.int .i64 0] 3)).ownsRow w1.heap.size 3 1 (.slice (some ⟨w1.heap.size, 0, none⟩) 1 1) 1 [.int .i64 0] from by
        have h := World.ownsRow_lit (base := w1.heap.size) (size := 1) (e := 3) w1 #[.int .i64 0] 1 (Nat.le_refl _) (by unfold maxLen; omega) (by simp)
        simpa using h)
      have HBs := Lib.hid (show w0.heap.size ≤ w1.heap.size from HB1.out.size)
      go_loopw [5, 6] (fun sv iv wr => ∃ (S : List Int) (z i g cap : Nat), i ≤ z ∧ z ≤ n ∧ iv = .int .i64 (i : Int) ∧ sv = .slice (some ⟨g, 0, none⟩) z cap ∧ Hid (S.length = z) ∧ Hid (Bfs n E S i 0) ∧ Hid (wr.ownsRow w1.heap.size 3 1 (.slice (some ⟨g, 0, none⟩) z cap) z (S.map (Value.int .i64))) ∧ Hid (Below w1.heap.size w1 wr)) (fun _ iv _ => n - (intOf iv).toNat)
      case atStart => exact ⟨[0], 1, 0, w1.heap.size, 1, by omega, h0, rfl, rfl, Lib.hid rfl, HSt, HO1, Lib.hid (bel_al (Below.refl _ _) _)⟩
      case round =>
        clear HO1 k0 k1 HSt
        obtain ⟨S, z, i, g, cap, hiz, hzn, rfl, rfl, HSl, HBf, HO, HB⟩ := hrel
        obtain ⟨k0, k1⟩ := HCe.out wr (HB1.out.andThen HB.out)
        by_cases hlt : i < z
        · have hlt' : (i : Int) < (z : Int) := by omega
          go_wp2_with fail
          go_loopw [5, 7] (fun sv vv wx => ∃ (S : List Int) (z v g cap : Nat), v ≤ n ∧ i < z ∧ z ≤ n ∧ vv = .int .i64 (v : Int) ∧ sv = .slice (some ⟨g, 0, none⟩) z cap ∧ Hid (S.length = z) ∧ Hid (Bfs n E S i v) ∧ Hid (wx.ownsRow w1.heap.size 3 1 (.slice (some ⟨g, 0, none⟩) z cap) z (S.map (Value.int .i64))) ∧ Hid (Below w1.heap.size w1 wx)) (fun _ vv _ => n - (intOf vv).toNat)
          case atStart => exact ⟨S, z, 0, g, cap, Nat.zero_le _, hlt, hzn, rfl, rfl, HSl, HBf, HO, HB⟩
          case round =>
            clear HSl HBf HO HB k0 k1 hiz hlt hlt' hzn
            obtain ⟨S, z, v, g, cap, hvn, hiz, hzn, rfl, rfl, HSl, HBf, HO, HB⟩ := hrel
            obtain ⟨k0, k1⟩ := HCe.out wr (HB1.out.andThen HB.out)
            by_cases hv : v < n
            · have hv' : (v : Int) < (n : Int) := by omega
              go_wp2_with fail
              go_loop [8, 9] (fun kv jv => ∃ j : Nat, j ≤ z ∧ jv = .int .i64 (j : Int) ∧ kv = .bool (decide ((v : Int) ∈ S.take j))) (fun _ jv => z - (intOf jv).toNat)
              case atStart => exact ⟨0, Nat.zero_le _, rfl, by simp⟩
              case round =>
                obtain ⟨j, hj, rfl, rfl⟩ := hrel
                by_cases hjz : j < z
                · have hjz' : (j : Int) < (z : Int) := by omega
                  have hj0 : (0 : Int) ≤ (j : Int) := by omega
                  obtain ⟨x, hx⟩ : ∃ x, S[j]? = some x := ⟨_, List.getElem?_eq_getElem (by rw [HSl.out]; exact hjz)⟩
                  have e1 := own_cell HO.out hx
                  have HSc := Lib.hid (mem_take_succ (v := (v : Int)) hx)
                  obtain ⟨q, hq⟩ : ∃ q, q = decide ((v : Int) ∈ S.take j) := ⟨_, rfl⟩
                  rw [← hq] at HSc ⊢
                  clear hx hq
                  cases q with
                  | true =>
                    have HSe := Lib.hid (show true = decide ((v : Int) ∈ S.take (j + 1)) from by rw [HSc.out]; rfl)
                    go_wp2_with fail
                    go_round
                    case rel => exact ⟨j + 1, by omega, by go_num, congrArg Value.bool HSe.out⟩
                    case measure => simp [intOf]; omega
                  | false =>
                    have HSe := Lib.hid (show (x == (v : Int)) = decide ((v : Int) ∈ S.take (j + 1)) from by rw [HSc.out]; simp)
                    go_wp2_with fail
                    go_round
                    case rel => exact ⟨j + 1, by omega, by go_num, congrArg Value.bool HSe.out⟩
                    case measure => simp [intOf]; omega
                · obtain rfl : j = z := by omega
                  have hjz' : ¬ (j : Int) < (j : Int) := by omega
                  rw [List.take_of_length_le (by rw [HSl.out]; exact Nat.le_refl _)]
                  obtain ⟨x, hx⟩ : ∃ x, S[i]? = some x := ⟨_, List.getElem?_eq_getElem (by rw [HSl.out]; exact hiz)⟩
                  by_cases hmem : (v : Int) ∈ S
                  · rw [decide_eq_true hmem]
                    have HBn := Lib.hid (HBf.out.skip hx fun _ => hmem)
                    clear hx
                    go_wp2_with fail
                    go_quiet (fail)
                    go_wp2_with fail
                    go_roundw
                    case rel => exact ⟨S, j, v + 1, g, cap, by omega, hiz, hzn, by go_num, rfl, HSl, HBn, Lib.hid (own_block HO.out fun g hg => (bel_drewN (Below.refl wr.heap.size wr) _).block g (HO.out.lt g hg).2), Lib.hid (bel_drewN HB.out _)⟩
                    case measure => simp [intOf]; omega
                  · rw [decide_eq_false hmem]
                    have hiz' : (i : Int) < (j : Int) := by omega
                    have hi0 : (0 : Int) ≤ (i : Int) := by omega
                    have HAll := Lib.hid (show ∀ V, Below wr.heap.size wr V → V.cell? ⟨w.heap.size, 0, none⟩ = some (.slice A n c) ∧ V.cell? ⟨w.heap.size, 1, none⟩ = some (.slice B m d) ∧ V.cell? ⟨g, i, none⟩ = some (.int .i64 x) from fun V hV => by
                      obtain ⟨p0, p1⟩ := HCe.out V ((HB1.out.andThen HB.out).andThen hV)
                      exact ⟨p0, p1, own_cell (own_block HO.out fun g hg => hV.block g (HO.out.lt g hg).2) hx⟩)
                    obtain ⟨p0, p1, p2⟩ := HAll.out wr (Below.refl _ _)
                    have HBc := Lib.hid (bel_drewN (Below.refl wr.heap.size wr) 1)
                    have HX := Lib.hid hx
                    clear hx k0 k1
                    by_cases ha : AdjE E x (v : Int)
                    · have HHb := Lib.hid (fun V hV => HHas.out V x (v : Int) hV)
                      rw [decide_eq_true ha] at HHb
                      have HBn := Lib.hid (HBf.out.take HX.out ha hv hmem)
                      go_wp2_with fail
                      go_region_held3 (fun w' => w'.cell? ⟨w.heap.size, 0, none⟩ = some (.slice A n c) ∧ w'.cell? ⟨w.heap.size, 1, none⟩ = some (.slice B m d) ∧ w'.cell? ⟨g, i, none⟩ = some (.int .i64 x)) (go_keep)
                        ((go_at_call 82; refine (HHb.out _ ((HB1.out.andThen HB.out).andThen HBc.out)).mono ?_; rintro e' w2 ⟨rfl, hb2⟩; replace HBc := Lib.hid (HBc.out.andThen hb2); obtain ⟨p0, p1, p2⟩ := HAll.out _ HBc.out; clear hb2))
                      all_goals (
                        have HO2 := Lib.hid (own_block HO.out fun g hg => HBc.out.block g (HO.out.lt g hg).2)
                        have HB2 := Lib.hid (HB.out.andThen HBc.out)
                        go_wp2_with (at_builtin; refine wpList_push elemInt (w0 := w1) _ _ rfl rfl HO2.out HB2.out (Nat.le_refl _) rfl rfl rfl (by simp [Value.oneCell']) (by unfold lim; omega) (by unfold lim; omega) ?_; intro v4 w4 hown4 hb4; obtain ⟨g4, cap4, rfl, _⟩ := own_form hown4 (by omega); have HO4 := Lib.hid hown4; have HB4 := Lib.hid hb4; clear hown4 hb4)
                        go_roundw
                        case rel =>
                          have hl2 : (S ++ [(v : Int)]).length = j + 1 := by rw [List.length_append, HSl.out]; rfl
                          have hle := HBn.out.len
                          rw [hl2] at hle
                          exact ⟨S ++ [(v : Int)], j + 1, v + 1, g4, cap4, by omega, by omega, hle, by go_num, rfl, Lib.hid hl2, HBn, Lib.hid (by have h := HO4.out; rw [List.map_append]; exact h), HB4⟩
                        case measure => simp [intOf]; omega)
                    · have HHb := Lib.hid (fun V hV => HHas.out V x (v : Int) hV)
                      rw [decide_eq_false ha] at HHb
                      have HBn := Lib.hid (HBf.out.skip HX.out fun h => absurd h ha)
                      go_wp2_with fail
                      go_region_held3 (fun w' => w'.cell? ⟨w.heap.size, 0, none⟩ = some (.slice A n c) ∧ w'.cell? ⟨w.heap.size, 1, none⟩ = some (.slice B m d) ∧ w'.cell? ⟨g, i, none⟩ = some (.int .i64 x)) (go_keep)
                        ((go_at_call 82; refine (HHb.out _ ((HB1.out.andThen HB.out).andThen HBc.out)).mono ?_; rintro e' w2 ⟨rfl, hb2⟩; replace HBc := Lib.hid (HBc.out.andThen hb2); obtain ⟨p0, p1, p2⟩ := HAll.out _ HBc.out; clear hb2))
                      all_goals (
                        have HO2 := Lib.hid (own_block HO.out fun g hg => HBc.out.block g (HO.out.lt g hg).2)
                        have HB2 := Lib.hid (HB.out.andThen HBc.out)
                        go_wp2_with fail
                        go_roundw
                        case rel => exact ⟨S, j, v + 1, g, cap, by omega, hiz, hzn, by go_num, rfl, HSl, HBn, HO2, HB2⟩
                        case measure => simp [intOf]; omega)
            · obtain rfl : v = n := by omega
              have hv' : ¬ (v : Int) < (v : Int) := by omega
              have HBn := Lib.hid (HBf.out.next (by rw [HSl.out]; exact hiz))
              go_wp2_with fail
              go_roundw
              case rel => exact ⟨S, z, i + 1, g, cap, hiz, hzn, by go_num, rfl, HSl, HBn, HO, HB⟩
              case measure => simp [intOf]; omega
        · obtain rfl : i = z := by omega
          have hlt' : ¬ (i : Int) < (i : Int) := by omega
          go_wp2_with fail
          go_ret
          refine ⟨_, rfl, ?_, HB0.out.andThen (HB1.out.andThen HB.out)⟩
          have h1 := HBf.out
          rw [← HSl.out] at h1
          have h2 := h1.all HEd.out
          rw [HSl.out] at h2
          rw [beq_iff_eq]
          constructor
          · intro h
            exact ⟨HR.out, by rw [HL.out]; exact HN0.out, by rw [HL.out]; exact h2.1 (by omega)⟩
          · intro h
            have := h2.2 (by have := h.2.2; rwa [HL.out] at this)
            omega
  · have hc0 : ¬ cc = 0 := by omega
    have hcb : (cc == 0) = false := by simpa using hc0
    go_wp2_with fail
    go_ret
    exact ⟨false, rfl, ⟨fun h => (by cases h), fun h => absurd h.1 hR⟩, HB0.out.andThen HB1.out⟩
end Go.Proofs.YtddedghnnkcnhaaGreatDoor
