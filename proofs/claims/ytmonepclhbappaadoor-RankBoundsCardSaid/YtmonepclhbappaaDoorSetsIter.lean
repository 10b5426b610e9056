/-
  slices.Values, slices.AppendSeq, slices.Collect at ints: a list's numbers come one by one, and lie in a new row.
-/
import Derived.Test.YtmonepclhbappaaDoorPicksG
namespace Go.Proofs.YtmonepclhbappaaDoor
open Go.RowKit Go.Shelf
attribute [local go_sem] Oper.semAt_some
set_option maxRecDepth 100000
set_option linter.unusedVariables false

set_option maxHeartbeats 4000000 in
theorem values_gives (d n₀ : Nat) (hd : 1 ≤ d) (l : List Int) (A : Option Addr) (n c : Nat) (Bs : Nat) (w : World) (hsB : w.cell? ⟨Bs, 0, none⟩ = some (.slice A n c)) (hBs : Bs < w.heap.size)
    (hl : l.length = n) (hn : n ≤ 9223372036854775806) (hA : Sl w 1 A n (l.map (Value.int .i64))) (hAQ : 0 < n → ∀ x : Addr, A = some x → x.block < n₀) :
    GivesKnown Fence.wide d Tryd.prog 136 #[.pointer (some ⟨Bs, 0, none⟩)] (fun x : Int => #[.int .i64 x]) (fun pre x W => l[pre.length]? = some x) (fun _ => Kept (· < n₀)) (fun xs => xs = l) (fun _ => True) n w := by
  intro lp J Jx W hW hJ hJx hY h0
  have cs : W.cell? ⟨Bs, 0, none⟩ = some (.slice A n c) := (hW.cell (p := ⟨Bs, 0, none⟩) hBs).trans hsB
  have hsl := hA.keep hW
  clear hW hsB hJ hJx hA
  have HY := Lib.hid hY
  have HS := Lib.hid hsl
  have HQ := Lib.hid hAQ
  have H0 := Lib.hid h0
  have HL := Lib.hid hl
  clear hY hsl hAQ h0 hl
  refine callsIn_of_wp Tryd.func136 rfl trivial ?_ rfl
  simp only [Tryd.ntmps136, List.size_toArray, List.length_cons, List.length_nil, Nat.reduceAdd, Nat.reduceSub, Array.replicate_succ, Array.replicate_zero, List.push_toArray, List.append_toArray, List.nil_append, List.cons_append]
  gi_wp2
  gi_loopw [7] (fun i wr => ∃ k : Nat, k ≤ n ∧ i = .int .i64 k ∧ J (l.take k) wr ∧ Kept (· < n₀) W wr) (fun i _ => n - (intOf i).toNat)
  case atStart => exact ⟨0, Nat.zero_le _, rfl, H0.out, Kept.refl _ _⟩
  case round =>
    obtain ⟨k, hk, rfl, hJs, hkp⟩ := hrel
    have HJs := Lib.hid hJs
    have HK := Lib.hid hkp
    clear hJs hkp
    by_cases hlt : k < n
    · have hlt' : (k : Int) < (n : Int) := by omega
      have hlen : (l.take k).length = k := by rw [List.length_take, HL.out]; omega
      obtain ⟨x, hx⟩ : ∃ x, l[k]? = some x := ⟨_, List.getElem?_eq_getElem (by rw [HL.out]; exact hlt)⟩
      have hT : l.take (k + 1) = l.take k ++ [x] := by
        obtain ⟨h1, h2⟩ := List.getElem?_eq_some_iff.1 hx
        rw [List.take_succ_eq_append_getElem h1, h2]
      obtain ⟨bb, off, rfl, _⟩ := HS.out.at_ (show 0 < n by omega)
      have hsq : Sq (· < n₀) W (some ⟨bb, off, none⟩) n (l.map (Value.int .i64)) := ⟨HS.out, fun y hy => HQ.out (by omega) y hy⟩
      have c1 := (hsq.keep HK.out).1.again hlt (show (l.map (Value.int .i64))[k]? = some (.int .i64 x) by rw [List.getElem?_map, hx]; rfl)
      obtain ⟨fn, tmps, assign, body, hy, hR⟩ := HY.out (l.take k) x wr HJs.out (by rw [hlen]; exact hx) (by rw [hlen]; exact hlt)
      rw [← hT] at hR
      have HR := Lib.hid hR
      have HT := Lib.hid hT
      clear hR hT hx hlen hsq
      gi_wp2_with (refine HR.out.mono ?_; clear HR; rintro e W3 (⟨rfl, hJ3, hk3⟩ | ⟨rfl, hJx3⟩))
      · go_roundw
        case rel => exact ⟨k + 1, by omega, by go_num, hJ3, HK.out.trans hk3⟩
        case measure => simp [intOf]; omega
      · refine bodyPost_ret (results_none rfl _ _ _) rfl ?_
        exact ⟨⟨_, rfl⟩, .inr ⟨_, trivial, hJx3⟩⟩
    · obtain rfl : k = n := by omega
      have hlt' : ¬ (k : Int) < (k : Int) := by omega
      have HE := Lib.hid (show l.take k = l from List.take_of_length_le (by rw [HL.out]; exact Nat.le_refl _))
      gi_wp2
      go_end0
      exact ⟨⟨_, rfl⟩, .inl (by have h := HJs.out; rw [HE.out] at h; first | exact h | exact ⟨_, rfl, h⟩)⟩

theorem Values_any (A : Option Addr) (n c : Nat) (w : World) : Calls Tryd.prog 122 #[.slice A n c] w fun e w' => e = .returned (.func (.func 136) #[] #[.pointer (some ⟨w.heap.size, 0, none⟩)]) ∧ w' = w.alloc (.cells #[.slice A n c] 22) := by
  go_enter Tryd.func122, Tryd.ntmps122
  go_wp2_with fail
  go_ret
  exact ⟨rfl, rfl⟩

set_option maxHeartbeats 4000000 in
theorem AppendSeq_any (l : List Int) (A : Option Addr) (n c : Nat) (Bs : Nat) (w : World) (hsB : w.cell? ⟨Bs, 0, none⟩ = some (.slice A n c)) (hBs : Bs < w.heap.size)
    (hl : l.length = n) (hn : n ≤ 1048576) (hA : Sl w 1 A n (l.map (Value.int .i64))) (hAQ : 0 < n → ∀ x : Addr, A = some x → x.block < w.heap.size) :
    Calls Tryd.prog 124 #[.slice none 0 0, .func (.func 136) #[] #[.pointer (some ⟨Bs, 0, none⟩)]] w fun e w' => ∃ v, e = .returned v ∧ w'.ownsRow w.heap.size 3 1 v n (l.map (Value.int .i64)) ∧ Below w.heap.size w w' := by
  refine (callsIn_wide (n := 5)).1 ?_
  refine callsIn_of_wp_marks Tryd.func124 rfl trivial ?_ rfl
  simp only [Tryd.ntmps124, List.size_toArray, List.length_cons, List.length_nil, Nat.reduceAdd, Nat.reduceSub, Array.replicate_succ, Array.replicate_zero, List.push_toArray, List.append_toArray, List.nil_append, List.cons_append]
  gi_wp2
  have hw1 : (w.alloc (.cells #[.slice none 0 0] 22)).heap.size = w.heap.size + 1 := by simp
  have hb1 := bel_al (Below.refl w.heap.size w) (.cells #[.slice none 0 0] 22)
  have hgv := values_gives (5 - 1) w.heap.size (by omega) l A n c Bs _ ((hb1.cell (p := ⟨Bs, 0, none⟩) hBs).trans hsB) (by rw [hw1]; omega) hl (by omega) (hA.keep hb1) hAQ
  obtain ⟨i0, hi, hz0, hz1, hz2⟩ := info_parts elemInt.hi
  refine rangeFunc_one (fun x b => { b with tmps := b.tmps.setIfInBounds 5 (.int .i64 x) }) rfl (by omega) (gf := 136) (lb := #[.pointer (some ⟨Bs, 0, none⟩)]) rfl trivial (enters_of Tryd.func136 (by kernel_rfl) rfl)
    hgv (fun pre x W l o o' hl ho h => h) Kept.trans (fun _ W l o o' _ hl ho _ => Kept.putObj o' hl ho) (Below.refl _ _)
    (fun pre W => (∃ v, Boxed W w.heap.size 22 v ∧ W.ownsRow w.heap.size 3 1 v pre.length (pre.map (Value.int .i64)) ∧ True) ∧ Below w.heap.size w W) (fun _ _ _ => False)
    (OwnFrom.and (Own.from (holdsRow_own w.heap.size w.heap.size 22 3 1 (fun pre : List Int => pre.length) (fun pre => pre.map (Value.int .i64)) (fun _ _ => True)) _) (ownFrom_below (Nat.le_refl _) (by rw [hw1]; omega)))
    (fun c s A B row hs _ _ => hs.elim) ⟨⟨_, Boxed.new _ _ _, World.ownsRow_nil _ _ _ _, trivial⟩, hb1⟩ ?assign ?body ?done ?stop
  case assign =>
    intro l x W K hK
    gi_wp2
    exact hK
  case body =>
    rintro lp pre x W ⟨⟨v, hv, hrow, _⟩, hB⟩ hx hlt
    have hc := hv.cell
    have HV := Lib.hid hv
    have HR := Lib.hid hrow
    have HB := Lib.hid hB
    clear hv hrow hB hgv
    gi_wp2_with (gi_at_builtin; refine wpListIn_append_own _ rfl _ _ 22 rfl w.heap.size 3 i0 (.int .i64 0) 1 8 Tryd.underlying22 hi hz0 hz1 hz2 rfl (by decide) _ _ _ rfl (HR.out.alloc _) ⟨W.heap.size, 0, none⟩ 1 1 [.int .i64 x] rfl rfl (cell_one_new _ _ _) (by simp [Value.oneCell']) (by unfold maxLen; omega) (by omega) (by have := HB.out.size; simp; omega) ?_; intro v' w1 hown' hgrow _; obtain ⟨g', cap', rfl⟩ := ownsRow_succ hown'; obtain ⟨hv1, hv2, hr2, hk2, hb2⟩ := HV.out.appended (by decide) HR.out HB.out.size (Nat.le_refl _) hown' hgrow; have hc1 := hv1.cell; have hf1 := hv1.frozen)
    refine ⟨hk2, ⟨hb2.size, fun k o hk ho _ => (hb2.block k hk).trans ho⟩, ⟨_, hv2, ?_, trivial⟩, HB.out.trans hb2⟩
    rw [List.length_append, List.map_append]
    exact hr2
  case done =>
    rintro D xs W hD rfl ⟨⟨v, hv, hrow, _⟩, hB⟩ hK
    have hc := hv.cell
    rw [hw1] at hD
    gi_wp2
    refine ⟨by simp, .inl ⟨_, _, rfl, run_takeDeferred hK, ?_⟩⟩
    refine ⟨_, results_tmp rfl _ _ _, _, rfl, ?_, hB.trans (belowK_b (w := w) (Nat.le_refl _) W D _ _ (by omega) hK rfl rfl)⟩
    rw [hl] at hrow
    exact ownsRow_putObj hrow _ hK rfl
  case stop =>
    rintro D c pre W _ _ h _
    exact h.elim

theorem Collect_any (l : List Int) (A : Option Addr) (n c : Nat) (Bs : Nat) (w : World) (hsB : w.cell? ⟨Bs, 0, none⟩ = some (.slice A n c)) (hBs : Bs < w.heap.size)
    (hl : l.length = n) (hn : n ≤ 1048576) (hA : Sl w 1 A n (l.map (Value.int .i64))) (hAQ : 0 < n → ∀ x : Addr, A = some x → x.block < w.heap.size) :
    Calls Tryd.prog 104 #[.func (.func 136) #[] #[.pointer (some ⟨Bs, 0, none⟩)]] w fun e w' => ∃ v, e = .returned v ∧ w'.ownsRow w.heap.size 3 1 v n (l.map (Value.int .i64)) ∧ Below w.heap.size w w' := by
  have HC := Lib.hid (AppendSeq_any l A n c Bs w hsB hBs hl hn hA hAQ)
  clear hsB hBs hl hn hA hAQ
  go_enter Tryd.func104, Tryd.ntmps104
  go_wp2_with fail
  refine HC.out.mono ?_
  rintro e w' ⟨v, rfl, hown, hb⟩
  have HO := Lib.hid hown
  have HB := Lib.hid hb
  clear hown hb
  go_wp2_with fail
  go_ret
  exact ⟨v, rfl, HO.out, HB.out⟩
end Go.Proofs.YtmonepclhbappaaDoor
