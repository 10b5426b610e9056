/-
  Part 19 of the proof of OdagMerge: OdBt, AddP.
-/
import Derived.BigQuiet
import Derived.Deep.DeepCutAuto
import Derived.Test.YtmonepclhbappaaGreatDoorOdagMergeM16
import Derived.Test.YtmonepclhbappaaGreatDoorOdagMergeM7
import Derived.Test.YtmonepclhbappaaGreatDoorOdagMergeM18
import Derived.Test.YtmonepclhbappaaGreatDoorOdagMergeM8
import Derived.Test.YtmonepclhbappaaGreatDoorOdagMergeM10
/-
  Odags: Bytes.
-/
namespace Go.Proofs.YtmonepclhbappaaGreatDoor
open Go.RowKit Go.Maps
set_option maxRecDepth 100000
set_option linter.unusedVariables false

section
variable (w : World) {ops : Array Oper} {rest : List Oper} {o : Oper} {a : Act} {Q : Exit → Act → World → Prop}
/-- 'r[a]' of a row that was there: its links stay. -/
theorem wpList_lookF {w0 : World} (hg : o.guard = none) (m x : Operand) (hop : o.op = Op.lookup 114 m x false) (b : Nat) (r : Rw) (hm : a.eval m = .map (some b)) (hb : Below w0.heap.size w0 w) (hown : MRow w0 b r) (y : Int) (hx : a.eval x = .int .i64 y) (h1 : -9223372036854775808 ≤ y) (h2 : y ≤ 9223372036854775807)
    (hK : ∀ (A : Option Addr) (c : Nat) (l : List Int), (∀ V, Below w0.heap.size w0 V → RowOK V (A, c, l)) → l = lkR r y → wpList Tryz.prog ops Q rest (a.put o.dst (.slice A l.length c)) w) :
    wpList Tryz.prog ops Q (o :: rest) a w := by
  obtain ⟨me, rfl, hM, hR⟩ := hown
  obtain ⟨A, c, l, h3, h4, h5⟩ := MRow.look hR y
  refine wpList_lookI w hg m x _ hop 22 kInt Tryz.underlying114 (.slice none 0 0) (by kernel_rfl) b _ hm (MapI.keep hM hb) y hx h1 h2 ?_
  rw [h5]
  exact hK A c l (fun V hV => h3.keep hV) h4
end
theorem flat_take_le {α : Type} (f : α → List Int) (L : List α) (i : Nat) : ((L.take i).flatMap f).length ≤ (L.flatMap f).length := by
  conv => rhs; rw [← List.take_append_drop i L]
  rw [List.flatMap_append, List.length_append]
  omega
def bytK (od : List Rw) (i : Nat) : List Int := wordL od.length ++ ((od.take i).map keysR).flatMap encW
def bytL (od : List Rw) (i k : Nat) : List Int := ((wordL od.length ++ (od.map keysR).flatMap encW) ++ (od.take i).flatMap encLk) ++ encLk ((od.getD i []).take k)
theorem bytK_le (od : List Rw) (i : Nat) : (bytK od i).length ≤ (bytesO od).length := by
  unfold bytK bytesO
  have := flat_take_le encW (od.map keysR) i
  rw [← List.map_take] at this
  simp only [List.length_append]
  omega
theorem bytK_step {od : List Rw} {i : Nat} (h : i < od.length) : bytK od (i + 1) = bytK od i ++ encW (keysR (od.getD i [])) := by
  unfold bytK
  rw [List.take_succ_eq_append_getElem h, List.map_append, List.flatMap_append, getD_in h, List.append_assoc]
  simp
theorem bytL_le {od : List Rw} {i : Nat} (h : i + 1 < od.length) (k : Nat) : (bytL od i k).length ≤ (bytesO od).length := by
  have h1 : (encLk ((od.getD i []).take k)).length ≤ (encLk (od.getD i [])).length := flat_take_le (fun q : Int × List Int => encW q.2) (od.getD i []) k
  have h2 := flat_take_le encLk (od.take (od.length - 1)) (i + 1)
  rw [List.take_take, Nat.min_eq_left (by omega), List.take_succ_eq_append_getElem (by omega), List.flatMap_append, List.length_append] at h2
  rw [getD_in (by omega)] at h1
  simp only [List.flatMap_cons, List.flatMap_nil, List.append_nil] at h2
  unfold bytL bytesO
  rw [getD_in (by omega)]
  simp only [List.length_append]
  omega
theorem bytL_step {od : List Rw} {i k : Nat} {q : Int × List Int} (h : (od.getD i [])[k]? = some q) : bytL od i (k + 1) = bytL od i k ++ encW q.2 := by
  obtain ⟨h1, h2⟩ := List.getElem?_eq_some_iff.1 h
  have e : encLk ((od.getD i []).take (k + 1)) = encLk ((od.getD i []).take k) ++ encW q.2 := by
    unfold encLk
    rw [List.take_succ_eq_append_getElem h1, h2, List.flatMap_append]
    simp
  unfold bytL
  rw [e]
  simp only [List.append_assoc]
theorem bytL_next {od : List Rw} {i : Nat} (h : i < od.length) : bytL od i (od.getD i []).length = bytL od (i + 1) 0 := by
  unfold bytL
  rw [List.take_of_length_le (Nat.le_refl _), List.take_zero, List.take_succ_eq_append_getElem h, List.flatMap_append, getD_in h]
  simp [encLk]
theorem wf_B {od : List Rw} {N : Nat} (h : WfO od N) : OdB 65536 od := fun r hr => by
  obtain ⟨i, hi, rfl⟩ := List.mem_iff_getElem.1 hr
  have hl := h.len
  have e := getD_in (x := []) hi
  have hk := (h.keys i (by omega)).2
  rw [e] at hk
  refine ⟨hk, fun q hq => ?_⟩
  by_cases h1 : i + 1 < N
  · have := (h.lnk i h1 q (by rw [e]; exact hq)).1.2
    exact this
  · have := h.last q (by rw [show N - 1 = i by omega, e]; exact hq)
    rw [this]
    simp

set_option maxHeartbeats 16000000 in
theorem OdBytes_any (p N : Nat) (od : List Rw) (w : World) (h : OdM w p od) (hW : WfO od N) (hsz : (bytesO od).length ≤ 1000000) :
    Calls Tryz.prog 25 #[.pointer (some ⟨p, 0, none⟩)] w fun e w' => ∃ C k, e = .returned (.slice C (bytesO od).length k) ∧ Sl w' 1 C (bytesO od).length ((bytesO od).map (Value.int .u8)) ∧ ((bytesO od).length ≤ k ∧ k ≤ 9223372036854775807) ∧ Below w.heap.size w w' := by
  have HOd := Lib.hid h
  have HW := Lib.hid hW
  have HSz := Lib.hid hsz
  have HLn := Lib.hid (show ∀ V, Below w.heap.size w V → Calls Tryz.prog 32 #[.pointer (some ⟨p, 0, none⟩)] V (fun e w' => e = .returned (.int .i64 (N : Int)) ∧ V = w') from fun V hV => by
    have h2 := OdLen_any p od V (h.keep hV)
    rw [hW.len] at h2
    exact h2)
  obtain ⟨R, n0, c0, bs, hc⟩ := h
  have hn0 : n0 = N := by rw [← hc.2.1]; exact hW.len
  subst hn0
  have h1 := hW.h1
  have h8 := hW.h8
  obtain ⟨rb, ro, rfl, _⟩ := hc.2.2.2.2.1.at_ (show 0 < n0 by omega)
  have HC := Lib.hid hc
  have HCe := Lib.hid (show ∀ V (i b : Nat), Below w.heap.size w V → i < n0 → bs[i]? = some b → V.cell? ⟨p, 0, none⟩ = some (.slice (some ⟨rb, ro, none⟩) n0 c0) ∧ V.cell? ⟨rb, ro + i, none⟩ = some (.map (some b)) from fun V i b hb hi hbi => by
    have d0 := (hc.1.keep hb).cell 0
    simp at d0
    exact ⟨d0, (hc.2.2.2.2.1.keep hb).again hi (by rw [List.getElem?_map, hbi]; rfl)⟩)
  clear hW hsz hc h1 h8
  have hN1 := HW.out.h1
  have hN8 := HW.out.h8
  go_enter Tryz.func25, Tryz.ntmps25
  go_upto_region 2 with (fail)
  obtain ⟨W1, hW1⟩ : ∃ W1, w.alloc (.cells #[.slice none 0 0, .nilIface] 91) = W1 := ⟨_, rfl⟩
  have hb1 : Below w.heap.size w W1 := by rw [← hW1]; exact bel_al (Below.refl _ _) _
  have hw1 : Wr W1 w.heap.size w.heap.size [] .nil := by
    rw [← hW1]
    exact ⟨Nat.le_refl _, trivial, _, _, Blk.new w _ _, World.ownsRow_nil _ _ _ _, rfl⟩
  rw [hW1]
  clear hW1
  have HB1 := Lib.hid hb1
  have HWr1 := Lib.hid hw1
  clear hb1 hw1
  have HL1 := Lib.hid (HLn.out W1 HB1.out)
  go_upto_region 3 with (first
    | (go_at_call 32; refine HL1.out.mono ?_; clear HL1; rintro e wx ⟨rfl, rfl⟩; have HNu := Lib.hid (Num_K n0 (by omega) w.heap.size w.heap.size [] .nil W1 HWr1.out (by simp)))
    | (go_at_call 66; refine HNu.out.mono ?_; clear HNu; rintro e w2 ⟨rfl, hw2, hb2, _⟩; have HWr2 := Lib.hid hw2; have HB2 := Lib.hid (HB1.out.trans hb2); clear hw2 hb2)
    | fail)
  have HL2 := Lib.hid (HLn.out w2 HB2.out)
  go_wp2_with (go_at_call 32; refine HL2.out.mono ?_; clear HL2; rintro e wx ⟨rfl, rfl⟩)
  go_loopw [16] (fun iv wr => ∃ i : Nat, i ≤ n0 ∧ iv = .int .i64 (i : Int) ∧ Hid (Wr wr w.heap.size w.heap.size (bytK od i) .nil) ∧ Hid (Below w.heap.size w wr)) (fun iv _ => n0 - (intOf iv).toNat)
  case atStart => exact ⟨0, Nat.zero_le _, rfl, Lib.hid (by have h := HWr2.out; unfold bytK; rw [HW.out.len]; simpa using h), HB2⟩
  case round =>
    clear HWr2 HB2 HWr1 HB1
    obtain ⟨i, hi, rfl, HWr, HB⟩ := hrel
    by_cases hin : i < n0
    · have hin' : (i : Int) < (n0 : Int) := by omega
      have hil : i < od.length := by rw [HW.out.len]; exact hin
      have hkr := HW.out.keys i hin
      have hR := OdRow_any p od (i : Int) wr (HOd.out.keep HB.out) (fun r hr => ((wf_B HW.out) r hr).mono (by omega)) (by rw [HW.out.len]; omega)
      rw [keysAt_in hil] at hR
      have hkl : (keysR (od.getD i [])).length ≤ 65536 := by unfold keysR; rw [List.length_map]; exact hkr.2
      have hst := bytK_step hil
      obtain ⟨ks, hks⟩ : ∃ ks, ks = keysR (od.getD i []) := ⟨_, rfl⟩
      change Calls Tryz.prog _ _ wr (fun e w' => ∃ v, e = .returned v ∧ w'.ownsRow wr.heap.size 3 1 v (keysR (od.getD i [])).length ((keysR (od.getD i [])).map (Value.int .i64)) ∧ Below wr.heap.size wr w') at hR
      rw [← hks] at hR hkl hst hkr
      have HRw := Lib.hid hR
      have HKr := Lib.hid (And.intro hkr.1 hkl)
      have HSt := Lib.hid hst
      have HPl := Lib.hid (Nat.le_trans (bytK_le od i) HSz.out)
      clear hil hkr hR hkl hst hks
      go_wp2_with (first
        | (go_at_call 34; refine HRw.out.mono ?_; clear HRw; rintro e w3 ⟨v, rfl, hown, hb3⟩; have HB3 := Lib.hid hb3; obtain ⟨X, xc, rfl, _⟩ := Sl.own hown; have HLi := Lib.hid (List_K ks HKr.out.1.fits X ks.length xc (by have := HKr.out.2; omega) rfl w.heap.size w.heap.size (bytK od i) .nil w3 (fun W hW hk => Sl.of_own (WkT.own hown hk (by decide) (by decide))) (HWr.out.keep hb3) (by have := HPl.out; omega)); clear hown hb3)
        | (go_at_call 51; refine HLi.out.mono ?_; clear HLi; rintro e w4 ⟨rfl, hw4, hb4, _⟩; have HWr4 := Lib.hid hw4; have HB4 := Lib.hid ((HB.out.andThen HB3.out).trans hb4); clear hw4 hb4)
        | fail)
      go_roundw
      case rel => exact ⟨i + 1, by omega, by go_num, Lib.hid (by rw [HSt.out]; exact HWr4.out), HB4⟩
      case measure => simp [intOf]; omega
    · obtain rfl : i = n0 := by omega
      have hin' : ¬ (i : Int) < (i : Int) := by omega
      obtain ⟨N1, hN1e⟩ : ∃ N1, i = N1 + 1 := ⟨i - 1, by omega⟩
      have hw1 : IntKind.i64.wrap ((i : Int) - 1) = (N1 : Int) := by rw [IntKind.wrap_i64]; omega
      have hmx : max (N1 : Int) 0 = (N1 : Int) := by omega
      have HN1 := Lib.hid hN1e
      have HL3 := Lib.hid (HLn.out wr HB.out)
      have HWr0 := Lib.hid (show Wr wr w.heap.size w.heap.size (bytL od 0 0) .nil from by
        have h := HWr.out
        have e : bytL od 0 0 = bytK od i := by
          unfold bytL bytK
          rw [show od.take i = od from List.take_of_length_le (by rw [HW.out.len]; exact Nat.le_refl _)]
          simp [encLk]
        rw [e]
        exact h)
      clear hN1e
      go_wp2_with (go_at_call 32; refine HL3.out.mono ?_; clear HL3; rintro e wx ⟨rfl, rfl⟩)
      go_loopw [29] (fun jv wr => ∃ j : Nat, j ≤ N1 ∧ jv = .int .i64 (j : Int) ∧ Hid (Wr wr w.heap.size w.heap.size (bytL od j 0) .nil) ∧ Hid (Below w.heap.size w wr)) (fun jv _ => N1 - (intOf jv).toNat)
      case atStart => exact ⟨0, Nat.zero_le _, rfl, HWr0, HB⟩
      case round =>
        clear HWr0 HB HWr
        obtain ⟨j, hj, rfl, HWr, HB⟩ := hrel
        by_cases hjn : j < N1
        · have hjn' : (j : Int) < (N1 : Int) := by omega
          have hj0 : (0 : Int) ≤ (j : Int) := by omega
          have hji : j + 1 < i := by have := HN1.out; omega
          have hji' : (j : Int) < (i : Int) := by omega
          have hjl : j < od.length := by rw [HW.out.len]; omega
          have hR := OdRow_any p od (j : Int) wr (HOd.out.keep HB.out) (fun r hr => ((wf_B HW.out) r hr).mono (by omega)) (by rw [HW.out.len]; omega)
          rw [keysAt_in hjl] at hR
          change Calls Tryz.prog _ _ wr (fun e w' => ∃ v, e = .returned v ∧ w'.ownsRow wr.heap.size 3 1 v (keysR (od.getD j [])).length ((keysR (od.getD j [])).map (Value.int .i64)) ∧ Below wr.heap.size wr w') at hR
          obtain ⟨ks, hks⟩ : ∃ ks, ks = keysR (od.getD j []) := ⟨_, rfl⟩
          rw [← hks] at hR
          have HRw := Lib.hid hR
          have hkr := HW.out.keys j (by omega)
          have HKr := Lib.hid hkr
          have HLk := Lib.hid (HW.out.lnk j hji)
          have HNx := Lib.hid (bytL_next hjl)
          have HPl := Lib.hid (fun k => Nat.le_trans (bytL_le (od := od) (i := j) (by rw [HW.out.len]; exact hji) k) HSz.out)
          obtain ⟨b, hb⟩ : ∃ b, bs[j]? = some b := ⟨_, List.getElem?_eq_getElem (by rw [HC.out.2.2.1]; omega)⟩
          have hrow : MRow w b (od.getD j []) := HC.out.2.2.2.2.2.2 j b _ hb (by rw [List.getElem?_eq_getElem hjl, getD_in hjl])
          have HRow := Lib.hid hrow
          have HBb := Lib.hid hb
          have hIr : IncR (od.getD j []) := by
            have h := hkr.1.1
            unfold keysR at h
            exact List.pairwise_map.1 h
          have HIr := Lib.hid hIr
          obtain ⟨r, hr⟩ : ∃ r, r = od.getD j [] := ⟨_, rfl⟩
          have HRe := Lib.hid hr
          rw [← hr] at HKr HLk HNx HRow HIr hks
          have HKs := Lib.hid hks
          clear hR hkr hb hrow hIr hjl hr hks
          go_wp2_with (go_at_call 34; refine HRw.out.mono ?_; clear HRw; rintro e w3 ⟨v, rfl, hown, hb3⟩; have HB3 := Lib.hid (HB.out.andThen hb3); have HWr3 := Lib.hid (HWr.out.keep hb3); obtain ⟨X, xc, rfl, _⟩ := Sl.own hown; have HO3 := Lib.hid hown; clear hown hb3)
          obtain ⟨m, hm⟩ : ∃ m, m = ks.length := ⟨_, rfl⟩
          rw [← hm] at HO3 ⊢
          have hml : m = r.length := by rw [hm, HKs.out, keysR, List.length_map]
          have hmb : m ≤ 65536 := by rw [hml]; exact HKr.out.2
          have HMl := Lib.hid hml
          clear hm hml
          go_loopw [36] (fun kv wx => ∃ k : Nat, k ≤ m ∧ kv = .int .i64 (k : Int) ∧ Hid (Wr wx w.heap.size w.heap.size (bytL od j k) .nil) ∧ Hid (Below w.heap.size w wx) ∧ Hid (WkT w3 wx)) (fun kv _ => m - (intOf kv).toNat)
          case atStart => exact ⟨0, Nat.zero_le _, rfl, HWr3, HB3, Lib.hid (WkT.refl _)⟩
          case round =>
            clear HWr3 HB3 HWr HB
            obtain ⟨k, hk, rfl, HWk, HBk, HKk⟩ := hrel
            by_cases hkm : k < m
            · have hkm' : (k : Int) < (m : Int) := by omega
              have hk0 : (0 : Int) ≤ (k : Int) := by omega
              obtain ⟨q, hq⟩ : ∃ q, r[k]? = some q := ⟨_, List.getElem?_eq_getElem (by rw [← HMl.out]; exact hkm)⟩
              have hsl : Sl wr 1 X m (ks.map (Value.int .i64)) := Sl.of_own (WkT.own HO3.out HKk.out (by decide) (by decide))
              obtain ⟨xb, xo, rfl, _⟩ := hsl.at_ (show 0 < m by omega)
              have cy := hsl.again hkm (show (ks.map (Value.int .i64))[k]? = some (.int .i64 q.1) by rw [List.getElem?_map, HKs.out, keysR, List.getElem?_map, hq]; rfl)
              obtain ⟨d0, d1⟩ := HCe.out wr j b HBk.out (by omega) HBb.out
              have hqm := List.mem_of_getElem? hq
              have hqn := HKr.out.1.2 q.1 (List.mem_map.2 ⟨q, hqm, rfl⟩)
              unfold numOK at hqn
              have HQn := Lib.hid hqn
              have HLq := Lib.hid (HIr.out.lk hqm)
              have HQl := Lib.hid (HLk.out q hqm).1
              have HSt := Lib.hid (bytL_step (od := od) (i := j) (k := k) (q := q) (by rw [← HRe.out]; exact hq))
              clear hq hsl hqm hqn
              go_wp2_with (first
                | (at_lookup; refine wpList_lookF _ rfl _ _ rfl b r rfl HBk.out HRow.out q.1 rfl (by have := HQn.out; omega) (by have := HQn.out; omega) ?_; intro A c l hrl hl; rw [HLq.out] at hl; subst hl; have HLi := Lib.hid (List_K q.2 HQl.out.1.fits A q.2.length c (by have := HQl.out.2; omega) rfl w.heap.size w.heap.size (bytL od j k) .nil wr (fun W hW hk => (hrl W (HBk.out.trans hW)).1) HWk.out (by have := HPl.out k; omega)); clear hrl)
                | (go_at_call 51; refine HLi.out.mono ?_; clear HLi; rintro e w4 ⟨rfl, hw4, hb4, hk4⟩; have HWr4 := Lib.hid hw4; have HB4 := Lib.hid (HBk.out.trans hb4); have HK4 := Lib.hid (HKk.out.trans hk4); clear hw4 hb4 hk4)
                | fail)
              go_roundw
              case rel => exact ⟨k + 1, by omega, by go_num, Lib.hid (by rw [HSt.out]; exact HWr4.out), HB4, HK4⟩
              case measure => simp [intOf]; omega
            · obtain rfl : k = m := by omega
              have hkm' : ¬ (k : Int) < (k : Int) := by omega
              have HWn := Lib.hid (show Wr wr w.heap.size w.heap.size (bytL od (j + 1) 0) .nil from by
                have h := HWk.out
                rw [HMl.out, HNx.out] at h
                exact h)
              go_wp2_with fail
              go_roundw
              case rel => exact ⟨j + 1, by omega, by go_num, HWn, HBk⟩
              case measure => simp [intOf]; omega
        · obtain rfl : j = N1 := by omega
          have hjn' : ¬ (j : Int) < (j : Int) := by omega
          have HWe := Lib.hid (show Wr wr w.heap.size w.heap.size (bytesO od) .nil from by
            have h := HWr.out
            have e : bytL od j 0 = bytesO od := by
              unfold bytL bytesO
              rw [HW.out.len, show i - 1 = j by have := HN1.out; omega]
              simp [encLk]
            rw [e] at h
            exact h)
          have HBy := Lib.hid (Bytes_any w.heap.size w.heap.size (bytesO od, .nil) wr HWe.out (by have := HSz.out; simp only; omega))
          go_wp2_with (go_at_call 52; refine HBy.out.mono ?_; clear HBy; rintro e w5 ⟨C, kk, rfl, hs5, hc5, hb5⟩; have HS5 := Lib.hid hs5; have HC5 := Lib.hid hc5; have HB5 := Lib.hid hb5; clear hs5 hc5 hb5)
          go_ret
          exact ⟨C, kk, rfl, HS5.out, HC5.out, HB.out.andThen HB5.out⟩
end Go.Proofs.YtmonepclhbappaaGreatDoor
/-
  Odags plainly: one list more: what is there stays, in its order; costs.
-/
namespace Go.Proofs.YtmonepclhbappaaGreatDoor
open Go.RowKit
set_option linter.unusedVariables false

/-- A sum over rising numbers, over more of them. -/
theorem inc_sum : ∀ {l l' : List Int} {f g : Int → Nat}, Inc l → Inc l' → (∀ x ∈ l, x ∈ l') → (∀ x ∈ l, f x ≤ g x) → (l.map f).sum ≤ (l'.map g).sum
  | [], l', f, g, _, _, _, _ => by simp
  | a :: l, [], f, g, _, _, h, _ => by cases h a (List.mem_cons_self ..)
  | a :: l, b :: l', f, g, h1, h2, h, hf => by
    have h1' := List.pairwise_cons.1 h1
    have h2' := List.pairwise_cons.1 h2
    by_cases e : a = b
    · subst e
      have := inc_sum (f := f) (g := g) h1'.2 h2'.2 (fun x hx => by
        rcases List.mem_cons.1 (h x (List.mem_cons_of_mem _ hx)) with e | h3
        · subst e
          exact absurd (h1'.1 x hx) (Int.lt_irrefl _)
        · exact h3) fun x hx => hf x (List.mem_cons_of_mem _ hx)
      have h4 := hf a (List.mem_cons_self ..)
      simp only [List.map_cons, List.sum_cons]
      omega
    · have hal : a ∈ l' := by
        rcases List.mem_cons.1 (h a (List.mem_cons_self ..)) with e' | h3
        · exact absurd e' e
        · exact h3
      have hba := h2'.1 a hal
      have := inc_sum (f := f) (g := g) h1 h2'.2 (fun x hx => by
        rcases List.mem_cons.1 (h x hx) with e' | h3
        · subst e'
          rcases List.mem_cons.1 hx with e' | hx
          · exact absurd e'.symm e
          · have := h1'.1 x hx
            omega
        · exact h3) hf
      simp only [List.map_cons, List.sum_cons] at this ⊢
      omega
theorem sum_one (l : List Int) : (l.map fun _ => 1).sum = l.length := by
  induction l with
  | nil => rfl
  | cons a l ih => rw [List.map_cons, List.sum_cons, ih, List.length_cons]; omega
theorem inc_len {l l' : List Int} (h1 : Inc l) (h2 : Inc l') (h : ∀ x ∈ l, x ∈ l') : l.length ≤ l'.length := by
  have := inc_sum (f := fun _ => 1) (g := fun _ => 1) h1 h2 h fun x hx => Nat.le_refl _
  rwa [sum_one, sum_one] at this
theorem costR_keys {r : Rw} (h : IncR r) : costR r = ((r.map (·.1)).map fun a => 1 + (lkR r a).length).sum := by
  unfold costR
  rw [List.map_map]
  congr 1
  refine List.map_congr_left fun q hq => ?_
  simp only [Function.comp]
  rw [h.lk hq]
theorem linkedB_mono {ls ls' : List (List Int)} (hs : ∀ x ∈ ls, x ∈ ls') {i : Nat} {a b : Int} (h : linkedB ls i a b = true) : linkedB ls' i a b = true := by
  unfold linkedB at h ⊢
  obtain ⟨x, hx, e⟩ := List.any_eq_true.1 h
  exact List.any_eq_true.2 ⟨x, hs x hx, e⟩
theorem col_mono {ls ls' : List (List Int)} (hs : ∀ x ∈ ls, x ∈ ls') {i : Nat} {a : Int} (h : a ∈ col ls i) : a ∈ col ls' i := by
  unfold col at h ⊢
  rw [setL_mem] at h ⊢
  obtain ⟨x, hx, e⟩ := List.mem_map.1 h
  exact List.mem_map.2 ⟨x, hs x hx, e⟩
theorem lnks_mono {ls ls' : List (List Int)} (hs : ∀ x ∈ ls, x ∈ ls') {i : Nat} {a b : Int} (h : b ∈ lnks ls i a) : b ∈ lnks ls' i a := lnks_mem.2 (linkedB_mono hs (lnks_mem.1 h))
theorem costO_mono {n : Nat} {ls ls' : List (List Int)} (h : ∀ x ∈ ls, x.length = n) (h' : ∀ x ∈ ls', x.length = n) (hs : ∀ x ∈ ls, x ∈ ls') : costO (odOf n ls) ≤ costO (odOf n ls') := by
  have key : ∀ i, i ≤ n → costO ((odOf n ls).take i) ≤ costO ((odOf n ls').take i) := fun i => by
    induction i with
    | zero => intro _; simp [costO]
    | succ i ih =>
      intro hi
      rw [costO_take (by rw [odOf_len]; exact hi), costO_take (by rw [odOf_len]; exact hi)]
      have h1 := ih (by omega)
      obtain ⟨g1, g2, g3⟩ := odOf_row n i hi ls h
      obtain ⟨k1, k2, k3⟩ := odOf_row n i hi ls' h'
      have h2 : costR ((odOf n ls).getD i []) ≤ costR ((odOf n ls').getD i []) := by
        rw [costR_keys g1, costR_keys k1, keys_col hi h, keys_col hi h']
        refine inc_sum (setL_inc _) (setL_inc _) (fun x hx => col_mono hs hx) fun x hx => ?_
        rw [g3, k3]
        have := inc_len (setL_inc _) (setL_inc _) fun b (hb : b ∈ lnks ls i x) => lnks_mono hs hb
        unfold lnks at this ⊢
        omega
      omega
  have := key n (Nat.le_refl _)
  rwa [List.take_of_length_le (by rw [odOf_len]; exact Nat.le_refl _), List.take_of_length_le (by rw [odOf_len]; exact Nat.le_refl _)] at this
theorem odOf_mem {n : Nat} {ls ls' : List (List Int)} (h : ∀ x ∈ ls, x.length = n) (h' : ∀ x ∈ ls', x.length = n) (hs : ∀ x, x ∈ ls ↔ x ∈ ls') : odOf n ls = odOf n ls' :=
  odOf_ext h h' (fun i _ a => ⟨col_mono fun x hx => (hs x).1 hx, col_mono fun x hx => (hs x).2 hx⟩) fun i _ a b => ⟨lnks_mono fun x hx => (hs x).1 hx, lnks_mono fun x hx => (hs x).2 hx⟩
/-- One list alone. -/
theorem one_paths {n : Nat} {x : List Int} (h1 : 1 ≤ n) (hx : x.length = n) : allP (odOf n [x]) = [x] := by
  have hm := ls_path (ls := [x]) h1 (fun y hy => by rw [List.mem_singleton.1 hy]; exact hx) (List.mem_singleton_self x)
  have hl := allP_pow (od := odOf n [x]) (K := 1) (odOf_B n [x]) (by rw [odOf_len]; exact h1)
  rw [Nat.one_pow] at hl
  match hA : allP (odOf n [x]), hm, hl with
  | [y], hm, _ => rw [List.mem_singleton.1 hm]
  | y :: z :: r, _, hl => simp at hl
theorem one_cost {n : Nat} {x : List Int} (h1 : 1 ≤ n) (h4 : n ≤ 4) (hx : x.length = n) : costO (odOf n [x]) + 1 = 2 * n := by
  subst hx
  match x, h1, h4 with
  | [a], _, _ => rfl
  | [a, b], _, _ => rfl
  | [a, b, c], _, _ => rfl
  | [a, b, c, d], _, _ => rfl
theorem nextD_mono {ls ls' : List (List Int)} (hs : ∀ x ∈ ls, x ∈ ls') {p : List Int} {a : Int} (h : a ∈ nextD ls p) : a ∈ nextD ls' p := by
  unfold nextD at h ⊢
  split at h
  · rename_i e
    rw [if_pos e]
    exact col_mono hs h
  · rename_i e
    rw [if_neg e]
    obtain ⟨g1, g2⟩ := List.mem_filter.1 h
    exact List.mem_filter.2 ⟨col_mono hs g1, linkedB_mono hs g2⟩
/-- No path is taken away. -/
theorem paths_mono {n : Nat} {ls ls' : List (List Int)} (h1 : 1 ≤ n) (h : ∀ x ∈ ls, x.length = n) (h' : ∀ x ∈ ls', x.length = n) (hs : ∀ x ∈ ls, x ∈ ls') {p : List Int} (hp : p ∈ allP (odOf n ls)) : p ∈ allP (odOf n ls') := by
  have hpl : p.length = n := by rw [allP_el (by rw [odOf_len]; exact h1) hp, odOf_len]
  have key : ∀ i, i ≤ n → p.take i ∈ prefs (odOf n ls') i := by
    intro i
    induction i with
    | zero => intro _; rw [List.take_zero]; exact List.mem_singleton_self _
    | succ i ih =>
      intro hi
      have hlt : i < p.length := by omega
      refine (prefs_next (a := p[i]) (List.getElem?_eq_getElem hlt)).2 ⟨ih (by omega), ?_⟩
      have hti : (p.take i).length = i := by rw [List.length_take]; omega
      have h2 := path_link (by rw [odOf_len]; exact h1) hp (List.getElem?_eq_getElem hlt)
      rw [nextD_eq h (by omega)] at h2
      rw [nextD_eq h' (by omega)]
      exact nextD_mono hs h2
  have := key n (Nat.le_refl _)
  rw [List.take_of_length_le (by omega)] at this
  have h2 := prefs_end (od := odOf n ls') (by rw [odOf_len]; exact h1)
  rw [odOf_len] at h2
  rwa [h2] at this
/-- Where a walk along the paths of more stands when so many have come. -/
def atK (G G0 : List (List Int)) : Nat → Nat
  | 0 => 0
  | k + 1 => G.findIdx (fun y => decide (y = G0.getD k [])) + 1
theorem atK_ok {G G0 : List (List Int)} (hG : G.Pairwise fun p q => cmpL p q = -1) (hG0 : G0.Pairwise fun p q => cmpL p q = -1) (hs : ∀ p ∈ G0, p ∈ G) {k : Nat} {y : List Int} (hy : G0[k]? = some y) :
    atK G G0 k < atK G G0 (k + 1) ∧ atK G G0 (k + 1) ≤ G.length ∧ G[atK G G0 (k + 1) - 1]? = some y ∧ ∀ j, j + 1 < atK G G0 (k + 1) → ∀ z, G[j]? = some z → z ≠ y := by
  have pos : ∀ {k : Nat} {y : List Int}, G0[k]? = some y → ∃ J, atK G G0 (k + 1) = J + 1 ∧ G[J]? = some y := fun {k y} hy => by
    have hyG := hs y (List.mem_of_getElem? hy)
    have e : G0.getD k [] = y := by rw [List.getD_eq_getElem?_getD, hy]; rfl
    have hlt : G.findIdx (fun z => decide (z = G0.getD k [])) < G.length := List.findIdx_lt_length_of_exists ⟨y, hyG, by rw [e]; exact decide_eq_true rfl⟩
    refine ⟨_, rfl, ?_⟩
    rw [List.getElem?_eq_getElem hlt]
    have := List.findIdx_getElem (w := hlt)
    exact congrArg some ((of_decide_eq_true this).trans e)
  have lt : ∀ {i j : Nat} {x z : List Int}, G[i]? = some x → G[j]? = some z → i < j → cmpL x z = -1 := fun {i j x z} hx hz hij => by
    obtain ⟨b1, e1⟩ := List.getElem?_eq_some_iff.1 hx
    obtain ⟨b2, e2⟩ := List.getElem?_eq_some_iff.1 hz
    have := List.pairwise_iff_getElem.1 hG i j b1 b2 hij
    rwa [e1, e2] at this
  obtain ⟨J, hJ, hGJ⟩ := pos hy
  have hJl := (List.getElem?_eq_some_iff.1 hGJ).1
  rw [hJ]
  refine ⟨?_, hJl, hGJ, fun j hj z hz e => ?_⟩
  · rcases k with _ | k
    · exact Nat.succ_pos _
    · have hk := (List.getElem?_eq_some_iff.1 hy).1
      obtain ⟨x, hx⟩ : ∃ x, G0[k]? = some x := ⟨_, List.getElem?_eq_getElem (by omega)⟩
      obtain ⟨I, hI, hGI⟩ := pos hx
      rw [hI]
      have hxy : cmpL x y = -1 := by
        obtain ⟨b1, e1⟩ := List.getElem?_eq_some_iff.1 hx
        obtain ⟨b2, e2⟩ := List.getElem?_eq_some_iff.1 hy
        have := List.pairwise_iff_getElem.1 hG0 k (k + 1) b1 b2 (by omega)
        rwa [e1, e2] at this
      rcases Nat.lt_or_ge I J with h | h
      · omega
      · exfalso
        rcases Nat.lt_or_ge J I with h2 | h2
        · have h3 := lt hGJ hGI h2
          rw [cmpL_neg x y, hxy] at h3
          cases h3
        · obtain rfl : I = J := by omega
          rw [hGI] at hGJ
          cases hGJ
          rw [cmpL_zero.2 rfl] at hxy
          cases hxy
  · subst e
    have h3 := lt hz hGJ (by omega)
    rw [cmpL_zero.2 rfl] at h3
    cases h3
end Go.Proofs.YtmonepclhbappaaGreatDoor
