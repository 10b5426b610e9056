/-
  PermAll: the law's walk where the orders are gone through.
-/
import Derived.Test.YtakkdpnaoahpcaaDoorPermAll
namespace Go.Proofs.YtakkdpnaoahpcaaDoor
open Go.RowKit Go.Shelf
attribute [local go_sem] Oper.semAt_some
set_option maxRecDepth 100000
set_option linter.unusedVariables false

theorem ofR_first : ∀ (k : Nat) (L : List Int), L.length = k → ofR k 0 L = L
  | 0, L, h => by rw [List.eq_nil_of_length_eq_zero h]; rfl
  | k + 1, [], h => by cases h
  | k + 1, x :: L, h => by
    rw [ofR, Nat.zero_div, Nat.zero_mod]
    show x :: ofR k 0 L = x :: L
    rw [ofR_first k L (by simpa using h)]

/-- What lies ready when the loop begins. -/
def Ready (w : World) (m B3 : Nat) (b off c : Nat) (its : List Row) (A5 : Option Addr) (W : World) : Prop :=
  Boxed W w.heap.size 3 (.int .i64 (m : Int)) ∧ Boxed W (w.heap.size + 1) 4 (.bool false) ∧ Boxed W B3 33 (.slice (some ⟨b, off, none⟩) its.length c) ∧
  Sl W 1 (some ⟨b, off, none⟩) its.length (its.map rv) ∧ AllRows W its ∧ Sl W 1 A5 m ((ids m).map (Value.int .i64)) ∧ ErrT W ∧ Below w.heap.size w W
theorem Ready.keep {w : World} {m B3 b off c : Nat} {its : List Row} {A5 : Option Addr} {W W' : World} (h : Ready w m B3 b off c its A5 W) (hb : Below W.heap.size W W') : Ready w m B3 b off c its A5 W' := by
  obtain ⟨h1, h2, h3, h4, h5, h6, h7, h8⟩ := h
  exact ⟨boxed_keep h1 hb, boxed_keep h2 hb, boxed_keep h3 hb, h4.keep hb, h5.keep hb, h6.keep hb, h7.keep hb, h8.andThen hb⟩
/-- The row at a place. -/
theorem Ready.at_ {w : World} {m B3 b off c : Nat} {its : List Row} {A5 : Option Addr} {W : World} (h : Ready w m B3 b off c its A5 W) (hits : its.map (·.2.2) = fills m (ids m)) {q : Nat} (hq : q < fac m) :
    ∃ D d, W.cell? ⟨b, off + q, none⟩ = some (.slice D m d) ∧ Sl W 1 D m ((ofR m q (ids m)).map (Value.int .i64)) := by
  have hL : its.length = fac m := by rw [← fills_len m (ids m), ← hits, List.length_map]
  obtain ⟨D, d, l, h1, h2⟩ := its_row (its := its) (k := q) (by omega)
  rw [hits, fills_get _ hq] at h2
  obtain rfl := Option.some.inj h2
  have hlen := ofR_len (n := m) hq
  have hr := (h.2.2.2.2.1 _ (List.mem_of_getElem? h1)).1
  rw [hlen] at hr
  refine ⟨D, d, ?_, hr⟩
  have := h.2.2.2.1.again (k := q) (u := .slice D m d) (by omega) (by rw [List.getElem?_map, h1]; show some (rv _) = _; unfold rv; rw [hlen])
  exact this

theorem ko_below {W W' : World} (hb : Below W.heap.size W W') : KeepsOthers W W' := ⟨hb.size, fun k o hk _ => (hb.block k (Array.getElem?_eq_some_iff.1 hk).1).trans hk⟩
theorem kpp_set {n₁ B : Nat} (W : World) (v : Value) (h : B < n₁) : Kpp n₁ W (W.setCell ⟨B, 0, none⟩ v) :=
  ⟨(KeepsWalks.setCell W _ v).size, fun k o hk ho _ => (Below.heap_setCell _ _ _ _ (by show k ≠ B; omega)).trans ho⟩

set_option maxHeartbeats 8000000 in
theorem PermAll_some (m : Nat) (rank : Int) (w : World) (hg : ErrT w) (hm : m ≤ 6) :
    Calls Tryd.prog 3 #[.int .i64 (m : Int), .int .i64 rank] w fun e w' => e = .returned (.bool true) ∧ Below w.heap.size w w' := by
  have hB1 := Boxed.new w 3 (.int .i64 (m : Int))
  have hB2 := Boxed.new (w.alloc (.cells #[.int .i64 (m : Int)] 3)) 4 (.bool false)
  rw [World.size_alloc] at hB2
  have hbA := bel_al (bel_al (Below.refl w.heap.size w) (.cells #[.int .i64 (m : Int)] 3)) (.cells #[.bool false] 4)
  have HR := Lib.hid (fun W => RefAll_any m W hm)
  have HI := Lib.hid (fun W => Id_any m W (by omega))
  have HA := Lib.hid ((alive07 _ (hg.keep hbA)).mono (R' := fun e W1 => e = .returned (.bool true) ∧ Boxed W1 w.heap.size 3 (.int .i64 (m : Int)) ∧ Boxed W1 (w.heap.size + 1) 4 (.bool false) ∧ ErrT W1 ∧ Below w.heap.size w W1) (fun e W1 h => ⟨h.1, boxed_keep (hB1.alloc _) h.2, boxed_keep hB2 h.2, (hg.keep hbA).keep h.2, hbA.andThen h.2⟩))
  clear hB1 hB2 hbA
  have hF := fac_pos m
  have hF2 : fac m ≤ 720 := by
    have : ∀ k, k ≤ 6 → fac k ≤ 720 := by decide
    exact this m hm
  refine (callsIn_wide (n := 5)).1 ?_
  refine callsIn_of_wp_marks Tryd.func3 rfl trivial ?_ rfl
  simp only [Tryd.ntmps3, List.size_toArray, List.length_cons, List.length_nil, Nat.reduceAdd, Nat.reduceSub, Array.replicate_succ, Array.replicate_zero, List.push_toArray, List.append_toArray, List.nil_append, List.cons_append]
  have HM := Lib.hid hm
  have hn7 : ¬ (m : Int) = 7 := by omega
  have hn8 : ¬ (m : Int) = 8 := by omega
  have hn7' : ((m : Int) == 7) = false := by simpa using hn7
  have hn8' : ((m : Int) == 8) = false := by simpa using hn8
  have hn0 : ¬ (m : Int) < 0 := by omega
  have hn9 : ¬ 8 < (m : Int) := by omega
  clear hg hm
  gi_wp2_with (first
    | ((try refine ⟨trivial, ?_⟩); (try refine ⟨fun h => (by cases h), ?_⟩); gi_at_call 4; refine (callsIn_wide.2 HA.out).mono ?_; clear HA; rintro e W1 ⟨rfl, h1, h2, hg1, hb⟩; have c1 := h1.cell; have H1 := Lib.hid h1; have H2 := Lib.hid h2; have HG1 := Lib.hid hg1; have HB := Lib.hid hb; clear h1 h2 hb hg1)
    | ((try refine ⟨trivial, ?_⟩); (try refine ⟨fun h => (by cases h), ?_⟩); gi_at_call 5; refine (callsIn_wide.2 (HI.out _)).mono ?_; clear HI; rintro e W2 ⟨v5, rfl, hown, hb2⟩; obtain ⟨A5, k5, rfl, hs5⟩ := Sl.own hown; have HS5 := Lib.hid hs5; have HB2 := Lib.hid hb2; have c2 := (boxed_keep H1.out hb2).cell; clear hown hs5 hb2)
    | ((try refine ⟨trivial, ?_⟩); (try refine ⟨fun h => (by cases h), ?_⟩); gi_at_call 9; refine (callsIn_wide.2 (HR.out _)).mono ?_; clear HR; rintro e W3 ⟨A, c, its, rfl, hits, hsl, hall, hc1, hc2, hb3⟩; rw [lev_all] at hits; have hL : its.length = fac m := (by rw [← fills_len m (ids m), ← hits, List.length_map]); obtain ⟨b, off, rfl, _⟩ := hsl.at_ (show 0 < its.length by omega); have hRd : Ready w m W3.heap.size b off c its A5 (W3.alloc (.cells #[.slice (some ⟨b, off, none⟩) its.length c] 33)) := ⟨(boxed_keep (boxed_keep H1.out HB2.out) hb3).alloc _, (boxed_keep (boxed_keep H2.out HB2.out) hb3).alloc _, Boxed.new _ _ _, hsl.alloc _, hall.keep (bel_al (Below.refl _ _) _), (HS5.out.keep hb3).alloc _, ((HG1.out.keep HB2.out).keep hb3).keep (bel_al (Below.refl _ _) _), bel_al (HB.out.andThen (HB2.out.andThen hb3)) _⟩; have HRd := Lib.hid hRd; have HI2 := Lib.hid hits; have HL := Lib.hid hL; have c3 := hRd.1.cell; have c4 := (hRd.1.alloc (.cells #[.int .i64 0] 3)).cell; clear hits hsl hall hc1 hc2 hb3 hL hRd)
    | ((try refine ⟨trivial, ?_⟩); (try refine ⟨fun h => (by cases h), ?_⟩); gi_at_call 6; refine (callsIn_wide.2 (All_any (m : Int) _)).mono ?_; rintro e W9 ⟨rfl, rfl⟩))
  obtain ⟨W4, hW4⟩ : ∃ W4, W3.alloc (.cells #[.slice (some ⟨b, off, none⟩) its.length c] 33) = W4 := ⟨_, rfl⟩
  have h34 : W4.heap.size = W3.heap.size + 1 := by rw [← hW4]; simp
  rw [hW4] at HRd c3 c4 ⊢
  clear hW4
  have hk0 := (Boxed.new W4 3 (.int .i64 0)).alloc (.cells #[.int .i64 (m : Int)] 3)
  have hbx := Boxed.new (W4.alloc (.cells #[.int .i64 0] 3)) 3 (.int .i64 (m : Int))
  rw [World.size_alloc] at hbx
  have hsz : ((W4.alloc (.cells #[.int .i64 0] 3)).alloc (.cells #[.int .i64 (m : Int)] 3)).heap.size = W4.heap.size + 2 := by simp
  have hB0 := bel_al (bel_al (Below.refl W4.heap.size W4) (.cells #[.int .i64 0] 3)) (.cells #[.int .i64 (m : Int)] 3)
  try rw [← h34]
  have H34 := Lib.hid h34
  clear h34
  refine rangeFunc_one (fun x b => { b with tmps := b.tmps.setIfInBounds 11 (rv x) }) rfl (by omega) (gf := 14) (lb := #[.pointer (some ⟨W4.heap.size + 1, 0, none⟩)]) rfl trivial (enters_of Tryd.func14 (by kernel_rfl) rfl)
    (all_gives _ (W4.heap.size + 2) (m : Int) (W4.heap.size + 1) _ hbx.cell hbx.lt (by rw [hsz]; exact Nat.le_refl _)) (fun pre x W l o o' hl ho h => ⟨row_put o' hl ho h.1, h.2⟩) Kpp.trans (fun _ W l o o' _ hl ho _ => Kpp.putObj o' hl ho) (Below.refl _ _)
    (fun pre W => Boxed W W4.heap.size 3 (.int .i64 (pre.length : Int)) ∧ Below W4.heap.size W4 W) (fun _ _ _ => False)
    (OwnFrom.and (Own.from (boxed_own _ _ (fun pre : List Row => .int .i64 (pre.length : Int))) _) (ownFrom_below (Nat.le_refl _) (by rw [hsz]; omega)))
    (fun c s A B row hs _ _ => hs.elim) ⟨hk0, hB0⟩ ?assign ?body ?done ?stop
  case assign =>
    intro l x W K hK
    gi_wp2
    exact hK
  case body =>
    rintro l pre ⟨D, d, p⟩ W ⟨hk, hb⟩ ⟨hrow, hgp⟩ hlt
    rw [orders_nat (by have := HM.out; omega)] at hlt hgp
    rw [fills_len] at hlt
    rw [fills_get _ hlt] at hgp
    have hp : ofR m pre.length (ids m) = p := Option.some.inj hgp
    have hpl : p.length = m := by rw [← hp]; exact ofR_len hlt
    have hrd := HRd.out.keep hb
    obtain ⟨D', d', c5, hs'⟩ := hrd.at_ HI2.out hlt
    have hs := hrow.1
    simp only [hpl] at hs
    rw [hp] at hs'
    obtain ⟨q, hq⟩ : ∃ q, q = pre.length := ⟨_, rfl⟩
    rw [← hq] at hp hlt hk c5
    have ck := hk.cell
    have cw := hrd.2.2.1.cell
    have hqL : (q : Int) < (its.length : Int) := by rw [HL.out]; omega
    have HS1 := Lib.hid (SameInts_same p D D' m d d' W hpl hs hs' (by have := HM.out; omega))
    have HRk := Lib.hid (fun W' (hb : Below W.heap.size W W') => Rank_ok m q D d W' (by have := HM.out; omega) hlt (by rw [hp]; exact hs.keep hb))
    have HOf := Lib.hid (fun W' => Of_ok m q W' (by have := HM.out; omega) hlt)
    rw [hp] at HOf
    have HS2 := Lib.hid (fun W' (hb : Below W.heap.size W W') C k (hs2 : Sl W' 1 C m (p.map (Value.int .i64))) => SameInts_same p D C m d k W' hpl (hs.keep hb) hs2 (by have := HM.out; omega))
    have HRd2 := Lib.hid hrd
    have HK := Lib.hid hk
    have HB := Lib.hid hb
    have hwi : IntKind.i64.wrap ((q : Int) + 1) = ((q + 1 : Nat) : Int) := by rw [IntKind.wrap_i64]; omega
    have HQ := Lib.hid hq
    have HPL := Lib.hid hpl
    have hlt1 : (1 : Nat) ≤ 5 - 1 - 1 := by omega
    simp only [rv, hpl]
    clear hrow hgp hs hs' hrd hk hb hp hq hpl
    gi_wp2_with (first
      | ((try refine ⟨trivial, ?_⟩); (try refine ⟨fun h => (by cases h), ?_⟩); gi_at_call 10; refine (CallsIn.inRound l (callsIn_wide.2 HS1.out)).mono ?_; clear HS1; rintro e W5 ⟨rfl, hb5⟩; have HB5 := Lib.hid hb5; clear hb5)
      | ((try refine ⟨trivial, ?_⟩); (try refine ⟨fun h => (by cases h), ?_⟩); gi_at_call 11; refine (CallsIn.inRound l (callsIn_wide.2 (HRk.out W5 HB5.out))).mono ?_; clear HRk; rintro e W6 ⟨rfl, hb6⟩; have HB6 := Lib.hid (HB5.out.andThen hb6); have n6 := (boxed_keep HRd2.out.1 HB6.out).cell; have k6 := (boxed_keep HK.out HB6.out).cell; clear hb6)
      | ((try refine ⟨trivial, ?_⟩); (try refine ⟨fun h => (by cases h), ?_⟩); gi_at_call 7; refine (CallsIn.inRound l (callsIn_wide.2 (HOf.out W6))).mono ?_; clear HOf; rintro e W7 ⟨C, k, rfl, hs7, hb7⟩; have HB7 := Lib.hid (HB6.out.andThen hb7); have HS7 := Lib.hid hs7; have k7 := (boxed_keep HK.out HB7.out).cell; clear hs7 hb7)
      | ((try refine ⟨trivial, ?_⟩); (try refine ⟨fun h => (by cases h), ?_⟩); gi_at_call 10; refine (CallsIn.inRound l (callsIn_wide.2 (HS2.out W7 HB7.out C k HS7.out))).mono ?_; clear HS2; rintro e W8 ⟨rfl, hb8⟩; have HB8 := Lib.hid (HB7.out.andThen hb8); have k8 := (boxed_keep HK.out HB8.out).cell; have f8 := (boxed_keep HK.out HB8.out).frozen; clear hb8))
    refine ⟨(ko_below HB8.out).trans (KeepsOthers.setCell _ _ _), (Kpp.of_below HB8.out).trans (kpp_set _ _ (by omega)), ?_, (HB.out.andThen HB8.out).setCell (p := ⟨W4.heap.size, 0, none⟩) (Nat.le_refl _) _⟩
    rw [List.length_append, ← HQ.out]
    exact (boxed_keep HK.out HB8.out).set _
  case done =>
    rintro D xs W hD hS ⟨hk, hb⟩ hK
    rw [hsz] at hD
    rw [orders_nat (by have := HM.out; omega), fills_len] at hS
    rw [hS] at hk
    have HRd2 := Lib.hid (HRd.out.keep hb)
    have HK := Lib.hid hk
    have HKD := Lib.hid hK
    have ck := hk.cell
    have cn := HRd2.out.1.cell
    have hDw : w.heap.size ≤ D := by
      have := HRd.out.2.2.2.2.2.2.2.size
      omega
    have HDw := Lib.hid hDw
    have hfm : ((fac m : Nat) : Int) = (its.length : Int) := by rw [HL.out]
    clear hk hb hK hD hS hDw hsz hk0 hbx hB0
    by_cases hrk : 0 ≤ rank ∧ rank < (fac m : Int)
    · obtain ⟨r, rfl⟩ : ∃ r : Nat, rank = (r : Int) := ⟨rank.toNat, by omega⟩
      have hr : r < fac m := by omega
      have hr0 : ¬ (r : Int) < 0 := by omega
      have hrl : (r : Int) < (its.length : Int) := by omega
      have hrl' : ¬ (its.length : Int) ≤ (r : Int) := by omega
      have h0l : (0 : Int) < (its.length : Int) := by omega
      have HOf := Lib.hid ((Of_ok m r W (by have := HM.out; omega) hr).mono (R' := fun e W5 => ∃ C k, e = .returned (.tuple #[.slice C m k, .nilIface]) ∧ (Boxed W5 W4.heap.size 3 (.int .i64 ((fac m : Nat) : Int)) ∧ Ready w m W3.heap.size b off c its A5 W5) ∧ W5.heap[D]? = some (.deferred (some [])) ∧ Sl W5 1 C m ((ofR m r (ids m)).map (Value.int .i64))) (fun e W5 h => by
        obtain ⟨C, k, rfl, hs5, hb5⟩ := h
        exact ⟨C, k, rfl, ⟨boxed_keep HK.out hb5, HRd2.out.keep hb5⟩, (hb5.block D (Array.getElem?_eq_some_iff.1 HKD.out).1).trans HKD.out, hs5⟩))
      have HR := Lib.hid hr
      have H99 := Lib.hid (show m ≤ 9223372036854775807 from by have := HM.out; omega)
      clear hrk hr
      gi_wp2_with (first
        | ((try refine ⟨trivial, ?_⟩); (try refine ⟨fun h => (by cases h), ?_⟩); gi_at_call 7; refine (callsIn_wide.2 HOf.out).mono ?_; clear HOf; rintro e W5 ⟨C, k, rfl, ⟨hk5, hrd5⟩, hK5, hs5⟩; have ck5 := hk5.cell; have cw5 := hrd5.2.2.1.cell; obtain ⟨D1, d1, c51, hs51⟩ := hrd5.at_ HI2.out HR.out; have HC := Lib.hid ((SameInts_same (ofR m r (ids m)) C D1 m k d1 W5 (ofR_len HR.out) hs5 hs51 H99.out).mono (R' := fun e W6 => e = .returned (.bool true) ∧ Ready w m W3.heap.size b off c its A5 W6 ∧ W6.heap[D]? = some (.deferred (some []))) (fun e W6 h => ⟨h.1, hrd5.keep h.2, (h.2.block D (Array.getElem?_eq_some_iff.1 hK5).1).trans hK5⟩)); clear hk5 hrd5 hK5 hs5 hs51)
        | ((try refine ⟨trivial, ?_⟩); (try refine ⟨fun h => (by cases h), ?_⟩); gi_at_call 10; refine (callsIn_wide.2 HC.out).mono ?_; clear HC; rintro e W6 ⟨rfl, hrd6, hK6⟩; have cw6 := hrd6.2.2.1.cell; obtain ⟨D0, d0, c60, hs60⟩ := hrd6.at_ HI2.out (show 0 < fac m from fac_pos m); rw [ofR_first m _ (ids_len m)] at hs60; rw [Nat.add_zero] at c60; have HC2 := Lib.hid ((SameInts_same (ids m) A5 D0 m k5 d0 W6 (ids_len m) hrd6.2.2.2.2.2.1 hs60 H99.out).mono (R' := fun e W7 => e = .returned (.bool true) ∧ Ready w m W3.heap.size b off c its A5 W7 ∧ W7.heap[D]? = some (.deferred (some []))) (fun e W7 h => ⟨h.1, hrd6.keep h.2, (h.2.block D (Array.getElem?_eq_some_iff.1 hK6).1).trans hK6⟩)); clear hrd6 hK6 hs60)
        | ((try refine ⟨trivial, ?_⟩); (try refine ⟨fun h => (by cases h), ?_⟩); gi_at_call 10; refine (callsIn_wide.2 HC2.out).mono ?_; clear HC2; rintro e W7 ⟨rfl, hrd7, hK7⟩; have cr7 := hrd7.2.1.cell; have fr7 := hrd7.2.1.frozen; have HRd7 := Lib.hid hrd7; have HK7 := Lib.hid hK7; clear hrd7 hK7))
      exact all_end rfl rfl HK7.out HRd7.out.2.1 HRd7.out.2.2.2.2.2.2.2 HDw.out
    · have HOf := Lib.hid ((Of_bad (m : Int) rank W (by rw [Int.toNat_natCast]; omega)).mono (R' := fun e W5 => ∃ ev, e = .returned (.tuple #[.slice none 0 0, ev]) ∧ (Boxed W5 W4.heap.size 3 (.int .i64 ((fac m : Nat) : Int)) ∧ Ready w m W3.heap.size b off c its A5 W5) ∧ W5.heap[D]? = some (.deferred (some [])) ∧ (Err.flt 1 0 order).At W5 ev) (fun e W5 h => by
        obtain ⟨ev, rfl, he, hb5⟩ := h
        exact ⟨ev, rfl, ⟨boxed_keep HK.out hb5, HRd2.out.keep hb5⟩, (hb5.block D (Array.getElem?_eq_some_iff.1 HKD.out).1).trans HKD.out, he⟩))
      have HRk := Lib.hid hrk
      have hcs : rank < 0 ∨ (¬ rank < 0 ∧ (its.length : Int) ≤ rank) := by rw [← hfm]; omega
      clear hrk
      rcases hcs with hr0 | ⟨hr0, hr1⟩
      all_goals (
        gi_wp2_with (first
          | ((try refine ⟨trivial, ?_⟩); (try refine ⟨fun h => (by cases h), ?_⟩); gi_at_call 7; refine (callsIn_wide.2 HOf.out).mono ?_; clear HOf; rintro e W5 ⟨ev, rfl, ⟨hk5, hrd5⟩, hK5, he5⟩; have ck5 := hk5.cell; have cw5 := hrd5.2.2.1.cell; have cr5 := hrd5.2.1.cell; have fr5 := hrd5.2.1.frozen; have HC := Lib.hid ((Code_any _ ev W5 he5 hrd5.2.2.2.2.2.2.1).mono (R' := fun e W6 => e = .returned (.int .i64 1) ∧ Ready w m W3.heap.size b off c its A5 W6 ∧ W6.heap[D]? = some (.deferred (some []))) (fun e W6 h => ⟨h.1, hrd5.keep h.2, (h.2.block D (Array.getElem?_eq_some_iff.1 hK5).1).trans hK5⟩)); clear hk5 hrd5 hK5 he5)
          | ((try refine ⟨trivial, ?_⟩); (try refine ⟨fun h => (by cases h), ?_⟩); gi_at_call 8; refine (callsIn_wide.2 HC.out).mono ?_; clear HC; rintro e W6 ⟨rfl, hrd6, hK6⟩; have cr6 := hrd6.2.1.cell; have fr6 := hrd6.2.1.frozen; have HRd6 := Lib.hid hrd6; have HK6 := Lib.hid hK6; clear hrd6 hK6))
        exact all_end rfl rfl HK6.out HRd6.out.2.1 HRd6.out.2.2.2.2.2.2.2 HDw.out)
  case stop =>
    rintro D c pre W _ _ h _
    exact h.elim

theorem PermAll_main (a0 a1 : Int) (w : World) (hg : ErrT w) (h0 : (Lit.int .i64 a0).wf = true) (h1 : (Lit.int .i64 a1).wf = true) :
    Calls Tryd.prog 3 #[.int .i64 a0, .int .i64 a1] w fun e w' => e = .returned (.bool true) ∧ Below w.heap.size w w' := by
  by_cases hb : a0 = 7 ∨ a0 = 8
  · exact PermAll_big a0 a1 w hg hb
  by_cases hn : a0 < 0 ∨ 8 < a0
  · exact PermAll_none a0 a1 w hg hn
  · obtain ⟨m, rfl⟩ : ∃ m : Nat, a0 = (m : Int) := ⟨a0.toNat, by omega⟩
    exact PermAll_some m a1 w hg (by omega)
end Go.Proofs.YtakkdpnaoahpcaaDoor
