/-
  Part 9 of the proof of RankMany: RankAt0, RankD, RankU, OdR, Marks.
-/
import Derived.Test.YtmonepclhbappaaDoorRankManyM8
import Derived.Test.YtmonepclhbappaaDoorRankManyM5
import Derived.RangeFuncLeaves
import Derived.RangeFuncKeeps
import Derived.Test.YtmonepclhbappaaDoorRankManyM4
import Derived.Test.YtmonepclhbappaaDoorRankManyM1
/-
  Ranks: the contract of At. (In work.)
-/
namespace Go.Proofs.YtmonepclhbappaaDoor
open Go.RowKit Go.Maps
set_option maxRecDepth 100000
set_option linter.unusedVariables false

theorem next_keys {od : List Rw} {l : List Int} (hC : Closed od) (hl : l.length < od.length) : ∀ x ∈ nextL od l, x ∈ (od.getD l.length []).map (·.1) := fun x hx => by
  unfold nextL at hx
  by_cases h : l = []
  · rw [if_pos h, show (0 : Int) = ((0 : Nat) : Int) from rfl, keysAt_in (by omega)] at hx
    rw [h]
    exact hx
  · rw [if_neg h] at hx
    have hp : 0 < l.length := List.length_pos_iff.2 h
    have e : ((l.length : Int) - 1) = ((l.length - 1 : Nat) : Int) := by omega
    rw [e, linksAt_in (by omega)] at hx
    have := hC.link (i := l.length - 1) (by omega) hx
    rw [show l.length - 1 + 1 = l.length by omega] at this
    exact this

set_option maxHeartbeats 16000000 in
theorem At_ok (q p N k0 : Nat) (P : List Int) (od : List Rw) (w : World) (h : RkM w q p od) (hB : OdB 60000 od) (hN : od.length = N) (h1 : 1 ≤ N) (h8 : N ≤ 8) (hNu : Nums od) (hC : Closed od) (hF : Fits od) (hP : (allP od)[k0]? = some P) (hPl : P.length = N) :
    Calls Tryd.prog 38 #[.pointer (some ⟨q, 0, none⟩), .int .i64 (k0 : Int)] w fun e w' => ∃ v, e = .returned (.tuple #[v, .nilIface]) ∧ w'.ownsRow w.heap.size 3 1 v N (P.map (Value.int .i64)) ∧ Below w.heap.size w w' := by
  obtain ⟨mb, m, f, hq, hm, hod, hf⟩ := h
  have hk0 : (k0 : Int) < totP od := by unfold totP; have := (List.getElem?_eq_some_iff.1 hP).1; omega
  have hk1 : ¬ totP od ≤ (k0 : Int) := by omega
  have hk2 : ¬ (k0 : Int) < 0 := by omega
  have c0 := hq.cell 0
  have c1 := hq.cell 1
  have c2 := hq.cell 2
  simp at c0 c1 c2
  have HQ := Lib.hid hq
  have HM := Lib.hid hm
  have HK := Lib.hid (show RkM w q p od from ⟨mb, m, f, hq, hm, hod, hf⟩)
  have HOd := Lib.hid hod
  have HFn := Lib.hid hf
  have HBo := Lib.hid hB
  have HLen := Lib.hid hN
  have HNu := Lib.hid hNu
  have HC := Lib.hid hC
  have HF := Lib.hid hF
  have HP := Lib.hid hP
  have HPl := Lib.hid hPl
  have HKb := Lib.hid (show (k0 : Int) < 4611686018427387904 from by have := hF.2; omega)
  have hL0 : Leads od k0 P [] k0 := ⟨P, by rw [sfx_nil (by omega)]; exact hP, rfl⟩
  have HL0 := Lib.hid hL0
  clear hq hm hod hf hB hN hNu hC hF hP hPl hL0 hk0
  go_enter Tryd.func38, Tryd.ntmps38
  go_wp2_with fail
  go_loopw [1, 6] (fun nv lv wr => ∃ (l : List Int) (k : Nat), nv = .int .i64 (k : Int) ∧ l.length ≤ N ∧ Hid (wr.ownsRow w.heap.size 3 1 lv l.length (l.map (Value.int .i64))) ∧ Hid (Below w.heap.size w wr) ∧ Hid (k ≤ k0 ∧ ((l.length < N ∧ Leads od k0 P l k) ∨ (l.length = N ∧ l = P))) ∧ Hid (∀ x ∈ l, i64ok x)) (fun _ lv _ => N - lenV lv)
  case atStart => exact ⟨[], k0, rfl, Nat.zero_le _, Lib.hid (World.ownsRow_nil _ _ _ _), Lib.hid (Below.refl _ _), Lib.hid ⟨Nat.le_refl _, .inl ⟨by simp; omega, HL0.out⟩⟩, Lib.hid fun x hx => by cases hx⟩
  case round =>
    obtain ⟨l, k, rfl, hll, HO, HB, HL, HX⟩ := hrel
    obtain ⟨A, c, rfl, hsl⟩ := Sl.own HO.out
    have d0 := (HQ.out.keep HB.out).cell 0
    have d1 := (HQ.out.keep HB.out).cell 1
    simp at d0 d1
    have HLn := Lib.hid (OdLen_any p od wr (HOd.out.keep HB.out))
    rw [HLen.out] at HLn
    clear c0 c1 c2
    by_cases hlt : l.length < N
    · have hlt' : (l.length : Int) < (N : Int) := by omega
      have HNx := Lib.hid (Next_any q p od l A l.length c wr (HK.out.keep HB.out) HBo.out (by rw [HLen.out]; omega) rfl (by omega) hsl HX.out)
      obtain ⟨nx, hnx⟩ : ∃ nx, nx = nextL od l := ⟨_, rfl⟩
      rw [← hnx] at HNx
      have HNe := Lib.hid hnx
      clear hnx hsl
      go_wp2_with (first
        | (go_at_call 52; refine HLn.out.mono ?_; rintro e w1 ⟨rfl, rfl⟩)
        | (go_at_call 73; refine HNx.out.mono ?_; rintro e w1 ⟨v, rfl, hown, hb⟩; obtain ⟨A2, c2, rfl, hs2⟩ := Sl.own hown; have HCap := Lib.hid (own_cap hown); have HS2 := Lib.hid hs2; have HB1 := Lib.hid hb; clear hown hb hs2))
      have HOw := Lib.hid (own_block HO.out fun g hg => HB1.out.block g (HO.out.lt g hg).2)
      have HBw := Lib.hid (HB.out.andThen HB1.out)
      have e1 := (HQ.out.keep HBw.out).cell 1
      simp at e1
      have HMw := Lib.hid (HM.out.keep HBw.out)
      have HLd := Lib.hid (show Leads od k0 P l k from by
        rcases HL.out.2 with ⟨_, h⟩ | ⟨h, _⟩
        · exact h
        · omega)
      have HKk := Lib.hid HL.out.1
      have HKy := Lib.hid (show ∀ x ∈ nx, i64ok x ∧ f (l.length : Int) x = cnt od l.length x from fun x hx => by
        rw [HNe.out] at hx
        have := next_keys HC.out (by rw [HLen.out]; exact hlt) x hx
        exact ⟨HNu.out.key (by rw [HLen.out]; exact hlt) this, HFn.out l.length x (by rw [HLen.out]; exact hlt) this⟩)
      clear HNx d0 d1 HL HO HB HB1 HLn
      go_loop [1, 6, 38] (fun nv lv iv => ∃ (j k : Nat), j ≤ nx.length ∧ lv = .slice A l.length c ∧ iv = .int .i64 (j : Int) ∧ nv = .int .i64 (k : Int) ∧ Hid (LeadsIn od P l (nx.drop j) k ∧ k ≤ k0)) (fun _ _ iv => nx.length - (intOf iv).toNat)
      case atStart => exact ⟨0, k, Nat.zero_le _, rfl, rfl, rfl, Lib.hid ⟨by rw [List.drop_zero, HNe.out]; exact HLd.out, HKk.out⟩⟩
      case round =>
        obtain ⟨j, k, hj, rfl, rfl, rfl, HLi⟩ := hrel
        by_cases hjn : j < nx.length
        · have hjn' : (j : Int) < (nx.length : Int) := by omega
          obtain ⟨a, ha⟩ : ∃ a, nx[j] = a := ⟨_, rfl⟩
          obtain ⟨b2, o2, rfl, hc⟩ := HS2.out.i64 rfl hjn
          rw [ha] at hc
          have hmem : a ∈ nx := by rw [← ha]; exact List.getElem_mem hjn
          have HA := Lib.hid (HKy.out a hmem)
          have hd : nx.drop j = a :: nx.drop (j + 1) := by rw [List.drop_eq_getElem_cons hjn, ha]
          have HLj := Lib.hid (show LeadsIn od P l (a :: nx.drop (j + 1)) k from hd ▸ HLi.out.1)
          have HKj := Lib.hid HLi.out.2
          obtain ⟨on, hon⟩ : ∃ on : Nat, cnt od l.length a = (on : Int) := ⟨_, rfl⟩
          have HOn := Lib.hid hon
          have HFa := Lib.hid (show f (l.length : Int) a = (on : Int) from HA.out.2.trans hon)
          clear hd ha hmem hon HLi
          by_cases hk : k < on
          · have hk' : (k : Int) < (on : Int) := by omega
            go_wp2_with (first
              | (refine wpList_lookS _ rfl _ _ rfl mb m f (by go_simp) HMw.out (l.length : Int) a (by go_simp) ⟨by omega, by omega⟩ HA.out.1 ?_; rw [HFa.out])
              | (at_builtin; go_loud (refine wpList_push elemInt _ _ rfl rfl HOw.out HBw.out (Nat.le_refl _) rfl rfl rfl (by simp [Value.oneCell']) (by unfold lim; omega) (by unfold lim; omega) ?_); intro v' w2 hown2 hb2; have HO2 := Lib.hid hown2; have HB2 := Lib.hid hb2; clear hown2 hb2))
            go_roundw
            case rel =>
              refine ⟨l ++ [a], k, rfl, by rw [List.length_append]; simp; omega, ?_, HB2, Lib.hid ⟨HKj.out, ?_⟩, Lib.hid fun x hx => ?_⟩
              · have := HO2
                rw [List.length_append, List.map_append]
                exact this
              · by_cases hlN : l.length + 1 < N
                · exact .inl ⟨by rw [List.length_append]; simp; omega, HLj.out.pick (by rw [HLen.out]; exact hlN) (by rw [HOn.out]; omega) k0⟩
                · exact .inr ⟨by rw [List.length_append]; simp; omega, (HLj.out.last (by rw [HLen.out]; omega) (by rw [HOn.out]; omega)).symm⟩
              · rcases List.mem_append.1 hx with hx | hx
                · exact HX.out x hx
                · rw [List.mem_singleton.1 hx]
                  exact HA.out.1
            case measure =>
              obtain ⟨C, cc, rfl, _⟩ := Sl.own HO2.out
              simp [lenV]
              omega
          · have hk' : ¬ (k : Int) < (on : Int) := by omega
            have hjw : IntKind.i64.wrap ((j : Int) + 1) = (j : Int) + 1 := by rw [IntKind.wrap_i64]; have := HCap.out; omega
            have hkn : ((k - on : Nat) : Int) = (k : Int) - (on : Int) := by omega
            have hw : IntKind.i64.wrap ((k : Int) - (on : Int)) = (k : Int) - (on : Int) := by rw [IntKind.wrap_i64]; have := HKj.out; have := HKb.out; omega
            go_wp2_with (refine wpList_lookS _ rfl _ _ rfl mb m f (by go_simp) HMw.out (l.length : Int) a (by go_simp) ⟨by omega, by omega⟩ HA.out.1 ?_; rw [HFa.out])
            go_round
            case rel => exact ⟨j + 1, k - on, by omega, rfl, by go_num, by rw [hkn], Lib.hid ⟨by have := HLj.out.skip (by rw [HOn.out]; omega); rw [HOn.out] at this; exact this, by have := HKj.out; omega⟩⟩
            case measure => simp [intOf]; omega
        · exact absurd (List.drop_eq_nil_of_le (by omega)) HLi.out.1.left
    · obtain hE : l.length = N := by omega
      have hlt' : ¬ (l.length : Int) < (N : Int) := by omega
      go_wp2_with (go_at_call 52; refine HLn.out.mono ?_; rintro e w1 ⟨rfl, rfl⟩)
      go_ret2
      rcases HL.out.2 with ⟨h2, _⟩ | ⟨h2, h3⟩
      · omega
      · have := HO.out
        rw [h3] at this
        rw [HPl.out] at this
        exact ⟨_, rfl, this, HB.out⟩
end Go.Proofs.YtmonepclhbappaaDoor
/-
  Odags plainly: all paths, length by length, as the document makes them.
-/
namespace Go.Proofs.YtmonepclhbappaaDoor
open Go.RowKit
set_option linter.unusedVariables false

/-- The beginnings of a length. -/
def prefs (od : List Rw) : Nat → List (List Int)
  | 0 => [[]]
  | i + 1 => (prefs od i).flatMap fun p => (nextL od p).map fun a => p ++ [a]
theorem prefs_el (od : List Rw) : ∀ i, ∀ p ∈ prefs od i, p.length = i
  | 0, p, h => by rw [List.mem_singleton.1 h]; rfl
  | i + 1, p, h => by
    obtain ⟨q, hq, hp⟩ := List.mem_flatMap.1 h
    obtain ⟨a, _, rfl⟩ := List.mem_map.1 hp
    rw [List.length_append, prefs_el od i q hq]
    rfl
theorem flatMap_congr' {α β : Type} {f g : α → List β} : ∀ {l : List α}, (∀ x ∈ l, f x = g x) → l.flatMap f = l.flatMap g
  | [], _ => rfl
  | x :: l, h => by rw [List.flatMap_cons, List.flatMap_cons, h x (List.mem_cons_self ..), flatMap_congr' fun y hy => h y (List.mem_cons_of_mem _ hy)]
theorem sfx_step {od : List Rw} {p : List Int} (h : p.length + 1 < od.length) : (sfx od p).map (p ++ ·) = (nextL od p).flatMap fun a => (sfx od (p ++ [a])).map ((p ++ [a]) ++ ·) := by
  conv => lhs; unfold sfx
  rw [List.map_flatMap]
  refine flatMap_congr' fun a _ => ?_
  rw [sfx_snoc h, List.map_map]
  refine List.map_congr_left fun s _ => ?_
  simp
theorem sfx_end {od : List Rw} {p : List Int} (h : p.length + 1 = od.length) : (sfx od p).map (p ++ ·) = (nextL od p).map fun a => p ++ [a] := by
  unfold sfx
  rw [List.map_flatMap, List.map_eq_flatMap]
  refine flatMap_congr' fun a _ => ?_
  rw [tls_last h]
  rfl
theorem prefs_all {od : List Rw} : ∀ i, i < od.length → (prefs od i).flatMap (fun p => (sfx od p).map (p ++ ·)) = allP od
  | 0, h => by
    show ([[]] : List (List Int)).flatMap _ = _
    rw [List.flatMap_cons, List.flatMap_nil, List.append_nil, sfx_nil (by omega)]
    simp
  | i + 1, h => by
    rw [← prefs_all i (by omega), prefs, List.flatMap_assoc]
    refine flatMap_congr' fun p hp => ?_
    rw [sfx_step (by rw [prefs_el od i p hp]; exact h), List.flatMap_map]
theorem prefs_end {od : List Rw} (h : 1 ≤ od.length) : prefs od od.length = allP od := by
  obtain ⟨m, hm⟩ : ∃ m, od.length = m + 1 := ⟨od.length - 1, by omega⟩
  rw [← prefs_all m (by omega), hm, prefs]
  refine flatMap_congr' fun p hp => ?_
  exact (sfx_end (by rw [prefs_el od m p hp, hm])).symm
theorem allP_el {od : List Rw} (h : 1 ≤ od.length) {p : List Int} (hp : p ∈ allP od) : p.length = od.length := by
  rw [← prefs_end h] at hp
  exact prefs_el od _ p hp

/-- Are two numbers one behind the other in some list? -/
def linkedB (ls : List (List Int)) (i : Nat) (a b : Int) : Bool := ls.any fun x => decide (i + 1 < x.length ∧ x.getD i 0 = a ∧ x.getD (i + 1) 0 = b)
theorem nxt_mem {x : List Int} {i : Nat} {b : Int} : b ∈ nxt x i ↔ i + 1 < x.length ∧ x.getD (i + 1) 0 = b := by
  unfold nxt
  by_cases h : i + 1 < x.length
  · rw [List.drop_eq_getElem_cons h, List.take_succ_cons, List.take_zero, List.mem_singleton, List.getD_eq_getElem?_getD, List.getElem?_eq_getElem h]
    exact ⟨fun e => ⟨h, e.symm⟩, fun e => e.2.symm⟩
  · rw [List.drop_eq_nil_of_le (by omega)]
    exact ⟨fun e => (by cases e), fun e => absurd e.1 h⟩
theorem lnks_mem {ls : List (List Int)} {i : Nat} {a b : Int} : b ∈ lnks ls i a ↔ linkedB ls i a b = true := by
  unfold lnks linkedB
  rw [setL_mem, List.mem_flatMap, List.any_eq_true]
  constructor
  · rintro ⟨x, hx, hb⟩
    obtain ⟨h1, h2⟩ := List.mem_filter.1 hx
    obtain ⟨h3, h4⟩ := nxt_mem.1 hb
    exact ⟨x, h1, decide_eq_true ⟨h3, of_decide_eq_true h2, h4⟩⟩
  · rintro ⟨x, hx, hb⟩
    obtain ⟨h1, h2, h3⟩ := of_decide_eq_true hb
    exact ⟨x, List.mem_filter.2 ⟨hx, decide_eq_true h2⟩, nxt_mem.2 ⟨h1, h3⟩⟩
/-- Links are those numbers of the next row that are linked. -/
theorem lnks_filter {ls : List (List Int)} {i : Nat} {a : Int} : (col ls (i + 1)).filter (linkedB ls i a) = lnks ls i a := by
  refine inc_ext ((setL_inc _).filter _) (setL_inc _) fun b => ?_
  rw [List.mem_filter, lnks_mem]
  refine ⟨fun h => h.2, fun h => ⟨?_, h⟩⟩
  unfold linkedB at h
  obtain ⟨x, hx, hb⟩ := List.any_eq_true.1 h
  obtain ⟨h1, h2, h3⟩ := of_decide_eq_true hb
  unfold col
  rw [setL_mem]
  exact List.mem_map.2 ⟨x, hx, h3⟩
theorem keys_col {n i : Nat} (hi : i < n) {ls : List (List Int)} (h : ∀ x ∈ ls, x.length = n) : ((odOf n ls).getD i []).map (·.1) = col ls i := by
  obtain ⟨h1, h2, _⟩ := odOf_row n i hi ls h
  refine inc_ext (List.pairwise_map.2 h1) (setL_inc _) fun y => ?_
  unfold col
  rw [h2, setL_mem, List.mem_map]
/-- What may come behind a beginning, as the document says it. -/
def nextD (ls : List (List Int)) (p : List Int) : List Int := if p = [] then col ls 0 else (col ls p.length).filter (linkedB ls (p.length - 1) (p.getD (p.length - 1) 0))
theorem nextD_eq {n : Nat} {ls : List (List Int)} (h : ∀ x ∈ ls, x.length = n) {p : List Int} (hp : p.length < n) : nextL (odOf n ls) p = nextD ls p := by
  unfold nextL nextD
  by_cases h0 : p = []
  · rw [if_pos h0, if_pos h0, show (0 : Int) = ((0 : Nat) : Int) from rfl, keysAt_in (by rw [odOf_len]; omega), keys_col (by omega) h]
  · have hpos : 0 < p.length := List.length_pos_iff.2 h0
    obtain ⟨m, hm⟩ : ∃ m, p.length = m + 1 := ⟨p.length - 1, by omega⟩
    rw [if_neg h0, if_neg h0, hm, show (((m + 1 : Nat) : Int) - 1) = (m : Int) by omega, linksAt_in (by rw [odOf_len]; omega), Nat.add_sub_cancel, lnks_filter]
    exact (odOf_row n m (by omega) ls h).2.2 _
end Go.Proofs.YtmonepclhbappaaDoor
/-
  Ranks plainly: the rank of a path; which paths there are.
-/
namespace Go.Proofs.YtmonepclhbappaaDoor
open Go.RowKit
set_option linter.unusedVariables false

theorem sumZ_nn {l : List Int} (h : ∀ x ∈ l, 0 ≤ x) : 0 ≤ sumZ l := by
  induction l with
  | nil => simp [sumZ]
  | cons x l ih =>
    have h1 := h x (List.mem_cons_self ..)
    have h2 := ih fun y hy => h y (List.mem_cons_of_mem _ hy)
    rw [sumZ]
    omega
theorem tls_head {od : List Rw} {i : Nat} (h : i < od.length) {a : Int} {s : List Int} (hs : s ∈ tls (od.drop i) a) : ∃ s', s = a :: s' := by
  by_cases h1 : i + 1 < od.length
  · rw [tls_step h1] at hs
    obtain ⟨s', _, rfl⟩ := List.mem_map.1 hs
    exact ⟨s', rfl⟩
  · rw [tls_last (by omega), List.mem_singleton] at hs
    exact ⟨[], hs⟩
/-- Where the paths begin that go on with a number. -/
theorem flat_find {T : Int → List (List Int)} {a : Int} {s : List Int} (hT : ∀ c s, s ∈ T c → ∃ s', s = c :: s') : ∀ {left : List Int} {k : Nat}, left.Nodup → (left.flatMap T)[k]? = some (a :: s) →
    ∃ j, left[j]? = some a ∧ sumZ ((left.take j).map fun c => ((T c).length : Int)) ≤ (k : Int) ∧ (T a)[k - (sumZ ((left.take j).map fun c => ((T c).length : Int))).toNat]? = some (a :: s)
  | [], k, _, h => by cases h
  | c :: left, k, hn, h => by
    obtain ⟨h1, h2⟩ := List.nodup_cons.1 hn
    rw [List.flatMap_cons] at h
    by_cases hk : k < (T c).length
    · rw [List.getElem?_append_left hk] at h
      obtain ⟨s', e⟩ := hT c _ (List.mem_of_getElem? h)
      obtain ⟨rfl, _⟩ := List.cons.inj e
      exact ⟨0, rfl, by simp [sumZ], by simpa [sumZ] using h⟩
    · rw [List.getElem?_append_right (by omega)] at h
      obtain ⟨j, h3, h4, h5⟩ := flat_find hT h2 h
      have hs : sumZ (((c :: left).take (j + 1)).map fun c => ((T c).length : Int)) = ((T c).length : Int) + sumZ ((left.take j).map fun c => ((T c).length : Int)) := by rw [List.take_succ_cons, List.map_cons, sumZ]
      have hnn : 0 ≤ sumZ ((left.take j).map fun c => ((T c).length : Int)) := sumZ_nn fun x hx => by
        obtain ⟨y, _, rfl⟩ := List.mem_map.1 hx
        exact Int.natCast_nonneg _
      refine ⟨j + 1, h3, by rw [hs]; omega, ?_⟩
      rw [hs]
      have e : k - (((T c).length : Int) + sumZ ((left.take j).map fun c => ((T c).length : Int))).toNat = k - (T c).length - (sumZ ((left.take j).map fun c => ((T c).length : Int))).toNat := by omega
      rw [e]
      exact h5
/-- How many paths come ahead of the one that begins so. -/
def RkAt (od : List Rw) (k0 : Nat) (P : List Int) (i : Nat) (z : Int) : Prop := (i < od.length ∧ ∃ k, Leads od k0 P (P.take i) k ∧ z + (k : Int) = (k0 : Int)) ∨ (i = od.length ∧ z = (k0 : Int))
theorem Leads.step {od : List Rw} {k0 : Nat} {P : List Int} {i k : Nat} {a : Int} (h : Leads od k0 P (P.take i) k) (hi : i < od.length) (ha : P[i]? = some a) (hn : (nextL od (P.take i)).Nodup) :
    ∃ j, (nextL od (P.take i))[j]? = some a ∧ sumZ (((nextL od (P.take i)).take j).map (cnt od i)) ≤ (k : Int) ∧ ∀ z : Int, z + (k : Int) = (k0 : Int) → RkAt od k0 P (i + 1) (z + sumZ (((nextL od (P.take i)).take j).map (cnt od i))) := by
  obtain ⟨s, h1, h2⟩ := h
  obtain ⟨hil, hia⟩ := List.getElem?_eq_some_iff.1 ha
  have hlen : (P.take i).length = i := by rw [List.length_take]; omega
  have hs : s = a :: P.drop (i + 1) := by
    have h3 : P.drop i = s := by
      conv => lhs; rw [h2]
      rw [List.drop_append_of_le_length (by omega), List.drop_eq_nil_of_le (by omega), List.nil_append]
    rw [← h3, List.drop_eq_getElem_cons hil, hia]
  have hT : P.take (i + 1) = P.take i ++ [a] := by rw [List.take_succ_eq_append_getElem hil, hia]
  subst hs
  unfold sfx at h1
  rw [hlen] at h1
  obtain ⟨j, h3, h4, h5⟩ := flat_find (T := tls (od.drop i)) (fun c s hs => tls_head hi hs) hn h1
  have e : ((nextL od (P.take i)).take j).map (fun c => ((tls (od.drop i) c).length : Int)) = ((nextL od (P.take i)).take j).map (cnt od i) := rfl
  rw [e] at h4 h5
  have hnn : 0 ≤ sumZ (((nextL od (P.take i)).take j).map (cnt od i)) := sumZ_nn fun x hx => by
    obtain ⟨y, _, rfl⟩ := List.mem_map.1 hx
    exact cnt_nn _ _ _
  refine ⟨j, h3, h4, fun z hz => ?_⟩
  generalize sumZ (((nextL od (P.take i)).take j).map (cnt od i)) = S at *
  by_cases hi1 : i + 1 < od.length
  · refine .inl ⟨hi1, k - S.toNat, ⟨P.drop (i + 1), ?_, ?_⟩, by omega⟩
    · have hl2 : (P.take i).length + 1 < od.length := by omega
      have h6 := sfx_snoc hl2 a
      rw [hlen] at h6
      rw [h6, ← hT, List.getElem?_map] at h5
      obtain ⟨s', h7, h8⟩ := Option.map_eq_some_iff.1 h5
      obtain ⟨_, rfl⟩ := List.cons.inj h8
      exact h7
    · exact (List.take_append_drop (i + 1) P).symm
  · refine .inr ⟨by omega, ?_⟩
    rw [tls_last (by omega)] at h5
    have := (List.getElem?_eq_some_iff.1 h5).1
    simp at this
    omega
theorem RkAt.begin {od : List Rw} {k0 : Nat} {P : List Int} (h1 : 1 ≤ od.length) (h : (allP od)[k0]? = some P) : RkAt od k0 P 0 0 := .inl ⟨by omega, k0, ⟨P, by rw [List.take_zero, sfx_nil h1]; exact h, by rw [List.take_zero]; rfl⟩, by omega⟩
/-- A beginning of a path is a beginning. -/
theorem prefs_take {od : List Rw} : ∀ (m : Nat) (p : List Int), p ∈ prefs od m → ∀ i, i ≤ m → p.take i ∈ prefs od i
  | 0, p, h, i, hi => by
    obtain rfl : i = 0 := by omega
    rw [List.take_zero]
    exact List.mem_singleton_self _
  | m + 1, p, h, i, hi => by
    by_cases e : i = m + 1
    · subst e
      rw [List.take_of_length_le (by rw [prefs_el od _ p h]; exact Nat.le_refl _)]
      exact h
    · obtain ⟨q, hq, hp⟩ := List.mem_flatMap.1 h
      obtain ⟨a, _, rfl⟩ := List.mem_map.1 hp
      rw [List.take_append_of_le_length (by rw [prefs_el od _ q hq]; omega)]
      exact prefs_take m q hq i (by omega)
theorem prefs_next {od : List Rw} {P : List Int} {i : Nat} {a : Int} (ha : P[i]? = some a) : P.take (i + 1) ∈ prefs od (i + 1) ↔ P.take i ∈ prefs od i ∧ a ∈ nextL od (P.take i) := by
  obtain ⟨hil, hia⟩ := List.getElem?_eq_some_iff.1 ha
  have hT : P.take (i + 1) = P.take i ++ [a] := by rw [List.take_succ_eq_append_getElem hil, hia]
  rw [hT, prefs, List.mem_flatMap]
  constructor
  · rintro ⟨q, hq, hp⟩
    obtain ⟨b, hb, e⟩ := List.mem_map.1 hp
    obtain ⟨rfl, e2⟩ := List.append_inj e (by rw [prefs_el od _ q hq, List.length_take]; omega)
    obtain ⟨rfl, _⟩ := List.cons.inj e2
    exact ⟨hq, hb⟩
  · rintro ⟨h1, h2⟩
    exact ⟨_, h1, List.mem_map.2 ⟨a, h2, rfl⟩⟩
end Go.Proofs.YtmonepclhbappaaDoor
/-
  Odags plainly: paths rise; each list is a path; the odag of all paths is the odag.
-/
namespace Go.Proofs.YtmonepclhbappaaDoor
open Go.RowKit
set_option linter.unusedVariables false

/-- Numbers and links rise. -/
def Rising (od : List Rw) : Prop := ∀ i, i < od.length → IncR (od.getD i []) ∧ ∀ a, Inc (lkR (od.getD i []) a)
theorem odOf_rising (n : Nat) (ls : List (List Int)) (h : ∀ x ∈ ls, x.length = n) : Rising (odOf n ls) := fun i hi => by
  rw [odOf_len] at hi
  obtain ⟨h1, _, h3⟩ := odOf_row n i hi ls h
  exact ⟨h1, fun a => by rw [h3]; exact setL_inc _⟩
theorem Rising.next {od : List Rw} (h : Rising od) {l : List Int} (hl : l.length < od.length) : Inc (nextL od l) := by
  unfold nextL
  by_cases h0 : l = []
  · rw [if_pos h0, show (0 : Int) = ((0 : Nat) : Int) from rfl, keysAt_in (by omega)]
    exact List.pairwise_map.2 (h 0 (by omega)).1
  · have hp : 0 < l.length := List.length_pos_iff.2 h0
    rw [if_neg h0, show ((l.length : Int) - 1) = ((l.length - 1 : Nat) : Int) by omega, linksAt_in (by omega)]
    exact (h _ (by omega)).2 _
theorem inc_nodup {l : List Int} (h : Inc l) : l.Nodup := h.imp fun {a b} hab e => by omega
theorem tls_rise {od : List Rw} (h : Rising od) : ∀ (d i : Nat), i + d + 1 = od.length → ∀ L : List Int, Inc L → (L.flatMap (tls (od.drop i))).Pairwise fun p q => cmpL p q = -1
  | d, i, hi, L, hL => by
    refine List.pairwise_flatMap.2 ⟨fun a _ => ?_, hL.imp fun {a b} hab x hx y hy => ?_⟩
    · match d, hi with
      | 0, hi => rw [tls_last (by omega)]; exact List.pairwise_singleton _ _
      | d + 1, hi =>
        rw [tls_step (by omega)]
        refine List.pairwise_map.2 ((tls_rise h d (i + 1) (by omega) _ ((h i (by omega)).2 a)).imp fun {p q} hpq => ?_)
        rw [cmpL, if_neg (by omega), if_neg (by omega)]
        exact hpq
    · obtain ⟨x', rfl⟩ := tls_head (by omega) hx
      obtain ⟨y', rfl⟩ := tls_head (by omega) hy
      rw [cmpL, if_pos hab]
theorem allP_rise {od : List Rw} (h : Rising od) (h1 : 1 ≤ od.length) : (allP od).Pairwise fun p q => cmpL p q = -1 := by
  have := tls_rise h (od.length - 1) 0 (by omega) ((od.getD 0 []).map fun q : Int × List Int => q.1) (List.pairwise_map.2 (h 0 (by omega)).1)
  rw [List.drop_zero] at this
  exact this
theorem allP_nodup {od : List Rw} (h : Rising od) (h1 : 1 ≤ od.length) : (allP od).Nodup := (allP_rise h h1).imp fun {p q} hpq e => by
  subst e
  rw [cmpL_zero.2 rfl] at hpq
  cases hpq
/-- Each list is a path. -/
theorem ls_path {n : Nat} {ls : List (List Int)} (h1 : 1 ≤ n) (h : ∀ x ∈ ls, x.length = n) {x : List Int} (hx : x ∈ ls) : x ∈ allP (odOf n ls) := by
  have hl := odOf_len n ls
  have hxl := h x hx
  have key : ∀ i, i ≤ n → x.take i ∈ prefs (odOf n ls) i := by
    intro i
    induction i with
    | zero => intro _; rw [List.take_zero]; exact List.mem_singleton_self _
    | succ i ih =>
      intro hi
      have hlt : i < x.length := by omega
      refine (prefs_next (a := x[i]) (List.getElem?_eq_getElem hlt)).2 ⟨ih (by omega), ?_⟩
      have hti : (x.take i).length = i := by rw [List.length_take]; omega
      rw [nextD_eq h (by omega)]
      unfold nextD
      by_cases h0 : x.take i = []
      · rw [if_pos h0]
        obtain rfl : i = 0 := by rw [h0] at hti; exact hti.symm
        unfold col
        rw [setL_mem]
        exact List.mem_map.2 ⟨x, hx, by rw [List.getD_eq_getElem?_getD, List.getElem?_eq_getElem hlt]; rfl⟩
      · rw [if_neg h0, hti]
        obtain ⟨m, rfl⟩ : ∃ m, i = m + 1 := ⟨i - 1, by
          rcases i with _ | i
          · exact absurd (List.take_zero) h0
          · rfl⟩
        refine List.mem_filter.2 ⟨?_, ?_⟩
        · unfold col
          rw [setL_mem]
          exact List.mem_map.2 ⟨x, hx, by rw [List.getD_eq_getElem?_getD, List.getElem?_eq_getElem hlt]; rfl⟩
        · unfold linkedB
          refine List.any_eq_true.2 ⟨x, hx, decide_eq_true ⟨by simp; omega, ?_, ?_⟩⟩
          · rw [Nat.add_sub_cancel, List.getD_eq_getElem?_getD, List.getD_eq_getElem?_getD, List.getElem?_take, if_pos (by omega)]
          · rw [Nat.add_sub_cancel, List.getD_eq_getElem?_getD, List.getElem?_eq_getElem hlt]; rfl
  have := key n (Nat.le_refl _)
  rw [List.take_of_length_le (by omega)] at this
  have h2 := prefs_end (od := odOf n ls) (by rw [hl]; exact h1)
  rw [hl] at h2
  rwa [h2] at this
/-- What stands behind one another in a path is linked. -/
theorem path_link {od : List Rw} {p : List Int} (h1 : 1 ≤ od.length) (hp : p ∈ allP od) {i : Nat} {a : Int} (ha : p[i]? = some a) : a ∈ nextL od (p.take i) := by
  have hl := allP_el h1 hp
  rw [← prefs_end h1] at hp
  have hi := (List.getElem?_eq_some_iff.1 ha).1
  have := prefs_take _ p hp (i + 1) (by omega)
  exact ((prefs_next ha).1 this).2
theorem rw_ext : ∀ {r r' : Rw}, IncR r → IncR r' → (∀ a, a ∈ r.map (·.1) ↔ a ∈ r'.map (·.1)) → (∀ a, lkR r a = lkR r' a) → r = r' := by
  intro r r' h h' hk hl
  have e : r.map (·.1) = r'.map (·.1) := inc_ext (List.pairwise_map.2 h) (List.pairwise_map.2 h') hk
  have e1 : ∀ {s : Rw}, IncR s → s = (s.map (·.1)).map fun a => (a, lkR s a) := fun {s} hs => by
    rw [List.map_map]
    conv => lhs; rw [← List.map_id s]
    refine List.map_congr_left fun q hq => ?_
    have := hs.lk hq
    simp [this]
  rw [e1 h, e1 h', e]
  refine List.map_congr_left fun a _ => ?_
  rw [hl a]
theorem odOf_ext {n : Nat} {ls ls' : List (List Int)} (h : ∀ x ∈ ls, x.length = n) (h' : ∀ x ∈ ls', x.length = n) (hc : ∀ i, i < n → ∀ a, a ∈ col ls i ↔ a ∈ col ls' i) (hk : ∀ i, i < n → ∀ a b, b ∈ lnks ls i a ↔ b ∈ lnks ls' i a) : odOf n ls = odOf n ls' := by
  refine List.ext_getElem (by rw [odOf_len, odOf_len]) fun i h1 h2 => ?_
  rw [odOf_len] at h1
  obtain ⟨g1, g2, g3⟩ := odOf_row n i h1 ls h
  obtain ⟨k1, k2, k3⟩ := odOf_row n i h1 ls' h'
  have e : ∀ {l : List (List Int)} (hh : i < (odOf n l).length), (odOf n l).getD i [] = (odOf n l)[i] := fun hh => by rw [List.getD_eq_getElem?_getD, List.getElem?_eq_getElem hh]; rfl
  rw [← e, ← e]
  refine rw_ext g1 k1 (fun a => ?_) fun a => ?_
  · rw [g2, k2]
    have := hc i h1 a
    unfold col at this
    rw [setL_mem, setL_mem, List.mem_map, List.mem_map] at this
    exact this
  · rw [g3, k3]
    exact inc_ext (setL_inc _) (setL_inc _) fun b => hk i h1 a b
/-- The odag of all paths is the odag. -/
theorem odOf_paths {n : Nat} {ls : List (List Int)} (h1 : 1 ≤ n) (h : ∀ x ∈ ls, x.length = n) : odOf n (allP (odOf n ls)) = odOf n ls := by
  have hl := odOf_len n ls
  have hE : ∀ x ∈ allP (odOf n ls), x.length = n := fun x hx => by rw [allP_el (by omega) hx, hl]
  have hN : ∀ p ∈ allP (odOf n ls), ∀ i a, p[i]? = some a → a ∈ nextD ls (p.take i) := fun p hp i a ha => by
    have h2 := path_link (by omega) hp ha
    have h3 := (List.getElem?_eq_some_iff.1 ha).1
    rw [nextD_eq h (by rw [List.length_take, hE p hp]; have := hE p hp; omega)] at h2
    exact h2
  refine odOf_ext hE h (fun i hi a => ?_) fun i hi a b => ?_
  · unfold col
    rw [setL_mem, setL_mem, List.mem_map, List.mem_map]
    constructor
    · rintro ⟨p, hp, rfl⟩
      have hpl := hE p hp
      have h2 := hN p hp i p[i] (List.getElem?_eq_getElem (by omega))
      have e : p.getD i 0 = p[i] := by rw [List.getD_eq_getElem?_getD, List.getElem?_eq_getElem (by omega)]; rfl
      rw [e]
      have hti : (p.take i).length = i := by rw [List.length_take]; omega
      unfold nextD at h2
      rw [hti] at h2
      have h4 : p[i] ∈ col ls i := by
        split at h2
        · rename_i h0
          obtain rfl : i = 0 := by rw [h0] at hti; exact hti.symm
          exact h2
        · exact (List.mem_filter.1 h2).1
      unfold col at h4
      rw [setL_mem, List.mem_map] at h4
      exact h4
    · rintro ⟨x, hx, hxa⟩
      exact ⟨x, ls_path h1 h hx, hxa⟩
  · constructor
    · intro hb
      obtain ⟨p, hp, hpb⟩ := List.any_eq_true.1 (lnks_mem.1 hb)
      obtain ⟨g1, g2, g3⟩ := of_decide_eq_true hpb
      have h2 := hN p hp (i + 1) p[i + 1] (List.getElem?_eq_getElem g1)
      have e : p.getD (i + 1) 0 = p[i + 1] := by rw [List.getD_eq_getElem?_getD, List.getElem?_eq_getElem g1]; rfl
      have hti : (p.take (i + 1)).length = i + 1 := by rw [List.length_take]; omega
      unfold nextD at h2
      rw [if_neg (fun e => by rw [e] at hti; cases hti), hti, Nat.add_sub_cancel, ← e, g3, List.getD_eq_getElem?_getD, List.getElem?_take, if_pos (by omega), ← List.getD_eq_getElem?_getD, g2] at h2
      exact lnks_mem.2 (List.mem_filter.1 h2).2
    · intro hb
      obtain ⟨x, hx, hxb⟩ := List.any_eq_true.1 (lnks_mem.1 hb)
      exact lnks_mem.2 (List.any_eq_true.2 ⟨x, ls_path h1 h hx, hxb⟩)
theorem nextL_B {K : Nat} {od : List Rw} (h : OdB K od) (l : List Int) : (nextL od l).length ≤ K := by
  unfold nextL
  split
  · unfold keysAt
    split
    · rw [List.length_map]
      exact (h _ (getD_memO (by omega))).1
    · simp
  · unfold linksAt
    split
    · exact lkR_B (h _ (getD_memO (by omega))) _
    · simp
/-- What an odag is asked. -/
structure OdOK (od : List Rw) (N : Nat) : Prop where
  B : OdB 60000 od
  len : od.length = N
  h1 : 1 ≤ N
  h8 : N ≤ 8
  Nu : Nums od
  C : Closed od
  F : Fits od
  P : ∀ p ∈ allP od, p.length = N
  S : Rising od
theorem odOf_ok (n : Nat) (ls : List (List Int)) (h1 : 1 ≤ n) (h5 : n ≤ 5) (hl : ls.length ≤ 13) (h : ∀ x ∈ ls, x.length = n) (hx : ∀ x ∈ ls, ∀ y ∈ x, numOK y) : OdOK (odOf n ls) n where
  B := fun r hr => (odOf_B n _ r hr).mono (by omega)
  len := odOf_len n _
  h1 := h1
  h8 := by omega
  Nu := odOf_nums n _ h hx
  C := odOf_closed n _ h
  F := odOf_fits n _ h1 h5 hl
  P := fun p hp => by rw [allP_el (by rw [odOf_len]; exact h1) hp, odOf_len]
  S := odOf_rising n ls h
theorem allP_ok {od : List Rw} {N : Nat} (h : OdOK od N) {p : List Int} (hp : p ∈ allP od) : ∀ x ∈ p, i64ok x := fun x hx => by
  obtain ⟨i, hi, rfl⟩ := List.mem_iff_getElem.1 hx
  have hl := h.P p hp
  have h1 := path_link (by rw [h.len]; exact h.h1) hp (List.getElem?_eq_getElem hi)
  have hti : (p.take i).length = i := by rw [List.length_take]; omega
  have h2 := next_keys h.C (by rw [hti, h.len]; omega) _ h1
  rw [hti] at h2
  exact h.Nu.key (by rw [h.len]; omega) h2
end Go.Proofs.YtmonepclhbappaaDoor
/-
  Laws with ranges over functions: their ends, walked plainly.
-/
namespace Go.Proofs.YtmonepclhbappaaDoor
open Go.RowKit
set_option linter.unusedVariables false
section
variable {F : Fence} {n : Nat} {P : Program} {fn : Func} {R : Ending → World → Prop} {a : Act} {w : World} {v : Value}
theorem mks0 (hd : a.defers = []) (hr : (results fn a.tmps).run P w = .ok v w) (hR : R (.returned v) w) : bodyPostM F n P fn R .ret a w := by
  show LeavesInM F n P fn a.tmps R a.defers .returning w
  rw [hd]
  exact ⟨v, hr, hR⟩
theorem mks1 {D : Nat} (hd : a.defers = [{ target := .collected D, args := #[] }]) (hK : w.heap[D]? = some (.deferred (some [])))
    (hr : (results fn a.tmps).run P (w.putObj D (.deferred none)) = .ok v (w.putObj D (.deferred none))) (hR : R (.returned v) (w.putObj D (.deferred none))) : bodyPostM F n P fn R .ret a w := by
  show LeavesInM F n P fn a.tmps R a.defers .returning w
  rw [hd]
  exact ⟨by simp, .inl ⟨_, _, rfl, run_takeDeferred hK, v, hr, hR⟩⟩
theorem mks2 {D E : Nat} (hd : a.defers = [{ target := .collected E, args := #[] }, { target := .collected D, args := #[] }]) (hE : w.heap[E]? = some (.deferred (some []))) (hD : (w.putObj E (.deferred none)).heap[D]? = some (.deferred (some [])))
    (hr : (results fn a.tmps).run P ((w.putObj E (.deferred none)).putObj D (.deferred none)) = .ok v ((w.putObj E (.deferred none)).putObj D (.deferred none))) (hR : R (.returned v) ((w.putObj E (.deferred none)).putObj D (.deferred none))) : bodyPostM F n P fn R .ret a w := by
  show LeavesInM F n P fn a.tmps R a.defers .returning w
  rw [hd]
  exact ⟨by simp, .inl ⟨_, _, rfl, run_takeDeferred hE, by simp, .inl ⟨_, _, rfl, run_takeDeferred hD, v, hr, hR⟩⟩⟩
end
/-- The marks' blocks are shut, one after the other. -/
def shutM (Ds : List Nat) (w : World) : World := Ds.foldl (fun w D => w.putObj D (.deferred none)) w
theorem leavesM {F : Fence} {n : Nat} {P : Program} {fn : Func} {tmps : Array Value} {R : Ending → World → Prop} {v : Value} : ∀ (Ds : List Nat) (w : World), (∀ D ∈ Ds, w.heap[D]? = some (.deferred (some []))) → Ds.Nodup →
    (results fn tmps).run P (shutM Ds w) = .ok v (shutM Ds w) → R (.returned v) (shutM Ds w) → LeavesInM F n P fn tmps R (Ds.map fun D => { target := .collected D, args := #[] }) .returning w
  | [], w, _, _, hr, hR => ⟨v, hr, hR⟩
  | D :: Ds, w, hK, hn, hr, hR => by
    have hn' := List.nodup_cons.1 hn
    refine ⟨by simp, .inl ⟨_, _, rfl, run_takeDeferred (hK D (List.mem_cons_self ..)), ?_⟩⟩
    refine leavesM Ds (w.putObj D (.deferred none)) (fun D' hD' => ?_) hn'.2 hr hR
    exact (World.putObj_heap_other (fun e => hn'.1 (by rw [← e]; exact hD'))).trans (hK D' (List.mem_cons_of_mem _ hD'))
theorem shutM_blk {B : Nat} {t : TypeId} {u : Array Value} : ∀ (Ds : List Nat) (w : World), (∀ D ∈ Ds, w.heap[D]? = some (.deferred (some []))) → Ds.Nodup → Blk w B t u → Blk (shutM Ds w) B t u
  | [], _, _, _, h => h
  | D :: Ds, w, hK, hn, h => by
    have hn' := List.nodup_cons.1 hn
    refine shutM_blk Ds (w.putObj D (.deferred none)) (fun D' hD' => (World.putObj_heap_other (fun e => hn'.1 (by rw [← e]; exact hD'))).trans (hK D' (List.mem_cons_of_mem _ hD'))) hn'.2 (h.grown (grownBy_putObj' _ _ _) (fun e => ?_))
    cases e
    have h2 := hK B (List.mem_cons_self ..)
    rw [show w.heap[B]? = _ from h] at h2
    cases h2
theorem shutM_below {w0 : World} : ∀ (Ds : List Nat) (w : World), (∀ D ∈ Ds, w.heap[D]? = some (.deferred (some []))) → Ds.Nodup → (∀ D ∈ Ds, w0.heap.size ≤ D) → Below w0.heap.size w0 w → Below w0.heap.size w0 (shutM Ds w)
  | [], _, _, _, _, h => h
  | D :: Ds, w, hK, hn, hD, h => by
    have hn' := List.nodup_cons.1 hn
    exact shutM_below Ds (w.putObj D (.deferred none)) (fun D' hD' => (World.putObj_heap_other (fun e => hn'.1 (by rw [← e]; exact hD'))).trans (hK D' (List.mem_cons_of_mem _ hD'))) hn'.2 (fun D' h' => hD D' (List.mem_cons_of_mem _ h')) (h.trans (belowK_b (w := w0) (Nat.le_refl _) w D _ _ (hD D (List.mem_cons_self ..)) (hK D (List.mem_cons_self ..)) rfl rfl))
/-- A law's end behind ranges over functions: the result's block holds true, the marks' blocks are shut. -/
theorem law_end {k : Nat} {P : Program} {fn : Func} {a : Act} {w W : World} (Ds : List Nat) {t : TypeId} {v0 : Value} (hres : ∀ V : World, V.cell? ⟨w.heap.size, 0, none⟩ = some (.bool true) → (results fn a.tmps).run P V = .ok (.bool true) V) (hd : a.defers = Ds.map fun D => { target := .collected D, args := #[] }) (hK : ∀ D ∈ Ds, W.heap[D]? = some (.deferred (some []))) (hn : Ds.Nodup)
    (hr : Blk W w.heap.size t #[v0]) (hb : Below w.heap.size w W) (hD : ∀ D ∈ Ds, w.heap.size ≤ D) :
    bodyPostM Fence.wide k P fn (fun e w' => e = .returned (.bool true) ∧ Below w.heap.size w w') .ret a (W.setCell ⟨w.heap.size, 0, none⟩ (.bool true)) := by
  show LeavesInM _ _ _ _ _ _ a.defers .returning _
  rw [hd]
  have hK2 : ∀ D ∈ Ds, (W.setCell ⟨w.heap.size, 0, none⟩ (.bool true)).heap[D]? = some (.deferred (some [])) := fun D h => (KeepsOthers.setCell _ _ _).same D _ (hK D h) rfl
  have hE := (shutM_blk Ds _ hK2 hn (hr.set_ 0 (.bool true))).cell 0
  simp at hE
  exact leavesM Ds _ hK2 hn (v := .bool true) (hres _ hE) ⟨rfl, shutM_below Ds _ hK2 hn hD (hb.setCell (p := ⟨w.heap.size, 0, none⟩) (Nat.le_refl _) _)⟩
/-- A part of the code that ends in its normal way alone. -/
theorem wp_thenF {P : Program} {c : Code} {K : Act → World → Prop} {Q : Exit → Act → World → Prop} {a : Act} {w : World} (h : c.wp P (Exit.then K fun _ _ _ => False) a w) : c.wp P (Exit.then K Q) a w :=
  wp_mono h (by intro e a w h; cases e <;> first | exact h | exact h.elim)
end Go.Proofs.YtmonepclhbappaaDoor
