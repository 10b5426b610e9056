/-
  Part 11 of the proof of OdagMerge: OdS, RankAt1, RankE, KeepT, RankG, Box.
-/
import Derived.BigQuiet
import Derived.Maps.OwnSet
import Derived.Deep.RegionHeld3
import Derived.Test.YtmonepclhbappaaGreatDoorOdagMergeM10
import Derived.Test.YtmonepclhbappaaGreatDoorOdagMergeM9
import Derived.RangeFuncFrom
import Derived.Test.YtmonepclhbappaaGreatDoorOdagMergeM8
import Derived.Test.YtmonepclhbappaaGreatDoorOdagMergeM4
import Derived.Test.YtmonepclhbappaaGreatDoorOdagMergeM2
import Derived.RangeFuncNested
import Derived.RangeFuncBound
import Derived.RangeFuncCalls
import Derived.RangeFuncLeaves
import Derived.Shelf.Abstract
import Derived.Shelf.RegionOpen
import Derived.OwnWalkIn
import Derived.TacticsInMore
import Derived.LoopNIn
import Derived.LoopIn
import Derived.Test.YtmonepclhbappaaGreatDoorOdagMergeM3
/-
  Odags: Same.
-/
namespace Go.Proofs.YtmonepclhbappaaGreatDoor
open Go.RowKit Go.Maps
set_option maxRecDepth 100000
set_option linter.unusedVariables false

set_option maxHeartbeats 1000000 in
theorem EqualI_any (p q : List Int) (A B : Option Addr) (n m c d : Nat) (w : World) (hl : p.length = n) (hm : q.length = m) (hs : Sl w 1 A n (p.map (Value.int .i64))) (ht : Sl w 1 B m (q.map (Value.int .i64))) (hn : n ≤ 9223372036854775806) :
    Calls Tryz.prog 78 #[.slice A n c, .slice B m d] w fun e w' => e = .returned (.bool (decide (p = q))) ∧ Below w.heap.size w w' := by
  go_enter Tryz.func78, Tryz.ntmps78
  by_cases hnm : n = m
  · subst hnm
    go_wp2
    go_loopw [13] (fun i wr => ∃ k : Nat, k ≤ n ∧ i = .int .i64 k ∧ p.take k = q.take k ∧ Below w.heap.size w wr) (fun i _ => n - (intOf i).toNat)
    case atStart => exact ⟨0, Nat.zero_le _, rfl, rfl, Below.refl _ _⟩
    case round =>
      obtain ⟨k, hk, rfl, heq, hb⟩ := hrel
      by_cases hlt : k < n
      · have hj : k < p.length := by omega
        have hj' : k < q.length := by omega
        obtain ⟨b, off, u, rfl, e1, c1⟩ := (hs.keep hb).one hlt
        obtain ⟨b', off', u', rfl, e2, c2⟩ := (ht.keep hb).one hlt
        rw [List.getElem?_map, List.getElem?_eq_getElem hj] at e1
        rw [List.getElem?_map, List.getElem?_eq_getElem hj'] at e2
        obtain rfl := Option.some.inj e1
        obtain rfl := Option.some.inj e2
        have HT := Lib.hid (List.take_succ_eq_append_getElem hj)
        have HT' := Lib.hid (List.take_succ_eq_append_getElem hj')
        have HE := Lib.hid heq
        have HP := Lib.hid (fun h : p = q => (by subst h; rfl : p[k] = q[k]))
        generalize p[k] = x at *
        generalize q[k] = y at *
        clear e1 e2 heq hs ht
        by_cases hxy : x = y
        · subst hxy
          have hb0 : (x != x) = false := by simp
          go_wp2_with fail
          go_quiet (fail)
          go_wp2_with fail
          go_roundw
          case rel => exact ⟨k + 1, by omega, by go_num, by rw [HT.out, HT'.out, HE.out], bel_drewN hb _⟩
          case measure => simp [intOf]; omega
        · have hb1 : (x != y) = true := by simpa using hxy
          go_wp2_with fail
          go_quiet (fail)
          go_wp2_with fail
          go_ret
          exact ⟨ret_bool (decide_eq_false (fun h => hxy (HP.out h))).symm, bel_drewN hb _⟩
      · obtain rfl : k = n := by omega
        rw [List.take_of_length_le (by omega), List.take_of_length_le (by omega)] at heq
        have HE := Lib.hid heq
        clear heq hs ht
        go_wp2
        go_ret
        exact ⟨ret_bool (decide_eq_true HE.out).symm, hb⟩
  · have hne : p ≠ q := fun h => hnm (by rw [← hl, ← hm, h])
    have HN := Lib.hid hne
    have hb1 : ((n : Int) != (m : Int)) = true := by simp; omega
    clear hne hs ht
    go_wp2
    go_ret
    exact ⟨ret_bool (decide_eq_false HN.out).symm, Below.refl _ _⟩

/-- 'v, ok := r[a]'. -/
theorem wpList_lookR_ok {ops : Array Oper} {rest : List Oper} {o : Oper} {a : Act} {Q : Exit → Act → World → Prop} (w : World) (hg : o.guard = none) (m x : Operand) (hop : o.op = Op.lookup 114 m x true) (b : Nat) (r : Rw) (hm : a.eval m = .map (some b)) (hown : MRow w b r) (y : Int) (hx : a.eval x = .int .i64 y) (h1 : -9223372036854775808 ≤ y) (h2 : y ≤ 9223372036854775807)
    (hK : ∀ (A : Option Addr) (c : Nat) (l : List Int), RowOK w (A, c, l) → l = lkR r y → wpList Tryz.prog ops Q rest (a.put o.dst (.tuple #[.slice A l.length c, .bool (decide (y ∈ r.map (·.1)))])) w) :
    wpList Tryz.prog ops Q (o :: rest) a w := by
  obtain ⟨me, rfl, hM, hR⟩ := hown
  obtain ⟨A, c, l, h3, h4, h5⟩ := MRow.look hR y
  have hM' : w.ownsMap Tryz.prog 3 rawR b (me.map mv).length (asD (me.map mv)) := hM
  refine wpList_lookup_own_ok w hg m x _ hop 3 22 (int_keyed kInt) Tryz.underlying114 rawR (show (zeroValue 22).run Tryz.prog w = .ok (.slice none 0 0) w by kernel_rfl) (.held (.slice none 0 0)) [] rfl b _ _ hm hM' _ _ hx (keyOf_int_mk kInt (lit_i64 h1 h2)) fun v ps hv => ?_
  rw [atKey_asD] at hv
  have e1 : v = (atI (me.map mv) y).getD (.slice none 0 0) := by
    have := (Prod.mk.inj (Option.some.inj hv)).1
    exact DataW.held.inj this
  rw [e1, h5, has_asD]
  have e2 : (atI (me.map mv) y).isSome = decide (y ∈ (me.map pl).map (·.1)) := by
    have hkk : (me.map mv).map (·.1) = (me.map pl).map (·.1) := by rw [List.map_map, List.map_map]; rfl
    rw [← hkk]
    cases hat : atI (me.map mv) y with
    | none => rw [decide_eq_false (atI_none.1 hat)]; rfl
    | some v2 => rw [decide_eq_true (List.mem_map.2 ⟨_, atI_mem hat, rfl⟩)]; rfl
  rw [e2]
  exact hK A c l h3 h4
theorem wpList_lenR {ops : Array Oper} {rest : List Oper} {o : Oper} {a : Act} {Q : Exit → Act → World → Prop} (w : World) (hg : o.guard = none) (m : Operand) (hop : o.op = Op.call { callee := Callee.builtin Builtin.len, args := #[m], argTypes := #[114] }) (b : Nat) (r : Rw) (hm : a.eval m = .map (some b)) (hown : MRow w b r)
    (hK : wpList Tryz.prog ops Q rest (a.put o.dst (.int .i64 (r.length : Nat))) w) : wpList Tryz.prog ops Q (o :: rest) a w := by
  obtain ⟨me, rfl, hM, hR⟩ := hown
  have hM' : w.ownsMap Tryz.prog 3 rawR b (me.map mv).length (asD (me.map mv)) := hM
  refine wpList_len_own w hg m _ hop 3 22 Tryz.underlying114 rawR b _ _ hm hM' ?_
  have e : Maps.size (asD (me.map mv)) = (me.map pl).length := by unfold asD; rw [Maps.size_eq, List.length_map, List.length_map, List.length_map]
  rw [e]
  exact hK
/-- Rows whose numbers and links may be gone through. -/
def RwOK (r : Rw) : Prop := r.length ≤ 60000 ∧ ∀ q ∈ r, i64ok q.1 ∧ q.2.length ≤ 60000
theorem rw_found {r r' : Rw} (h : IncR r) (h' : IncR r') (hl : r.length = r'.length) (hf : ∀ q ∈ r, q.1 ∈ r'.map (·.1) ∧ lkR r' q.1 = q.2) : r = r' := by
  have hk1 : Inc (r.map (·.1)) := List.pairwise_map.2 h
  have hk2 : Inc (r'.map (·.1)) := List.pairwise_map.2 h'
  have hsub : ∀ x ∈ r.map (·.1), x ∈ r'.map (·.1) := fun x hx => by
    obtain ⟨q, hq, rfl⟩ := List.mem_map.1 hx
    exact (hf q hq).1
  have hback : ∀ x ∈ r'.map (·.1), x ∈ r.map (·.1) := fun x hx => by
    by_cases hc : x ∈ r.map (·.1)
    · exact hc
    · have h1 := sub_lenC (x :: r.map (·.1)) (r'.map (·.1)) (List.nodup_cons.2 ⟨hc, inc_nodup hk1⟩) (fun y hy => by
        rcases List.mem_cons.1 hy with rfl | hy
        · exact hx
        · exact hsub y hy)
      rw [List.length_cons, List.length_map, List.length_map] at h1
      omega
  refine rw_ext h h' (fun a => ⟨hsub a, hback a⟩) fun a => ?_
  by_cases ha : a ∈ r.map (·.1)
  · obtain ⟨q, hq, rfl⟩ := List.mem_map.1 ha
    rw [h.lk hq, (hf q hq).2]
  · rw [lkR_nokey ha, lkR_nokey (fun hc => ha (hback a hc))]

set_option maxHeartbeats 8000000 in
theorem MapEq_any (b b' : Nat) (r r' : Rw) (w : World) (hr : MRow w b r) (hr' : MRow w b' r') (ho : RwOK r) (ho' : RwOK r') :
    Calls Tryz.prog 77 #[.map (some b), .map (some b'), .func (.func 78) #[] #[]] w fun e w' => e = .returned (.bool (decide (r = r'))) ∧ Below w.heap.size w w' := by
  have HR := Lib.hid hr
  have HR' := Lib.hid hr'
  have HO := Lib.hid ho
  have HO' := Lib.hid ho'
  have HI := Lib.hid (show IncR r from hr.incr)
  have HI' := Lib.hid (show IncR r' from hr'.incr)
  obtain ⟨n, hn⟩ : ∃ n, n = r.length := ⟨_, rfl⟩
  obtain ⟨n', hn'⟩ : ∃ n', n' = r'.length := ⟨_, rfl⟩
  have HN := Lib.hid hn
  have HN' := Lib.hid hn'
  clear hr hr' ho ho' hn hn'
  go_enter Tryz.func77, Tryz.ntmps77
  by_cases hnn : n = n'
  · subst hnn
    have hne : ((n : Int) != (n : Int)) = false := by simp
    go_wp2_with (first
      | (at_len; refine wpList_lenR _ rfl _ rfl b r rfl HR.out ?_; rw [← HN.out])
      | (at_len; refine wpList_lenR _ rfl _ rfl b' r' rfl HR'.out ?_; rw [← HN'.out])
      | (at_range; refine wpList_rangeR _ rfl _ rfl b r rfl HR.out ?_; intro w2 hrg hb2 hs2; have HRg := Lib.hid hrg; have HB2 := Lib.hid hb2; clear hrg hb2 hs2))
    obtain ⟨it, hit⟩ : ∃ it, it = w.heap.size := ⟨_, rfl⟩
    have HIt := Lib.hid (show w.heap.size ≤ it from by omega)
    rw [← hit] at HRg ⊢
    clear hit hne
    go_wp2_with fail
    go_frame
    go_loopw [] (fun wx => ∃ done : Rw, Hid (RangesR wx b it r done) ∧ Hid (Below w.heap.size w wx) ∧ Hid (∀ q ∈ done, q.1 ∈ r'.map (·.1) ∧ lkR r' q.1 = q.2)) (fun wx => wx.rangeLeft b it)
    case atStart => exact ⟨[], HRg, HB2, Lib.hid fun q hq => by cases hq⟩
    case round =>
      clear HRg HB2
      obtain ⟨done, HRg, HBx, HF⟩ := hrel
      go_wp2_with (at_next; refine wpList_nextR _ rfl _ rfl b it _ done rfl HRg.out ?_ ?_)
      · intro hperm
        have HE := Lib.hid (show decide (r = r') = true from decide_eq_true (rw_found HI.out HI'.out (by rw [← HN.out, ← HN'.out]) fun q hq => HF.out q (hperm.mem_iff.2 hq)))
        clear hperm
        go_wp2_with fail
        go_ret
        exact ⟨ret_bool HE.out.symm, HBx.out⟩
      · intro y A c l w3 hyl hyk hrow3 hrg3 hlt3 hg3 hnc3 hsz3 hen3
        have HB3 := Lib.hid (bel_turn HBx.out hg3 HIt.out HBx.out.size)
        have HR3 := Lib.hid (HR'.out.keep HB3.out)
        have HRow3 := Lib.hid hrow3
        have HRg3 := Lib.hid hrg3
        have HLt3 := Lib.hid hlt3
        have HYl := Lib.hid hyl
        have HYx := Lib.hid (HO.out.2 (y, l) hyl)
        have HKy := Lib.hid (show y ∈ r.map (·.1) from List.mem_map.2 ⟨_, hyl, rfl⟩)
        have HLk := Lib.hid (show lkR r y = l from HI.out.lk hyl)
        clear hyl hyk hrow3 hrg3 hlt3 hg3 hnc3 hsz3
        by_cases hyr : y ∈ r'.map (·.1)
        · have hd : decide (y ∈ r'.map (·.1)) = true := decide_eq_true hyr
          have HYr := Lib.hid hyr
          by_cases hll : l = lkR r' y
          · have HLl := Lib.hid hll
            clear hyr hll
            go_wp2_with (first
              | (at_lookup; refine wpList_lookR_ok _ rfl _ _ rfl b' r' (by go_simp) HR3.out y (by go_simp) HYx.out.1.1 HYx.out.1.2 ?_; rw [hd]; intro A2 c2 l2 hr2 he2; have HR2 := Lib.hid hr2; have HE2 := Lib.hid he2; have HEq := Lib.hid (by have h := EqualI_any l l2 A A2 l.length l2.length c c2 w3 rfl rfl HRow3.out.1 hr2.1 (by have := HYx.out.2; simp only at this; omega); rw [decide_eq_true (by rw [he2]; exact HLl.out : l = l2)] at h; exact h); clear hr2 he2)
              | (go_at_call 78; refine HEq.out.mono ?_; clear HEq; rintro e w4 ⟨rfl, hb4⟩; have HB4 := Lib.hid hb4; clear hb4))
            go_roundw
            case rel => exact ⟨done ++ [(y, l)], Lib.hid (HRg3.out.keep HB4.out), Lib.hid (HB3.out.andThen HB4.out), Lib.hid fun q hq => by
              rcases List.mem_append.1 hq with h | h
              · exact HF.out q h
              · rw [List.mem_singleton.1 h]; exact ⟨HYr.out, HLl.out.symm⟩⟩
            case measure =>
              have h1 : w4.rangeLeft b it = w3.rangeLeft b it := by
                have e1 := HB4.out.block b HRg3.out.row.lt
                have e2 := HB4.out.block it HRg3.out.lti
                unfold World.rangeLeft
                rw [e1, e2]
              rw [h1]
              exact HLt3.out
          · have HNe := Lib.hid (show decide (r = r') = false from decide_eq_false fun e => hll (by rw [← e, HLk.out]))
            have HLl := Lib.hid hll
            clear hyr hll
            go_wp2_with (first
              | (at_lookup; refine wpList_lookR_ok _ rfl _ _ rfl b' r' (by go_simp) HR3.out y (by go_simp) HYx.out.1.1 HYx.out.1.2 ?_; rw [hd]; intro A2 c2 l2 hr2 he2; have HR2 := Lib.hid hr2; have HE2 := Lib.hid he2; have HEq := Lib.hid (by have h := EqualI_any l l2 A A2 l.length l2.length c c2 w3 rfl rfl HRow3.out.1 hr2.1 (by have := HYx.out.2; simp only at this; omega); rw [decide_eq_false (by rw [he2]; exact HLl.out : ¬ l = l2)] at h; exact h); clear hr2 he2)
              | (go_at_call 78; refine HEq.out.mono ?_; clear HEq; rintro e w4 ⟨rfl, hb4⟩; have HB4 := Lib.hid hb4; clear hb4))
            go_ret
            exact ⟨ret_bool HNe.out.symm, HB3.out.andThen HB4.out⟩
        · have hd : decide (y ∈ r'.map (·.1)) = false := decide_eq_false hyr
          have HNe := Lib.hid (show decide (r = r') = false from decide_eq_false fun e => hyr (by rw [← e]; exact HKy.out))
          clear hyr
          go_wp2_with (at_lookup; refine wpList_lookR_ok _ rfl _ _ rfl b' r' (by go_simp) HR3.out y (by go_simp) HYx.out.1.1 HYx.out.1.2 ?_; rw [hd]; intro A2 c2 l2 hr2 he2; clear hr2 he2)
          go_ret
          exact ⟨ret_bool HNe.out.symm, HB3.out⟩
  · have hne : ((n : Int) != (n' : Int)) = true := by simp; omega
    have HNe := Lib.hid (show decide (r = r') = false from decide_eq_false fun e => hnn (by rw [HN.out, HN'.out, e]))
    clear hnn
    go_wp2_with (first
      | (at_len; refine wpList_lenR _ rfl _ rfl b r rfl HR.out ?_; rw [← HN.out])
      | (at_len; refine wpList_lenR _ rfl _ rfl b' r' rfl HR'.out ?_; rw [← HN'.out]))
    go_ret
    exact ⟨ret_bool HNe.out.symm, Below.refl _ _⟩
theorem Same1_any (b b' : Nat) (r r' : Rw) (w : World) (hr : MRow w b r) (hr' : MRow w b' r') (ho : RwOK r) (ho' : RwOK r') :
    Calls Tryz.prog 76 #[.map (some b), .map (some b')] w fun e w' => e = .returned (.bool (decide (r = r'))) ∧ Below w.heap.size w w' := by
  have HM := Lib.hid (MapEq_any b b' r r' w hr hr' ho ho')
  generalize decide (r = r') = q at *
  clear hr hr' ho ho'
  go_enter Tryz.func76, Tryz.ntmps76
  go_wp2_with (go_at_call 77; refine HM.out.mono ?_; clear HM; rintro e w1 ⟨rfl, hb⟩; have HB := Lib.hid hb; clear hb)
  go_ret
  exact ⟨rfl, HB.out⟩

theorem odC_keep {w w' : World} {p : Nat} {od : List Rw} {R : Option Addr} {n c : Nat} {bs : List Nat} (h : OdC w p od R n c bs) (hb : Below w.heap.size w w') : OdC w' p od R n c bs := by
  obtain ⟨h1, h2, h3, h4, h5, h6, h7⟩ := h
  exact ⟨h1.keep hb, h2, h3, h4, h5.keep hb, h6, fun i b r hb' hr => (h7 i b r hb' hr).keep hb⟩

set_option maxHeartbeats 4000000 in
theorem EqF_any (p p' : Nat) (od od' : List Rw) (R R' : Option Addr) (n n' c c' : Nat) (bs bs' : List Nat) (w : World) (h : OdC w p od R n c bs) (h' : OdC w p' od' R' n' c' bs') (hn : n ≤ 1000) (ho : ∀ r ∈ od, RwOK r) (ho' : ∀ r ∈ od', RwOK r) :
    Calls Tryz.prog 75 #[.slice R n c, .slice R' n' c', .func (.func 76) #[] #[]] w fun e w' => e = .returned (.bool (decide (od = od'))) ∧ Below w.heap.size w w' := by
  obtain ⟨_, hl, hbl, _, hs, _, hrow⟩ := h
  obtain ⟨_, hl', hbl', _, hs', _, hrow'⟩ := h'
  have HS := Lib.hid hs
  have HS' := Lib.hid hs'
  have HL := Lib.hid hl
  have HL' := Lib.hid hl'
  have HBl := Lib.hid hbl
  have HBl' := Lib.hid hbl'
  have HRo := Lib.hid hrow
  have HRo' := Lib.hid hrow'
  have HOk := Lib.hid ho
  have HOk' := Lib.hid ho'
  clear hs hs' hl hl' hbl hbl' hrow hrow' ho ho'
  go_enter Tryz.func75, Tryz.ntmps75
  by_cases hnn : n = n'
  · subst hnn
    have hne : ((n : Int) != (n : Int)) = false := by simp
    go_wp2_with fail
    go_loopw [17] (fun iv wr => ∃ i : Nat, i ≤ n ∧ iv = .int .i64 (i : Int) ∧ Hid (od.take i = od'.take i) ∧ Hid (Below w.heap.size w wr)) (fun iv _ => n - (intOf iv).toNat)
    case atStart => exact ⟨0, Nat.zero_le _, rfl, Lib.hid rfl, Lib.hid (Below.refl _ _)⟩
    case round =>
      obtain ⟨i, hi, rfl, HE, HB⟩ := hrel
      by_cases hlt : i < n
      · have hlt' : (i : Int) < (n : Int) := by omega
        have hi0 : (0 : Int) ≤ (i : Int) := by omega
        obtain ⟨b, hb⟩ : ∃ b, bs[i]? = some b := ⟨_, List.getElem?_eq_getElem (by rw [HBl.out]; exact hlt)⟩
        obtain ⟨b', hb'⟩ : ∃ b', bs'[i]? = some b' := ⟨_, List.getElem?_eq_getElem (by rw [HBl'.out]; exact hlt)⟩
        obtain ⟨r, hr⟩ : ∃ r, od[i]? = some r := ⟨_, List.getElem?_eq_getElem (by rw [HL.out]; exact hlt)⟩
        obtain ⟨r', hr'⟩ : ∃ r', od'[i]? = some r' := ⟨_, List.getElem?_eq_getElem (by rw [HL'.out]; exact hlt)⟩
        obtain ⟨g, off, rfl, _⟩ := HS.out.at_ (show 0 < n by omega)
        obtain ⟨g', off', rfl, _⟩ := HS'.out.at_ (show 0 < n by omega)
        have c1 := (HS.out.keep HB.out).again hlt (show (bs.map fun b => Value.map (some b))[i]? = some (.map (some b)) by rw [List.getElem?_map, hb]; rfl)
        have c2 := (HS'.out.keep HB.out).again hlt (show (bs'.map fun b => Value.map (some b))[i]? = some (.map (some b')) by rw [List.getElem?_map, hb']; rfl)
        have HSm := Lib.hid (Same1_any b b' r r' wr ((HRo.out i b r hb hr).keep HB.out) ((HRo'.out i b' r' hb' hr').keep HB.out) (HOk.out r (List.mem_of_getElem? hr)) (HOk'.out r' (List.mem_of_getElem? hr')))
        have HT := Lib.hid (show od.take (i + 1) = od.take i ++ [r] ∧ od'.take (i + 1) = od'.take i ++ [r'] from by
          obtain ⟨h1, h2⟩ := List.getElem?_eq_some_iff.1 hr
          obtain ⟨h3, h4⟩ := List.getElem?_eq_some_iff.1 hr'
          exact ⟨by rw [List.take_succ_eq_append_getElem h1, h2], by rw [List.take_succ_eq_append_getElem h3, h4]⟩)
        have HNeq := Lib.hid (show r ≠ r' → od ≠ od' from fun h1 h2 => h1 (by rw [h2] at hr; exact Option.some.inj (hr.symm.trans hr')))
        clear hb hb' hr hr'
        by_cases hrr : r = r'
        · rw [decide_eq_true hrr] at HSm
          have HRr := Lib.hid hrr
          clear hrr
          go_wp2_with (go_at_call 76; refine HSm.out.mono ?_; clear HSm; rintro e w2 ⟨rfl, hb2⟩; have HB2 := Lib.hid hb2; clear hb2)
          go_roundw
          case rel => exact ⟨i + 1, by omega, by go_num, Lib.hid (by rw [HT.out.1, HT.out.2, HE.out, HRr.out]), Lib.hid (HB.out.andThen HB2.out)⟩
          case measure => simp [intOf]; omega
        · rw [decide_eq_false hrr] at HSm
          have HF := Lib.hid (show decide (od = od') = false from decide_eq_false (HNeq.out hrr))
          clear hrr
          go_wp2_with (go_at_call 76; refine HSm.out.mono ?_; clear HSm; rintro e w2 ⟨rfl, hb2⟩; have HB2 := Lib.hid hb2; clear hb2)
          go_ret
          exact ⟨ret_bool HF.out.symm, HB.out.andThen HB2.out⟩
      · obtain rfl : i = n := by omega
        have hlt' : ¬ (i : Int) < (i : Int) := by omega
        have HF := Lib.hid (show decide (od = od') = true from decide_eq_true (by
          have h := HE.out
          rw [List.take_of_length_le (by rw [HL.out]; exact Nat.le_refl _), List.take_of_length_le (by rw [HL'.out]; exact Nat.le_refl _)] at h
          exact h))
        go_wp2_with fail
        go_ret
        exact ⟨ret_bool HF.out.symm, HB.out⟩
  · have hne : ((n : Int) != (n' : Int)) = true := by simp; omega
    have HF := Lib.hid (show decide (od = od') = false from decide_eq_false fun e => hnn (by rw [← HL.out, ← HL'.out, e]))
    clear hnn
    go_wp2_with fail
    go_ret
    exact ⟨ret_bool HF.out.symm, Below.refl _ _⟩

set_option maxHeartbeats 4000000 in
theorem OdSame_any (p p' : Nat) (od od' : List Rw) (w : World) (h : OdM w p od) (h' : OdM w p' od') (hn : od.length ≤ 1000) (ho : ∀ r ∈ od, RwOK r) (ho' : ∀ r ∈ od', RwOK r) :
    Calls Tryz.prog 31 #[.pointer (some ⟨p, 0, none⟩), .pointer (some ⟨p', 0, none⟩)] w fun e w' => e = .returned (.bool (decide (od = od'))) ∧ Below w.heap.size w w' := by
  obtain ⟨R, n, c, bs, hc⟩ := h
  obtain ⟨R', n', c', bs', hc'⟩ := h'
  have d0 := hc.1.cell 0
  have d1 := hc'.1.cell 0
  simp at d0 d1
  have hd : Below w.heap.size w w.drew := bel_drewN (Below.refl _ _) 1
  have HEq := Lib.hid (EqF_any p p' od od' R R' n n' c c' bs bs' w.drew (odC_keep hc hd) (odC_keep hc' hd) (by rw [← hc.2.1]; exact hn) ho ho')
  have HKc := Lib.hid (show ∀ V, Below w.drew.heap.size w.drew V → V.cell? ⟨p, 0, none⟩ = some (.slice R n c) ∧ V.cell? ⟨p', 0, none⟩ = some (.slice R' n' c') from fun V hb => ⟨(hb.cell (p := ⟨p, 0, none⟩) (World.block_lt_of_cell? w _ d0)).trans d0, (hb.cell (p := ⟨p', 0, none⟩) (World.block_lt_of_cell? w _ d1)).trans d1⟩)
  generalize decide (od = od') = q at *
  clear hc hc' hd hn ho ho'
  go_enter Tryz.func31, Tryz.ntmps31
  go_wp2_with fail
  go_region_held3 (fun w' => w'.cell? ⟨p, 0, none⟩ = some (.slice R n c) ∧ w'.cell? ⟨p', 0, none⟩ = some (.slice R' n' c')) (go_keep)
    ((go_at_call 75; refine HEq.out.mono ?_; clear HEq; rintro e' w3 ⟨rfl, hb⟩; have zz := HKc.out _ hb; have HB := Lib.hid hb; clear hb))
  go_wp2_with fail
  go_ret
  exact ⟨rfl, (bel_drewN (Below.refl w.heap.size w) 1).andThen HB.out⟩
end Go.Proofs.YtmonepclhbappaaGreatDoor
/-
  Ranks: At where there is no such rank, At and Rank of nothing.
-/
namespace Go.Proofs.YtmonepclhbappaaGreatDoor
open Go.RowKit Go.Maps
set_option maxRecDepth 100000
set_option linter.unusedVariables false

end Go.Proofs.YtmonepclhbappaaGreatDoor
/-
  Ranks: Each, where there is nothing to tell.
-/
namespace Go.Proofs.YtmonepclhbappaaGreatDoor
open Go.RowKit Go.Maps
set_option maxRecDepth 100000
set_option linter.unusedVariables false

abbrev RowE := Option Addr × Nat × List Int
end Go.Proofs.YtmonepclhbappaaGreatDoor
/-
  What a round of a range over a function leaves be: all below a place, and, from another place on, cells that are no rows of rows.
-/
namespace Go.Proofs.YtmonepclhbappaaGreatDoor
open Go.RowKit
set_option linter.unusedVariables false

def KT (n₀ n₂ : Nat) (W W' : World) : Prop := Below n₀ W W' ∧ ∀ k cs t fr, n₂ ≤ k → t ≠ 22 → W.heap[k]? = some (.cells cs t fr) → W'.heap[k]? = some (.cells cs t fr)
section
variable {n₀ n₂ : Nat} {A B C W W' : World}
theorem KT.refl (n₀ n₂ : Nat) (W : World) : KT n₀ n₂ W W := ⟨Below.refl _ _, fun _ _ _ _ _ _ h => h⟩
theorem KT.trans (h : KT n₀ n₂ A B) (k : KT n₀ n₂ B C) : KT n₀ n₂ A C := ⟨h.1.trans k.1, fun j cs t fr hj ht ho => k.2 j cs t fr hj ht (h.2 j cs t fr hj ht ho)⟩
theorem KT.of_below (h : Below W.heap.size W W') (hn : n₀ ≤ W.heap.size) : KT n₀ n₂ W W' := ⟨h.mono hn, fun k cs t fr _ _ ho => (h.block k (Array.getElem?_eq_some_iff.1 ho).1).trans ho⟩
theorem KT.putObj {l : Nat} {o : Obj} (o' : Obj) (hn : n₀ ≤ l) (hl : W.heap[l]? = some o) (ho : o.isCells = false) : KT n₀ n₂ W (W.putObj l o') := by
  have hg := grownBy_putObj' W l o'
  refine ⟨⟨hg.os, hg.tape, hg.output, hg.size, fun k hk => World.putObj_heap_other (by omega)⟩, fun k cs t fr _ _ hk => ?_⟩
  by_cases e : k = l
  · subst e
    rw [hl] at hk
    cases hk
    cases ho
  · exact (World.putObj_heap_other e).trans hk
theorem KT.set {b j : Nat} (u : Value) (h0 : n₀ ≤ b) (h2 : b < n₂) : KT n₀ n₂ W (W.setCell ⟨b, j, none⟩ u) :=
  ⟨bel_set (Below.refl _ _) (p := ⟨b, j, none⟩) h0 u, fun k cs t fr hk _ ho => (Below.heap_setCell W ⟨b, j, none⟩ u k (fun e => by have e' : k = b := e; omega)).trans ho⟩
theorem KT.blk {g : Nat} {t : TypeId} {cs : Array Value} (h : KT n₀ n₂ W W') (hb : Blk W g t cs) (hg : n₂ ≤ g) (ht : t ≠ 22) : Blk W' g t cs := h.2 g cs t (0, 0) hg ht hb
theorem KT.own {n B0 : Nat} {v : Value} {xs : List Value} {e : TypeId} (h : KT n₀ n₂ W W') (hb : W.ownsRow B0 e 1 v n xs) (hg : n₂ ≤ B0) (he : e ≠ 22) : W'.ownsRow B0 e 1 v n xs := by
  refine ⟨hb.1, ?_⟩
  rcases hb.2 with h' | ⟨g, cap, cur, rfl, h1, h2, h3⟩
  · exact .inl h'
  · exact .inr ⟨g, cap, cur, rfl, h1, h.2 g _ _ _ (by omega) he h2, h3⟩
end
/-- A slice of ints that lies below n₀, or from n₂ on in a row of ints. -/
def SnT (n₀ n₂ : Nat) (W : World) (A : Option Addr) (n : Nat) (xs : List Value) : Prop := Sl W 1 A n xs ∧ ∀ x : Addr, A = some x → x.block < n₀ ∨ (n₂ ≤ x.block ∧ ∃ cs fr, W.heap[x.block]? = some (.cells cs 3 fr))
theorem SnT.keep {n₀ n₂ : Nat} {W W' : World} {A : Option Addr} {n : Nat} {xs : List Value} (h : SnT n₀ n₂ W A n xs) (hk : KT n₀ n₂ W W') : SnT n₀ n₂ W' A n xs := by
  refine ⟨⟨h.1.1, fun hn => ?_⟩, fun x hx => ?_⟩
  · obtain ⟨b, off, rfl, h2⟩ := h.1.2 hn
    refine ⟨b, off, rfl, fun j v hj => ?_⟩
    have h3 := h2 j v hj
    rcases h.2 _ rfl with h4 | ⟨h4, cs, fr, h5⟩
    · exact (hk.1.cell (p := ⟨b, off + j, none⟩) h4).trans h3
    · have h6 := hk.2 b cs _ fr h4 (by decide) h5
      exact (World.cell?_of_block (w := W) (a := ⟨b, off + j, none⟩) (h6.trans h5.symm)).trans h3
  · rcases h.2 x hx with h4 | ⟨h4, cs, fr, h5⟩
    · exact .inl h4
    · exact .inr ⟨h4, cs, fr, hk.2 _ cs _ fr h4 (by decide) h5⟩
theorem SnT.nil (n₀ n₂ : Nat) (W : World) : SnT n₀ n₂ W none 0 [] := ⟨Sl.nil _ _ _, fun x h => by cases h⟩
theorem SnT.of_own {n₀ n₂ B0 n c : Nat} {W : World} {A : Option Addr} {xs : List Value} (h : W.ownsRow B0 3 1 (.slice A n c) n xs) (hB : n₂ ≤ B0) : SnT n₀ n₂ W A n xs := by
  refine ⟨Sl.of_own h, fun x hx => ?_⟩
  subst hx
  rcases h.2 with ⟨h1, _⟩ | ⟨g, cap, cur, h1, h2, h3, _⟩
  · cases h1
  · cases h1
    exact .inr ⟨Nat.le_trans hB h2, cur, _, h3⟩
end Go.Proofs.YtmonepclhbappaaGreatDoor
/-
  Ranks: Each: the paths of a part come one by one.
-/
namespace Go.Proofs.YtmonepclhbappaaGreatDoor
open Go.RowKit Go.Shelf Go.Maps
attribute [local go_sem] Oper.semAt_some
set_option maxRecDepth 100000
set_option linter.unusedVariables false

theorem room_noneE {F : Fence} (hd : F.depth = none) (k : Nat) : F.room k := fun d h => by rw [hd] at h; cases h
theorem roundIn_anyE {F : Fence} (hd : F.depth = none) {m m' : Nat} {P : Program} {l : Nat} {f : FuncId} {tmps : Array Value} {assign body : Code} {w : World} {R : Ending → World → Prop}
    (h : RoundIn F m P l f tmps assign body w R) : RoundIn F m' P l f tmps assign body w R := ⟨h.1, fun c cs _ => h.2 c cs (room_noneE hd _)⟩
theorem yieldAt_anyE {F : Fence} (hd : F.depth = none) {m : Nat} (m' : Nat) {P : Program} {l : Nat} {args : Array Value} {W : World} {R : Ending → World → Prop} (h : YieldAt F m P l args W R) : YieldAt F m' P l args W R := by
  obtain ⟨fn, tmps, assign, body, hy, hR⟩ := h
  exact ⟨fn, tmps, assign, body, hy, roundIn_anyE hd hR⟩

/-- What a round knows of the row that it is handed: a new one, the next of the list. -/
def KnE (n₁ : Nat) (G : List (List Int)) (pre : List RowE) (x : RowE) (W : World) : Prop :=
  W.ownsRow n₁ 3 1 (rv x) x.2.2.length (x.2.2.map (Value.int .i64)) ∧ G[pre.length]? = some x.2.2
theorem knE_put {n₁ : Nat} {G : List (List Int)} (pre : List RowE) (x : RowE) (W : World) (l : Nat) (o o' : Obj) (hl : W.heap[l]? = some o) (ho : o.isCells = false) (h : KnE n₁ G pre x W) : KnE n₁ G pre x (W.putObj l o') := ⟨ownsRow_putObj h.1 o' hl ho, h.2⟩
/-- The paths of a part. -/
def partP (od : List Rw) (f t : Int) : List (List Int) := ((allP od).take (min t (totP od)).toNat).drop (max f 0).toNat
theorem partP_at {od : List Rw} {f t : Int} {i : Nat} (h : (max f 0).toNat + i < (min t (totP od)).toNat) : ∃ P, (allP od)[(max f 0).toNat + i]? = some P ∧ (partP od f t)[i]? = some P := by
  have hl : (max f 0).toNat + i < (allP od).length := by unfold totP at h; omega
  refine ⟨(allP od)[(max f 0).toNat + i], List.getElem?_eq_getElem hl, ?_⟩
  unfold partP
  rw [List.getElem?_drop, List.getElem?_take, if_pos h, List.getElem?_eq_getElem hl]
theorem partP_len (od : List Rw) (f t : Int) : (partP od f t).length = (min t (totP od)).toNat - (max f 0).toNat := by
  unfold partP
  rw [List.length_drop, List.length_take]
  unfold totP
  omega

end Go.Proofs.YtmonepclhbappaaGreatDoor
/-
  Boxes (variables that lie in blocks) and rows under what an iterator may turn.
-/
namespace Go.Proofs.YtmonepclhbappaaGreatDoor
open Go.RowKit
set_option linter.unusedVariables false
theorem own_notNC2 {w : World} {b B size n : Nat} {e : TypeId} {v : Value} {xs : List Value} (h : w.ownsRow B e size v n xs) (hm : NC w b) : some b ≠ v.ownBlock := fun e1 => by
  obtain ⟨_, h2⟩ := h
  obtain ⟨o, h3, h4⟩ := hm
  rcases h2 with ⟨rfl, _⟩ | ⟨g', cap, cur, rfl, _, h5, _⟩
  · cases e1
  · cases e1
    rw [h3] at h5
    cases h5
    cases h4
section
variable {A B : World} {row : Option Nat}
abbrev NonCell (A : World) (row : Option Nat) : Prop := ∀ r, row = some r → ∃ o : Obj, A.heap[r]? = some o ∧ o.isCells = false
theorem blk_gb {g : Nat} {t : TypeId} {cs : Array Value} (h : Blk A g t cs) (hg : A.grownBy B row) (hr : NonCell A row) : Blk B g t cs := h.grown hg fun e => by
  obtain ⟨o, h1, h2⟩ := hr g e.symm
  unfold Blk at h
  rw [h] at h1
  cases h1
  cases h2
theorem sl_gb {n : Nat} {C : Option Addr} {xs : List Value} (h : Sl A 1 C n xs) (hg : A.grownBy B row) (hr : NonCell A row) : Sl B 1 C n xs := by
  refine ⟨h.1, fun hn => ?_⟩
  obtain ⟨b, off, rfl, h2⟩ := h.2 hn
  refine ⟨b, off, rfl, fun j v hj => ?_⟩
  have hc := h2 j v hj
  refine (World.cell?_of_block (w := A) (a := ⟨b, off + j, none⟩) (hg.block b (World.block_lt_of_cell? A _ hc) fun e => ?_)).trans hc
  obtain ⟨o, h3, h4⟩ := hr b e.symm
  exact NC.cell ⟨o, h3, h4⟩ hc rfl
theorem row_gb {t : Option Addr × Nat × List Int} (h : RowOK A t) (hg : A.grownBy B row) (hr : NonCell A row) : RowOK B t := ⟨sl_gb h.1 hg hr, h.2⟩
theorem own_gb {B0 n : Nat} {e : TypeId} {v : Value} {xs : List Value} (h : A.ownsRow B0 e 1 v n xs) (hg : A.grownBy B row) (hr : NonCell A row) : B.ownsRow B0 e 1 v n xs :=
  own_block h fun g hv => hg.block g (h.lt g hv).2 fun e1 => by
    obtain ⟨o, h3, h4⟩ := hr g e1.symm
    exact own_notNC2 h ⟨o, h3, h4⟩ hv.symm
theorem rows_gb {v : Value} {its : List (Option Addr × Nat × List Int)} (h : RowsOK A v its) (hg : A.grownBy B row) (hr : NonCell A row) : RowsOK B v its := fun t ht => ⟨row_gb (h t ht).1 hg hr, fun x hx => ⟨Nat.lt_of_lt_of_le ((h t ht).2 x hx).1 hg.size, ((h t ht).2 x hx).2⟩⟩
theorem bel_gb {n₀ : Nat} {w0 : World} (h : Below n₀ w0 A) (hn : n₀ ≤ w0.heap.size) (hg : A.grownBy B row) (hr : ∀ r, row = some r → n₀ ≤ r) : Below n₀ w0 B := h.grown hg (Nat.le_trans hn h.size) fun k e => hr k e
/-- What a law holds while a range over a function goes on, kept by what the iterator does. -/
theorem ownFrom_of {β : Type} {n : Nat} {I : β → World → Prop} (h : ∀ s A B row, I s A → A.grownBy B row → NonCell A row → (∀ r, row = some r → n ≤ r) → I s B) : OwnFrom n I := fun s A B row hs hg hr => h s A B row hs hg (fun r e => (hr r e).2) (fun r e => (hr r e).1)
theorem ko_belowE {W W' : World} (hb : Below W.heap.size W W') : KeepsOthers W W' := ⟨hb.size, fun k o hk _ => (hb.block k (Array.getElem?_eq_some_iff.1 hk).1).trans hk⟩
/-- A row of ints behind a store into another block. -/
theorem sl_far {W : World} {n : Nat} {C : Option Addr} {xs : List Value} (h : Sl W 1 C n xs) {p : Addr} (hp : ∀ a : Addr, C = some a → a.block ≠ p.block) (u : Value) : Sl (W.setCell p u) 1 C n xs := by
  refine ⟨h.1, fun hn => ?_⟩
  obtain ⟨b, off, rfl, h2⟩ := h.2 hn
  refine ⟨b, off, rfl, fun j v hj => ?_⟩
  have hc := h2 j v hj
  exact (World.cell?_of_block (w := W) (a := ⟨b, off + j, none⟩) (Below.heap_setCell W p u b (hp _ rfl))).trans hc
end
/-- append in a fence: what the row was is known, what changes is that row alone. -/
theorem wpListIn_cat_at {F : Fence} {k : Nat} {P : Program} {ops : Array Oper} {rest : List Oper} {o : Oper} {a : Act} {Q : Exit → Act → World → Prop} {t e : TypeId} {z : Value} {size bytes : Nat} (E : Elem P t e z size bytes) {B : Nat} {W : World} (s x : Operand)
    (hgd : o.guard = none) (ho : o.op = .call { callee := .builtin .append, args := #[s, x], argTypes := #[t, t] })
    {v : Value} {n : Nat} {xs : List Value} (hown : W.ownsRow B e size v n xs) (hB : B ≤ W.heap.size)
    {A : Option Addr} {m c : Nat} {ys : List Value} (hy : Sl W size A m ys)
    (hs : a.eval s = v) (hx : a.eval x = .slice A m c) (h1 : ∀ u ∈ ys, u.oneCell' = true)
    (hlim : (n + m) * bytes ≤ lim) (hlim' : n + m ≤ lim)
    (h : ∀ v' w', w'.ownsRow B e size v' (n + m) (xs ++ ys) → Gr W w' v v' → wpListIn F k P ops Q rest (a.put o.dst v') w') : wpListIn F k P ops Q (o :: rest) a W := by
  obtain ⟨v', w', hr, h2, h3⟩ := run_cat_at (P := P) (ty := o.type) (c := c) E hown hB hy h1 hlim hlim'
  refine wpListIn_plain hgd fun K hK' => ?_
  unfold Oper.wpIn
  refine ⟨?_, ?_⟩
  · simp [Oper.about, ho, resolve, Target.leads, Sem.run_pure]
  · rw [Oper.semAt_plain F _ _ (by rw [ho]; intro c hc'; cases hc')]
    simp [execOp, ho, resolve, invoke, builtin, hs, hx, hr, Result.andThen]
    exact hK' _ _ (h v' w' h2 h3)
theorem KT.cat {n₀ n₂ B n : Nat} {W W' : World} {v v' : Value} {xs : List Value} (hown : W.ownsRow B 22 1 v n xs) (hg : Gr W W' v v') (h0 : n₀ ≤ W.heap.size) (hB : n₀ ≤ B) : KT n₀ n₂ W W' := by
  refine ⟨hg.below h0 fun k hk => Nat.le_trans hB (hown.lt k hk).1, fun k cs t fr _ ht hk => (hg.g.block k (Array.getElem?_eq_some_iff.1 hk).1 fun e => ?_).trans hk⟩
  rcases hown.2 with ⟨rfl, _⟩ | ⟨g', cap, cur, rfl, _, h5, _⟩
  · simp [Value.ownBlock] at e
  · obtain rfl : k = g' := by simpa [Value.ownBlock] using e
    rw [hk] at h5
    injection h5 with h5
    injection h5 with _ h6
    exact ht h6
theorem ko_cat {B n size : Nat} {e : TypeId} {W W' : World} {v v' : Value} {xs : List Value} (hown : W.ownsRow B e size v n xs) (hg : Gr W W' v v') : KeepsOthers W W' :=
  KeepsOthers.of_grownBy hg.g fun j o ej hj => by
    rcases hown.2 with ⟨rfl, _⟩ | ⟨g', cap, cur, rfl, _, h5, _⟩
    · simp [Value.ownBlock] at ej
    · obtain rfl : g' = j := by simpa [Value.ownBlock] using ej
      rw [h5] at hj
      injection hj with hj
      rw [← hj]
      rfl
end Go.Proofs.YtmonepclhbappaaGreatDoor
