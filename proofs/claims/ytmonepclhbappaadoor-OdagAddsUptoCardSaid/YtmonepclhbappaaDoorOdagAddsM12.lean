/-
  Part 12 of the proof of OdagAdds: OdS, RankAt1, RankE, KeepT, RankG.
-/
import Derived.BigQuiet
import Derived.Maps.OwnSet
import Derived.Deep.RegionHeld3
import Derived.Test.YtmonepclhbappaaDoorOdagAddsM11
import Derived.Test.YtmonepclhbappaaDoorOdagAddsM10
import Derived.RangeFuncFrom
import Derived.Test.YtmonepclhbappaaDoorOdagAddsM9
import Derived.Test.YtmonepclhbappaaDoorOdagAddsM4
import Derived.Test.YtmonepclhbappaaDoorOdagAddsM3
import Derived.RangeFuncNested
import Derived.RangeFuncBound
import Derived.RangeFuncCalls
import Derived.RangeFuncLeaves
import Derived.Shelf.Abstract
import Derived.Shelf.RegionOpen
import Derived.OwnWalkIn
import Derived.TacticsInMore
import Derived.LoopNIn
import Derived.LoopIn
/-
  Odags: Same.
-/
namespace Go.Proofs.YtmonepclhbappaaDoor
open Go.RowKit Go.Maps
set_option maxRecDepth 100000
set_option linter.unusedVariables false

set_option maxHeartbeats 1000000 in
theorem EqualI_any (p q : List Int) (A B : Option Addr) (n m c d : Nat) (w : World) (hl : p.length = n) (hm : q.length = m) (hs : Sl w 1 A n (p.map (Value.int .i64))) (ht : Sl w 1 B m (q.map (Value.int .i64))) (hn : n ≤ 9223372036854775806) :
    Calls Tryd.prog 66 #[.slice A n c, .slice B m d] w fun e w' => e = .returned (.bool (decide (p = q))) ∧ Below w.heap.size w w' := by
  go_enter Tryd.func66, Tryd.ntmps66
  by_cases hnm : n = m
  · subst hnm
    go_wp2
    go_loopw [13] (fun i wr => ∃ k : Nat, k ≤ n ∧ i = .int .i64 k ∧ p.take k = q.take k ∧ Below w.heap.size w wr) (fun i _ => n - (intOf i).toNat)
    case atStart => exact ⟨0, Nat.zero_le _, rfl, rfl, Below.refl _ _⟩
    case round =>
      obtain ⟨k, hk, rfl, heq, hb⟩ := hrel
      by_cases hlt : k < n
      · have hj : k < p.length := by omega
        have hj' : k < q.length := by omega
        obtain ⟨b, off, u, rfl, e1, c1⟩ := (hs.keep hb).one hlt
        obtain ⟨b', off', u', rfl, e2, c2⟩ := (ht.keep hb).one hlt
        rw [List.getElem?_map, List.getElem?_eq_getElem hj] at e1
        rw [List.getElem?_map, List.getElem?_eq_getElem hj'] at e2
        obtain rfl := Option.some.inj e1
        obtain rfl := Option.some.inj e2
        have HT := Lib.hid (List.take_succ_eq_append_getElem hj)
        have HT' := Lib.hid (List.take_succ_eq_append_getElem hj')
        have HE := Lib.hid heq
        have HP := Lib.hid (fun h : p = q => (by subst h; rfl : p[k] = q[k]))
        generalize p[k] = x at *
        generalize q[k] = y at *
        clear e1 e2 heq hs ht
        by_cases hxy : x = y
        · subst hxy
          have hb0 : (x != x) = false := by simp
          go_wp2_with fail
          go_quiet (fail)
          go_wp2_with fail
          go_roundw
          case rel => exact ⟨k + 1, by omega, by go_num, by rw [HT.out, HT'.out, HE.out], bel_drewN hb _⟩
          case measure => simp [intOf]; omega
        · have hb1 : (x != y) = true := by simpa using hxy
          go_wp2_with fail
          go_quiet (fail)
          go_wp2_with fail
          go_ret
          exact ⟨ret_bool (decide_eq_false (fun h => hxy (HP.out h))).symm, bel_drewN hb _⟩
      · obtain rfl : k = n := by omega
        rw [List.take_of_length_le (by omega), List.take_of_length_le (by omega)] at heq
        have HE := Lib.hid heq
        clear heq hs ht
        go_wp2
        go_ret
        exact ⟨ret_bool (decide_eq_true HE.out).symm, hb⟩
  · have hne : p ≠ q := fun h => hnm (by rw [← hl, ← hm, h])
    have HN := Lib.hid hne
    have hb1 : ((n : Int) != (m : Int)) = true := by simp; omega
    clear hne hs ht
    go_wp2
    go_ret
    exact ⟨ret_bool (decide_eq_false HN.out).symm, Below.refl _ _⟩

/-- 'v, ok := r[a]'. -/
theorem wpList_lookR_ok {ops : Array Oper} {rest : List Oper} {o : Oper} {a : Act} {Q : Exit → Act → World → Prop} (w : World) (hg : o.guard = none) (m x : Operand) (hop : o.op = Op.lookup 101 m x true) (b : Nat) (r : Rw) (hm : a.eval m = .map (some b)) (hown : MRow w b r) (y : Int) (hx : a.eval x = .int .i64 y) (h1 : -9223372036854775808 ≤ y) (h2 : y ≤ 9223372036854775807)
    (hK : ∀ (A : Option Addr) (c : Nat) (l : List Int), RowOK w (A, c, l) → l = lkR r y → wpList Tryd.prog ops Q rest (a.put o.dst (.tuple #[.slice A l.length c, .bool (decide (y ∈ r.map (·.1)))])) w) :
    wpList Tryd.prog ops Q (o :: rest) a w := by
  obtain ⟨me, rfl, hM, hR⟩ := hown
  obtain ⟨A, c, l, h3, h4, h5⟩ := MRow.look hR y
  have hM' : w.ownsMap Tryd.prog 3 rawR b (me.map mv).length (asD (me.map mv)) := hM
  refine wpList_lookup_own_ok w hg m x _ hop 3 22 (int_keyed kInt) Tryd.underlying101 rawR (show (zeroValue 22).run Tryd.prog w = .ok (.slice none 0 0) w by kernel_rfl) (.held (.slice none 0 0)) [] rfl b _ _ hm hM' _ _ hx (keyOf_int_mk kInt (lit_i64 h1 h2)) fun v ps hv => ?_
  rw [atKey_asD] at hv
  have e1 : v = (atI (me.map mv) y).getD (.slice none 0 0) := by
    have := (Prod.mk.inj (Option.some.inj hv)).1
    exact DataW.held.inj this
  rw [e1, h5, has_asD]
  have e2 : (atI (me.map mv) y).isSome = decide (y ∈ (me.map pl).map (·.1)) := by
    have hkk : (me.map mv).map (·.1) = (me.map pl).map (·.1) := by rw [List.map_map, List.map_map]; rfl
    rw [← hkk]
    cases hat : atI (me.map mv) y with
    | none => rw [decide_eq_false (atI_none.1 hat)]; rfl
    | some v2 => rw [decide_eq_true (List.mem_map.2 ⟨_, atI_mem hat, rfl⟩)]; rfl
  rw [e2]
  exact hK A c l h3 h4
theorem wpList_lenR {ops : Array Oper} {rest : List Oper} {o : Oper} {a : Act} {Q : Exit → Act → World → Prop} (w : World) (hg : o.guard = none) (m : Operand) (hop : o.op = Op.call { callee := Callee.builtin Builtin.len, args := #[m], argTypes := #[101] }) (b : Nat) (r : Rw) (hm : a.eval m = .map (some b)) (hown : MRow w b r)
    (hK : wpList Tryd.prog ops Q rest (a.put o.dst (.int .i64 (r.length : Nat))) w) : wpList Tryd.prog ops Q (o :: rest) a w := by
  obtain ⟨me, rfl, hM, hR⟩ := hown
  have hM' : w.ownsMap Tryd.prog 3 rawR b (me.map mv).length (asD (me.map mv)) := hM
  refine wpList_len_own w hg m _ hop 3 22 Tryd.underlying101 rawR b _ _ hm hM' ?_
  have e : Maps.size (asD (me.map mv)) = (me.map pl).length := by unfold asD; rw [Maps.size_eq, List.length_map, List.length_map, List.length_map]
  rw [e]
  exact hK
/-- Rows whose numbers and links may be gone through. -/
def RwOK (r : Rw) : Prop := r.length ≤ 60000 ∧ ∀ q ∈ r, i64ok q.1 ∧ q.2.length ≤ 60000
theorem rw_found {r r' : Rw} (h : IncR r) (h' : IncR r') (hl : r.length = r'.length) (hf : ∀ q ∈ r, q.1 ∈ r'.map (·.1) ∧ lkR r' q.1 = q.2) : r = r' := by
  have hk1 : Inc (r.map (·.1)) := List.pairwise_map.2 h
  have hk2 : Inc (r'.map (·.1)) := List.pairwise_map.2 h'
  have hsub : ∀ x ∈ r.map (·.1), x ∈ r'.map (·.1) := fun x hx => by
    obtain ⟨q, hq, rfl⟩ := List.mem_map.1 hx
    exact (hf q hq).1
  have hback : ∀ x ∈ r'.map (·.1), x ∈ r.map (·.1) := fun x hx => by
    by_cases hc : x ∈ r.map (·.1)
    · exact hc
    · have h1 := sub_lenC (x :: r.map (·.1)) (r'.map (·.1)) (List.nodup_cons.2 ⟨hc, inc_nodup hk1⟩) (fun y hy => by
        rcases List.mem_cons.1 hy with rfl | hy
        · exact hx
        · exact hsub y hy)
      rw [List.length_cons, List.length_map, List.length_map] at h1
      omega
  refine rw_ext h h' (fun a => ⟨hsub a, hback a⟩) fun a => ?_
  by_cases ha : a ∈ r.map (·.1)
  · obtain ⟨q, hq, rfl⟩ := List.mem_map.1 ha
    rw [h.lk hq, (hf q hq).2]
  · rw [lkR_nokey ha, lkR_nokey (fun hc => ha (hback a hc))]

set_option maxHeartbeats 8000000 in
theorem MapEq_any (b b' : Nat) (r r' : Rw) (w : World) (hr : MRow w b r) (hr' : MRow w b' r') (ho : RwOK r) (ho' : RwOK r') :
    Calls Tryd.prog 65 #[.map (some b), .map (some b'), .func (.func 66) #[] #[]] w fun e w' => e = .returned (.bool (decide (r = r'))) ∧ Below w.heap.size w w' := by
  have HR := Lib.hid hr
  have HR' := Lib.hid hr'
  have HO := Lib.hid ho
  have HO' := Lib.hid ho'
  have HI := Lib.hid (show IncR r from hr.incr)
  have HI' := Lib.hid (show IncR r' from hr'.incr)
  obtain ⟨n, hn⟩ : ∃ n, n = r.length := ⟨_, rfl⟩
  obtain ⟨n', hn'⟩ : ∃ n', n' = r'.length := ⟨_, rfl⟩
  have HN := Lib.hid hn
  have HN' := Lib.hid hn'
  clear hr hr' ho ho' hn hn'
  go_enter Tryd.func65, Tryd.ntmps65
  by_cases hnn : n = n'
  · subst hnn
    have hne : ((n : Int) != (n : Int)) = false := by simp
    go_wp2_with (first
      | (at_len; refine wpList_lenR _ rfl _ rfl b r rfl HR.out ?_; rw [← HN.out])
      | (at_len; refine wpList_lenR _ rfl _ rfl b' r' rfl HR'.out ?_; rw [← HN'.out])
      | (at_range; refine wpList_rangeR _ rfl _ rfl b r rfl HR.out ?_; intro w2 hrg hb2 hs2; have HRg := Lib.hid hrg; have HB2 := Lib.hid hb2; clear hrg hb2 hs2))
    obtain ⟨it, hit⟩ : ∃ it, it = w.heap.size := ⟨_, rfl⟩
    have HIt := Lib.hid (show w.heap.size ≤ it from by omega)
    rw [← hit] at HRg ⊢
    clear hit hne
    go_wp2_with fail
    go_frame
    go_loopw [] (fun wx => ∃ done : Rw, Hid (RangesR wx b it r done) ∧ Hid (Below w.heap.size w wx) ∧ Hid (∀ q ∈ done, q.1 ∈ r'.map (·.1) ∧ lkR r' q.1 = q.2)) (fun wx => wx.rangeLeft b it)
    case atStart => exact ⟨[], HRg, HB2, Lib.hid fun q hq => by cases hq⟩
    case round =>
      clear HRg HB2
      obtain ⟨done, HRg, HBx, HF⟩ := hrel
      go_wp2_with (at_next; refine wpList_nextR _ rfl _ rfl b it _ done rfl HRg.out ?_ ?_)
      · intro hperm
        have HE := Lib.hid (show decide (r = r') = true from decide_eq_true (rw_found HI.out HI'.out (by rw [← HN.out, ← HN'.out]) fun q hq => HF.out q (hperm.mem_iff.2 hq)))
        clear hperm
        go_wp2_with fail
        go_ret
        exact ⟨ret_bool HE.out.symm, HBx.out⟩
      · intro y A c l w3 hyl hyk hrow3 hrg3 hlt3 hg3 hnc3 hsz3 hen3
        have HB3 := Lib.hid (bel_turn HBx.out hg3 HIt.out HBx.out.size)
        have HR3 := Lib.hid (HR'.out.keep HB3.out)
        have HRow3 := Lib.hid hrow3
        have HRg3 := Lib.hid hrg3
        have HLt3 := Lib.hid hlt3
        have HYl := Lib.hid hyl
        have HYx := Lib.hid (HO.out.2 (y, l) hyl)
        have HKy := Lib.hid (show y ∈ r.map (·.1) from List.mem_map.2 ⟨_, hyl, rfl⟩)
        have HLk := Lib.hid (show lkR r y = l from HI.out.lk hyl)
        clear hyl hyk hrow3 hrg3 hlt3 hg3 hnc3 hsz3
        by_cases hyr : y ∈ r'.map (·.1)
        · have hd : decide (y ∈ r'.map (·.1)) = true := decide_eq_true hyr
          have HYr := Lib.hid hyr
          by_cases hll : l = lkR r' y
          · have HLl := Lib.hid hll
            clear hyr hll
            go_wp2_with (first
              | (at_lookup; refine wpList_lookR_ok _ rfl _ _ rfl b' r' (by go_simp) HR3.out y (by go_simp) HYx.out.1.1 HYx.out.1.2 ?_; rw [hd]; intro A2 c2 l2 hr2 he2; have HR2 := Lib.hid hr2; have HE2 := Lib.hid he2; have HEq := Lib.hid (by have h := EqualI_any l l2 A A2 l.length l2.length c c2 w3 rfl rfl HRow3.out.1 hr2.1 (by have := HYx.out.2; simp only at this; omega); rw [decide_eq_true (by rw [he2]; exact HLl.out : l = l2)] at h; exact h); clear hr2 he2)
              | (go_at_call 66; refine HEq.out.mono ?_; clear HEq; rintro e w4 ⟨rfl, hb4⟩; have HB4 := Lib.hid hb4; clear hb4))
            go_roundw
            case rel => exact ⟨done ++ [(y, l)], Lib.hid (HRg3.out.keep HB4.out), Lib.hid (HB3.out.andThen HB4.out), Lib.hid fun q hq => by
              rcases List.mem_append.1 hq with h | h
              · exact HF.out q h
              · rw [List.mem_singleton.1 h]; exact ⟨HYr.out, HLl.out.symm⟩⟩
            case measure =>
              have h1 : w4.rangeLeft b it = w3.rangeLeft b it := by
                have e1 := HB4.out.block b HRg3.out.row.lt
                have e2 := HB4.out.block it HRg3.out.lti
                unfold World.rangeLeft
                rw [e1, e2]
              rw [h1]
              exact HLt3.out
          · have HNe := Lib.hid (show decide (r = r') = false from decide_eq_false fun e => hll (by rw [← e, HLk.out]))
            have HLl := Lib.hid hll
            clear hyr hll
            go_wp2_with (first
              | (at_lookup; refine wpList_lookR_ok _ rfl _ _ rfl b' r' (by go_simp) HR3.out y (by go_simp) HYx.out.1.1 HYx.out.1.2 ?_; rw [hd]; intro A2 c2 l2 hr2 he2; have HR2 := Lib.hid hr2; have HE2 := Lib.hid he2; have HEq := Lib.hid (by have h := EqualI_any l l2 A A2 l.length l2.length c c2 w3 rfl rfl HRow3.out.1 hr2.1 (by have := HYx.out.2; simp only at this; omega); rw [decide_eq_false (by rw [he2]; exact HLl.out : ¬ l = l2)] at h; exact h); clear hr2 he2)
              | (go_at_call 66; refine HEq.out.mono ?_; clear HEq; rintro e w4 ⟨rfl, hb4⟩; have HB4 := Lib.hid hb4; clear hb4))
            go_ret
            exact ⟨ret_bool HNe.out.symm, HB3.out.andThen HB4.out⟩
        · have hd : decide (y ∈ r'.map (·.1)) = false := decide_eq_false hyr
          have HNe := Lib.hid (show decide (r = r') = false from decide_eq_false fun e => hyr (by rw [← e]; exact HKy.out))
          clear hyr
          go_wp2_with (at_lookup; refine wpList_lookR_ok _ rfl _ _ rfl b' r' (by go_simp) HR3.out y (by go_simp) HYx.out.1.1 HYx.out.1.2 ?_; rw [hd]; intro A2 c2 l2 hr2 he2; clear hr2 he2)
          go_ret
          exact ⟨ret_bool HNe.out.symm, HB3.out⟩
  · have hne : ((n : Int) != (n' : Int)) = true := by simp; omega
    have HNe := Lib.hid (show decide (r = r') = false from decide_eq_false fun e => hnn (by rw [HN.out, HN'.out, e]))
    clear hnn
    go_wp2_with (first
      | (at_len; refine wpList_lenR _ rfl _ rfl b r rfl HR.out ?_; rw [← HN.out])
      | (at_len; refine wpList_lenR _ rfl _ rfl b' r' rfl HR'.out ?_; rw [← HN'.out]))
    go_ret
    exact ⟨ret_bool HNe.out.symm, Below.refl _ _⟩
theorem Same1_any (b b' : Nat) (r r' : Rw) (w : World) (hr : MRow w b r) (hr' : MRow w b' r') (ho : RwOK r) (ho' : RwOK r') :
    Calls Tryd.prog 64 #[.map (some b), .map (some b')] w fun e w' => e = .returned (.bool (decide (r = r'))) ∧ Below w.heap.size w w' := by
  have HM := Lib.hid (MapEq_any b b' r r' w hr hr' ho ho')
  generalize decide (r = r') = q at *
  clear hr hr' ho ho'
  go_enter Tryd.func64, Tryd.ntmps64
  go_wp2_with (go_at_call 65; refine HM.out.mono ?_; clear HM; rintro e w1 ⟨rfl, hb⟩; have HB := Lib.hid hb; clear hb)
  go_ret
  exact ⟨rfl, HB.out⟩

theorem odC_keep {w w' : World} {p : Nat} {od : List Rw} {R : Option Addr} {n c : Nat} {bs : List Nat} (h : OdC w p od R n c bs) (hb : Below w.heap.size w w') : OdC w' p od R n c bs := by
  obtain ⟨h1, h2, h3, h4, h5, h6, h7⟩ := h
  exact ⟨h1.keep hb, h2, h3, h4, h5.keep hb, h6, fun i b r hb' hr => (h7 i b r hb' hr).keep hb⟩

set_option maxHeartbeats 4000000 in
theorem EqF_any (p p' : Nat) (od od' : List Rw) (R R' : Option Addr) (n n' c c' : Nat) (bs bs' : List Nat) (w : World) (h : OdC w p od R n c bs) (h' : OdC w p' od' R' n' c' bs') (hn : n ≤ 1000) (ho : ∀ r ∈ od, RwOK r) (ho' : ∀ r ∈ od', RwOK r) :
    Calls Tryd.prog 63 #[.slice R n c, .slice R' n' c', .func (.func 64) #[] #[]] w fun e w' => e = .returned (.bool (decide (od = od'))) ∧ Below w.heap.size w w' := by
  obtain ⟨_, hl, hbl, _, hs, _, hrow⟩ := h
  obtain ⟨_, hl', hbl', _, hs', _, hrow'⟩ := h'
  have HS := Lib.hid hs
  have HS' := Lib.hid hs'
  have HL := Lib.hid hl
  have HL' := Lib.hid hl'
  have HBl := Lib.hid hbl
  have HBl' := Lib.hid hbl'
  have HRo := Lib.hid hrow
  have HRo' := Lib.hid hrow'
  have HOk := Lib.hid ho
  have HOk' := Lib.hid ho'
  clear hs hs' hl hl' hbl hbl' hrow hrow' ho ho'
  go_enter Tryd.func63, Tryd.ntmps63
  by_cases hnn : n = n'
  · subst hnn
    have hne : ((n : Int) != (n : Int)) = false := by simp
    go_wp2_with fail
    go_loopw [17] (fun iv wr => ∃ i : Nat, i ≤ n ∧ iv = .int .i64 (i : Int) ∧ Hid (od.take i = od'.take i) ∧ Hid (Below w.heap.size w wr)) (fun iv _ => n - (intOf iv).toNat)
    case atStart => exact ⟨0, Nat.zero_le _, rfl, Lib.hid rfl, Lib.hid (Below.refl _ _)⟩
    case round =>
      obtain ⟨i, hi, rfl, HE, HB⟩ := hrel
      by_cases hlt : i < n
      · have hlt' : (i : Int) < (n : Int) := by omega
        have hi0 : (0 : Int) ≤ (i : Int) := by omega
        obtain ⟨b, hb⟩ : ∃ b, bs[i]? = some b := ⟨_, List.getElem?_eq_getElem (by rw [HBl.out]; exact hlt)⟩
        obtain ⟨b', hb'⟩ : ∃ b', bs'[i]? = some b' := ⟨_, List.getElem?_eq_getElem (by rw [HBl'.out]; exact hlt)⟩
        obtain ⟨r, hr⟩ : ∃ r, od[i]? = some r := ⟨_, List.getElem?_eq_getElem (by rw [HL.out]; exact hlt)⟩
        obtain ⟨r', hr'⟩ : ∃ r', od'[i]? = some r' := ⟨_, List.getElem?_eq_getElem (by rw [HL'.out]; exact hlt)⟩
        obtain ⟨g, off, rfl, _⟩ := HS.out.at_ (show 0 < n by omega)
        obtain ⟨g', off', rfl, _⟩ := HS'.out.at_ (show 0 < n by omega)
        have c1 := (HS.out.keep HB.out).again hlt (show (bs.map fun b => Value.map (some b))[i]? = some (.map (some b)) by rw [List.getElem?_map, hb]; rfl)
        have c2 := (HS'.out.keep HB.out).again hlt (show (bs'.map fun b => Value.map (some b))[i]? = some (.map (some b')) by rw [List.getElem?_map, hb']; rfl)
        have HSm := Lib.hid (Same1_any b b' r r' wr ((HRo.out i b r hb hr).keep HB.out) ((HRo'.out i b' r' hb' hr').keep HB.out) (HOk.out r (List.mem_of_getElem? hr)) (HOk'.out r' (List.mem_of_getElem? hr')))
        have HT := Lib.hid (show od.take (i + 1) = od.take i ++ [r] ∧ od'.take (i + 1) = od'.take i ++ [r'] from by
          obtain ⟨h1, h2⟩ := List.getElem?_eq_some_iff.1 hr
          obtain ⟨h3, h4⟩ := List.getElem?_eq_some_iff.1 hr'
          exact ⟨by rw [List.take_succ_eq_append_getElem h1, h2], by rw [List.take_succ_eq_append_getElem h3, h4]⟩)
        have HNeq := Lib.hid (show r ≠ r' → od ≠ od' from fun h1 h2 => h1 (by rw [h2] at hr; exact Option.some.inj (hr.symm.trans hr')))
        clear hb hb' hr hr'
        by_cases hrr : r = r'
        · rw [decide_eq_true hrr] at HSm
          have HRr := Lib.hid hrr
          clear hrr
          go_wp2_with (go_at_call 64; refine HSm.out.mono ?_; clear HSm; rintro e w2 ⟨rfl, hb2⟩; have HB2 := Lib.hid hb2; clear hb2)
          go_roundw
          case rel => exact ⟨i + 1, by omega, by go_num, Lib.hid (by rw [HT.out.1, HT.out.2, HE.out, HRr.out]), Lib.hid (HB.out.andThen HB2.out)⟩
          case measure => simp [intOf]; omega
        · rw [decide_eq_false hrr] at HSm
          have HF := Lib.hid (show decide (od = od') = false from decide_eq_false (HNeq.out hrr))
          clear hrr
          go_wp2_with (go_at_call 64; refine HSm.out.mono ?_; clear HSm; rintro e w2 ⟨rfl, hb2⟩; have HB2 := Lib.hid hb2; clear hb2)
          go_ret
          exact ⟨ret_bool HF.out.symm, HB.out.andThen HB2.out⟩
      · obtain rfl : i = n := by omega
        have hlt' : ¬ (i : Int) < (i : Int) := by omega
        have HF := Lib.hid (show decide (od = od') = true from decide_eq_true (by
          have h := HE.out
          rw [List.take_of_length_le (by rw [HL.out]; exact Nat.le_refl _), List.take_of_length_le (by rw [HL'.out]; exact Nat.le_refl _)] at h
          exact h))
        go_wp2_with fail
        go_ret
        exact ⟨ret_bool HF.out.symm, HB.out⟩
  · have hne : ((n : Int) != (n' : Int)) = true := by simp; omega
    have HF := Lib.hid (show decide (od = od') = false from decide_eq_false fun e => hnn (by rw [← HL.out, ← HL'.out, e]))
    clear hnn
    go_wp2_with fail
    go_ret
    exact ⟨ret_bool HF.out.symm, Below.refl _ _⟩

set_option maxHeartbeats 4000000 in
theorem OdSame_any (p p' : Nat) (od od' : List Rw) (w : World) (h : OdM w p od) (h' : OdM w p' od') (hn : od.length ≤ 1000) (ho : ∀ r ∈ od, RwOK r) (ho' : ∀ r ∈ od', RwOK r) :
    Calls Tryd.prog 28 #[.pointer (some ⟨p, 0, none⟩), .pointer (some ⟨p', 0, none⟩)] w fun e w' => e = .returned (.bool (decide (od = od'))) ∧ Below w.heap.size w w' := by
  obtain ⟨R, n, c, bs, hc⟩ := h
  obtain ⟨R', n', c', bs', hc'⟩ := h'
  have d0 := hc.1.cell 0
  have d1 := hc'.1.cell 0
  simp at d0 d1
  have hd : Below w.heap.size w w.drew := bel_drewN (Below.refl _ _) 1
  have HEq := Lib.hid (EqF_any p p' od od' R R' n n' c c' bs bs' w.drew (odC_keep hc hd) (odC_keep hc' hd) (by rw [← hc.2.1]; exact hn) ho ho')
  have HKc := Lib.hid (show ∀ V, Below w.drew.heap.size w.drew V → V.cell? ⟨p, 0, none⟩ = some (.slice R n c) ∧ V.cell? ⟨p', 0, none⟩ = some (.slice R' n' c') from fun V hb => ⟨(hb.cell (p := ⟨p, 0, none⟩) (World.block_lt_of_cell? w _ d0)).trans d0, (hb.cell (p := ⟨p', 0, none⟩) (World.block_lt_of_cell? w _ d1)).trans d1⟩)
  generalize decide (od = od') = q at *
  clear hc hc' hd hn ho ho'
  go_enter Tryd.func28, Tryd.ntmps28
  go_wp2_with fail
  go_region_held3 (fun w' => w'.cell? ⟨p, 0, none⟩ = some (.slice R n c) ∧ w'.cell? ⟨p', 0, none⟩ = some (.slice R' n' c')) (go_keep)
    ((go_at_call 63; refine HEq.out.mono ?_; clear HEq; rintro e' w3 ⟨rfl, hb⟩; have zz := HKc.out _ hb; have HB := Lib.hid hb; clear hb))
  go_wp2_with fail
  go_ret
  exact ⟨rfl, (bel_drewN (Below.refl w.heap.size w) 1).andThen HB.out⟩
end Go.Proofs.YtmonepclhbappaaDoor
/-
  Ranks: At where there is no such rank, At and Rank of nothing.
-/
namespace Go.Proofs.YtmonepclhbappaaDoor
open Go.RowKit Go.Maps
set_option maxRecDepth 100000
set_option linter.unusedVariables false

theorem At_nil (n : Int) (w : World) : Calls Tryd.prog 38 #[.pointer none, .int .i64 n] w fun e w' => ∃ ev, e = .returned (.tuple #[.slice none 0 0, ev]) ∧ (Err.flt 10 0 ⟨#[114, 97, 110, 107, 115]⟩).At w' ev ∧ Below w.heap.size w w' := by
  go_enter Tryd.func38, Tryd.ntmps38
  go_wp2_with (go_at_call 44; refine (New_err _ _ _ _).mono ?_; rintro e w' ⟨v, rfl, hv, hb⟩; have HV := Lib.hid hv; have HB := Lib.hid hb; clear hv hb)
  go_ret2
  exact ⟨_, rfl, HV.out, HB.out⟩
theorem At_out (q p : Nat) (od : List Rw) (n : Int) (w : World) (h : RkM w q p od) (hn : n < 0 ∨ totP od ≤ n) : Calls Tryd.prog 38 #[.pointer (some ⟨q, 0, none⟩), .int .i64 n] w fun e w' => ∃ ev, e = .returned (.tuple #[.slice none 0 0, ev]) ∧ (Err.flt 3 0 ⟨#[114, 97, 110, 107]⟩).At w' ev ∧ Below w.heap.size w w' := by
  obtain ⟨mb, m, f, hq, _⟩ := h
  have c2 := hq.cell 2
  simp at c2
  clear hq
  by_cases h0 : n < 0
  · go_enter Tryd.func38, Tryd.ntmps38
    go_wp2_with (go_at_call 44; refine (New_err _ _ _ _).mono ?_; rintro e w' ⟨v, rfl, hv, hb⟩; have HV := Lib.hid hv; have HB := Lib.hid hb; clear hv hb)
    go_ret2
    exact ⟨_, rfl, HV.out, HB.out⟩
  · have h1 : totP od ≤ n := by omega
    clear hn
    go_enter Tryd.func38, Tryd.ntmps38
    go_wp2_with (go_at_call 44; refine (New_err _ _ _ _).mono ?_; rintro e w' ⟨v, rfl, hv, hb⟩; have HV := Lib.hid hv; have HB := Lib.hid hb; clear hv hb)
    go_ret2
    exact ⟨_, rfl, HV.out, HB.out⟩
theorem Rank_nil (A : Option Addr) (n c : Nat) (w : World) : Calls Tryd.prog 39 #[.pointer none, .slice A n c] w fun e w' => ∃ ev, e = .returned (.tuple #[.int .i64 0, ev]) ∧ (Err.flt 10 0 ⟨#[114, 97, 110, 107, 115]⟩).At w' ev ∧ Below w.heap.size w w' := by
  go_enter Tryd.func39, Tryd.ntmps39
  go_wp2_with (go_at_call 44; refine (New_err _ _ _ _).mono ?_; rintro e w' ⟨v, rfl, hv, hb⟩; have HV := Lib.hid hv; have HB := Lib.hid hb; clear hv hb)
  go_ret2
  exact ⟨_, rfl, HV.out, HB.out⟩
end Go.Proofs.YtmonepclhbappaaDoor
/-
  Ranks: Each, where there is nothing to tell.
-/
namespace Go.Proofs.YtmonepclhbappaaDoor
open Go.RowKit Go.Maps
set_option maxRecDepth 100000
set_option linter.unusedVariables false

theorem Each_any (o : Option Addr) (f t : Int) (w : World) : Calls Tryd.prog 32 #[.pointer o, .agg #[.int .i64 f, .int .i64 t]] w fun e w' =>
    e = .returned (.func (.func 71) #[] #[.pointer (some ⟨w.heap.size + 1, 0, none⟩), .pointer (some ⟨w.heap.size, 0, none⟩)]) ∧ w' = (w.alloc (.cells #[.pointer o] 57)).alloc (.cells #[.int .i64 f, .int .i64 t] 63) := by
  go_enter Tryd.func32, Tryd.ntmps32
  go_wp2_with fail
  go_ret
  exact ⟨rfl, rfl⟩

set_option maxHeartbeats 4000000 in
theorem Each1_none (y : Value) (Bp Br q p : Nat) (od : List Rw) (f t : Int) (w : World) (hp : Blk w Bp 63 #[.int .i64 f, .int .i64 t]) (hr : Blk w Br 57 #[.pointer (some ⟨q, 0, none⟩)]) (hk : RkM w q p od) (hft : min t (totP od) ≤ max f 0) :
    Calls Tryd.prog 71 #[y, .pointer (some ⟨Bp, 0, none⟩), .pointer (some ⟨Br, 0, none⟩)] w fun e w' => (∃ v, e = .returned v) ∧ w.grownBy w' none := by
  have c0 := hp.cell 0
  have c1 := hp.cell 1
  have c2 := hr.cell 0
  simp at c0 c1 c2
  have HK := Lib.hid hk
  have hft' : ¬ max f 0 < min t (totP od) := by omega
  clear hp hr hk hft
  go_enter Tryd.func71, Tryd.ntmps71
  go_wp2_with fail
  go_region_held3 (fun w' => w'.cell? ⟨Bp, 0, none⟩ = some (.int .i64 f) ∧ w'.cell? ⟨Bp, 1, none⟩ = some (.int .i64 t) ∧ w'.cell? ⟨Br, 0, none⟩ = some (.pointer (some ⟨q, 0, none⟩))) (go_keep)
    ((go_at_call 34; refine (RkTotal_any q p od _ (HK.out.keep (bel_drewN (Below.refl _ _) 1))).mono ?_; rintro e' w3 ⟨rfl, rfl⟩))
  have hg : w.grownBy (w.drewN 1) none := gb_below (bel_drewN (Below.refl w.heap.size w) 1) none
  have d0 : (w.drewN 1).cell? ⟨Bp, 0, none⟩ = some (.int .i64 f) := c0
  have HG := Lib.hid hg
  clear hg c0 c1 c2 HK
  obtain ⟨w1, hw1⟩ : ∃ w1, w1 = w.drewN 1 := ⟨_, rfl⟩
  rw [← hw1] at HG d0 ⊢
  clear hw1
  go_wp2_with fail
  go_loop [5] (fun iv => iv = .int .i64 (max f 0)) (fun iv => 0)
  case atStart => rfl
  case round =>
    subst hrel
    go_wp2_with fail
    go_end0
    exact ⟨⟨_, rfl⟩, HG.out⟩
abbrev RowE := Option Addr × Nat × List Int
theorem each_none (k : Nat) (Bp Br q p : Nat) (od : List Rw) (f t : Int) (w : World) (hp : Blk w Bp 63 #[.int .i64 f, .int .i64 t]) (hr : Blk w Br 57 #[.pointer (some ⟨q, 0, none⟩)]) (hk : RkM w q p od) (hft : min t (totP od) ≤ max f 0) :
    GivesKnown Fence.wide k Tryd.prog 71 #[.pointer (some ⟨Bp, 0, none⟩), .pointer (some ⟨Br, 0, none⟩)] (fun x : RowE => #[rv x]) (fun _ _ _ => False) (fun _ _ _ => True) (fun xs => xs = []) (fun _ => False) 0 w := by
  intro l J Jx W hW hJ hJx hY h0
  refine (callsIn_wide.2 (Each1_none (.func (.yield l) #[] #[]) Bp Br q p od f t W (hp.keep hW) (hr.keep hW) (hk.keep hW) hft)).mono fun e W' ⟨hv, hg⟩ => ⟨hv, .inl ⟨[], rfl, hJ _ _ _ none h0 hg (fun r e => by cases e)⟩⟩
end Go.Proofs.YtmonepclhbappaaDoor
/-
  What a round of a range over a function leaves be: all below a place, and, from another place on, cells that are no rows of rows.
-/
namespace Go.Proofs.YtmonepclhbappaaDoor
open Go.RowKit
set_option linter.unusedVariables false

def KT (n₀ n₂ : Nat) (W W' : World) : Prop := Below n₀ W W' ∧ ∀ k cs t fr, n₂ ≤ k → t ≠ 22 → W.heap[k]? = some (.cells cs t fr) → W'.heap[k]? = some (.cells cs t fr)
section
variable {n₀ n₂ : Nat} {A B C W W' : World}
theorem KT.refl (n₀ n₂ : Nat) (W : World) : KT n₀ n₂ W W := ⟨Below.refl _ _, fun _ _ _ _ _ _ h => h⟩
theorem KT.trans (h : KT n₀ n₂ A B) (k : KT n₀ n₂ B C) : KT n₀ n₂ A C := ⟨h.1.trans k.1, fun j cs t fr hj ht ho => k.2 j cs t fr hj ht (h.2 j cs t fr hj ht ho)⟩
theorem KT.of_below (h : Below W.heap.size W W') (hn : n₀ ≤ W.heap.size) : KT n₀ n₂ W W' := ⟨h.mono hn, fun k cs t fr _ _ ho => (h.block k (Array.getElem?_eq_some_iff.1 ho).1).trans ho⟩
theorem KT.putObj {l : Nat} {o : Obj} (o' : Obj) (hn : n₀ ≤ l) (hl : W.heap[l]? = some o) (ho : o.isCells = false) : KT n₀ n₂ W (W.putObj l o') := by
  have hg := grownBy_putObj' W l o'
  refine ⟨⟨hg.os, hg.tape, hg.output, hg.size, fun k hk => World.putObj_heap_other (by omega)⟩, fun k cs t fr _ _ hk => ?_⟩
  by_cases e : k = l
  · subst e
    rw [hl] at hk
    cases hk
    cases ho
  · exact (World.putObj_heap_other e).trans hk
theorem KT.set {b j : Nat} (u : Value) (h0 : n₀ ≤ b) (h2 : b < n₂) : KT n₀ n₂ W (W.setCell ⟨b, j, none⟩ u) :=
  ⟨bel_set (Below.refl _ _) (p := ⟨b, j, none⟩) h0 u, fun k cs t fr hk _ ho => (Below.heap_setCell W ⟨b, j, none⟩ u k (fun e => by have e' : k = b := e; omega)).trans ho⟩
theorem KT.blk {g : Nat} {t : TypeId} {cs : Array Value} (h : KT n₀ n₂ W W') (hb : Blk W g t cs) (hg : n₂ ≤ g) (ht : t ≠ 22) : Blk W' g t cs := h.2 g cs t (0, 0) hg ht hb
theorem KT.own {n B0 : Nat} {v : Value} {xs : List Value} {e : TypeId} (h : KT n₀ n₂ W W') (hb : W.ownsRow B0 e 1 v n xs) (hg : n₂ ≤ B0) (he : e ≠ 22) : W'.ownsRow B0 e 1 v n xs := by
  refine ⟨hb.1, ?_⟩
  rcases hb.2 with h' | ⟨g, cap, cur, rfl, h1, h2, h3⟩
  · exact .inl h'
  · exact .inr ⟨g, cap, cur, rfl, h1, h.2 g _ _ _ (by omega) he h2, h3⟩
end
/-- A slice of ints that lies below n₀, or from n₂ on in a row of ints. -/
def SnT (n₀ n₂ : Nat) (W : World) (A : Option Addr) (n : Nat) (xs : List Value) : Prop := Sl W 1 A n xs ∧ ∀ x : Addr, A = some x → x.block < n₀ ∨ (n₂ ≤ x.block ∧ ∃ cs fr, W.heap[x.block]? = some (.cells cs 3 fr))
theorem SnT.keep {n₀ n₂ : Nat} {W W' : World} {A : Option Addr} {n : Nat} {xs : List Value} (h : SnT n₀ n₂ W A n xs) (hk : KT n₀ n₂ W W') : SnT n₀ n₂ W' A n xs := by
  refine ⟨⟨h.1.1, fun hn => ?_⟩, fun x hx => ?_⟩
  · obtain ⟨b, off, rfl, h2⟩ := h.1.2 hn
    refine ⟨b, off, rfl, fun j v hj => ?_⟩
    have h3 := h2 j v hj
    rcases h.2 _ rfl with h4 | ⟨h4, cs, fr, h5⟩
    · exact (hk.1.cell (p := ⟨b, off + j, none⟩) h4).trans h3
    · have h6 := hk.2 b cs _ fr h4 (by decide) h5
      exact (World.cell?_of_block (w := W) (a := ⟨b, off + j, none⟩) (h6.trans h5.symm)).trans h3
  · rcases h.2 x hx with h4 | ⟨h4, cs, fr, h5⟩
    · exact .inl h4
    · exact .inr ⟨h4, cs, fr, hk.2 _ cs _ fr h4 (by decide) h5⟩
theorem SnT.nil (n₀ n₂ : Nat) (W : World) : SnT n₀ n₂ W none 0 [] := ⟨Sl.nil _ _ _, fun x h => by cases h⟩
theorem SnT.of_own {n₀ n₂ B0 n c : Nat} {W : World} {A : Option Addr} {xs : List Value} (h : W.ownsRow B0 3 1 (.slice A n c) n xs) (hB : n₂ ≤ B0) : SnT n₀ n₂ W A n xs := by
  refine ⟨Sl.of_own h, fun x hx => ?_⟩
  subst hx
  rcases h.2 with ⟨h1, _⟩ | ⟨g, cap, cur, h1, h2, h3, _⟩
  · cases h1
  · cases h1
    exact .inr ⟨Nat.le_trans hB h2, cur, _, h3⟩
end Go.Proofs.YtmonepclhbappaaDoor
/-
  Ranks: Each: the paths of a part come one by one.
-/
namespace Go.Proofs.YtmonepclhbappaaDoor
open Go.RowKit Go.Shelf Go.Maps
attribute [local go_sem] Oper.semAt_some
set_option maxRecDepth 100000
set_option linter.unusedVariables false

theorem room_noneE {F : Fence} (hd : F.depth = none) (k : Nat) : F.room k := fun d h => by rw [hd] at h; cases h
theorem roundIn_anyE {F : Fence} (hd : F.depth = none) {m m' : Nat} {P : Program} {l : Nat} {f : FuncId} {tmps : Array Value} {assign body : Code} {w : World} {R : Ending → World → Prop}
    (h : RoundIn F m P l f tmps assign body w R) : RoundIn F m' P l f tmps assign body w R := ⟨h.1, fun c cs _ => h.2 c cs (room_noneE hd _)⟩
theorem yieldAt_anyE {F : Fence} (hd : F.depth = none) {m : Nat} (m' : Nat) {P : Program} {l : Nat} {args : Array Value} {W : World} {R : Ending → World → Prop} (h : YieldAt F m P l args W R) : YieldAt F m' P l args W R := by
  obtain ⟨fn, tmps, assign, body, hy, hR⟩ := h
  exact ⟨fn, tmps, assign, body, hy, roundIn_anyE hd hR⟩

/-- What a round knows of the row that it is handed: a new one, the next of the list. -/
def KnE (n₁ : Nat) (G : List (List Int)) (pre : List RowE) (x : RowE) (W : World) : Prop :=
  W.ownsRow n₁ 3 1 (rv x) x.2.2.length (x.2.2.map (Value.int .i64)) ∧ G[pre.length]? = some x.2.2
theorem knE_put {n₁ : Nat} {G : List (List Int)} (pre : List RowE) (x : RowE) (W : World) (l : Nat) (o o' : Obj) (hl : W.heap[l]? = some o) (ho : o.isCells = false) (h : KnE n₁ G pre x W) : KnE n₁ G pre x (W.putObj l o') := ⟨ownsRow_putObj h.1 o' hl ho, h.2⟩
/-- The paths of a part. -/
def partP (od : List Rw) (f t : Int) : List (List Int) := ((allP od).take (min t (totP od)).toNat).drop (max f 0).toNat
theorem partP_at {od : List Rw} {f t : Int} {i : Nat} (h : (max f 0).toNat + i < (min t (totP od)).toNat) : ∃ P, (allP od)[(max f 0).toNat + i]? = some P ∧ (partP od f t)[i]? = some P := by
  have hl : (max f 0).toNat + i < (allP od).length := by unfold totP at h; omega
  refine ⟨(allP od)[(max f 0).toNat + i], List.getElem?_eq_getElem hl, ?_⟩
  unfold partP
  rw [List.getElem?_drop, List.getElem?_take, if_pos h, List.getElem?_eq_getElem hl]
theorem partP_len (od : List Rw) (f t : Int) : (partP od f t).length = (min t (totP od)).toNat - (max f 0).toNat := by
  unfold partP
  rw [List.length_drop, List.length_take]
  unfold totP
  omega

set_option maxHeartbeats 16000000 in
theorem each_gives (d n₀ n₂ : Nat) (Bp Br q p N : Nat) (od : List Rw) (f t : Int) (w0 w : World) (hf : i64ok f) (ht : i64ok t) (hO : OdOK od N) (hk : RkM w0 q p od) (hn0 : w0.heap.size = n₀) (hb : Below n₀ w0 w) (hp : Blk w Bp 63 #[.int .i64 f, .int .i64 t]) (hr : Blk w Br 57 #[.pointer (some ⟨q, 0, none⟩)]) (hBr : n₂ ≤ Br) :
    GivesKnown Fence.wide d Tryd.prog 71 #[.pointer (some ⟨Bp, 0, none⟩), .pointer (some ⟨Br, 0, none⟩)] (fun x : RowE => #[rv x]) (KnE w.heap.size (partP od f t)) (fun _ => KT n₀ n₂) (fun xs => xs.length = (partP od f t).length) (fun pre => 0 < pre.length ∧ pre.length ≤ (partP od f t).length) (partP od f t).length w := by
  intro l J Jx W hW hJ hJx hY h0
  have hJ' : ∀ s A B, J s A → A.grownBy B none → J s B := fun s A B h hg => hJ s A B none h hg (fun r e => by cases e)
  have hYA : ∀ (m : Nat) (pre : List RowE) (x : RowE) (W1 : World), J pre W1 → KnE w.heap.size (partP od f t) pre x W1 → pre.length < (partP od f t).length → YieldAt Fence.wide m Tryd.prog l #[rv x] W1 fun e W' =>
    (e = .returned (.bool true) ∧ J (pre ++ [x]) W' ∧ KT n₀ n₂ W1 W') ∨ (e = .returned (.bool false) ∧ Jx (pre ++ [x]) W') := fun m pre x W1 h1 h2 h3 => yieldAt_anyE rfl m (hY pre x W1 h1 h2 h3)
  have hbW : Below n₀ w0 W := hb.trans (hW.mono (by rw [← hn0]; exact hb.size))
  have hp := hp.keep hW
  have hr := hr.keep hW
  have hws := hW.size
  have c0 := hp.cell 0
  have c1 := hp.cell 1
  have c2 := hr.cell 0
  simp at c0 c1 c2
  have HRW := Lib.hid (show RkM W q p od from hk.keep (by rw [hn0]; exact hbW))
  have HK := Lib.hid hk
  have HBW := Lib.hid hbW
  have HR := Lib.hid hr
  have HJ := Lib.hid hJ'
  have HY := Lib.hid hYA
  have H0 := Lib.hid h0
  have HO := Lib.hid hO
  have HWs := Lib.hid hws
  have HN0 := Lib.hid hn0
  have HTb := Lib.hid (show 0 ≤ totP od ∧ totP od ≤ 4611686018427387904 from ⟨Int.natCast_nonneg _, hO.F.2⟩)
  have HFt := Lib.hid (show -9223372036854775808 ≤ f ∧ f ≤ 9223372036854775807 ∧ -9223372036854775808 ≤ t ∧ t ≤ 9223372036854775807 from ⟨hf.1, hf.2, ht.1, ht.2⟩)
  have HLen := Lib.hid (partP_len od f t)
  have HAt := Lib.hid (fun i h => partP_at (od := od) (f := f) (t := t) (i := i) h)
  clear hW hY hJ hJx hJ' hYA hbW hk hb hp hr h0 hO hn0 hws hf ht
  refine callsIn_of_wp Tryd.func71 rfl trivial ?_ rfl
  simp only [Tryd.ntmps71, List.size_toArray, List.length_cons, List.length_nil, Nat.reduceAdd, Nat.reduceSub, Array.replicate_succ, Array.replicate_zero, List.push_toArray, List.append_toArray, List.nil_append, List.cons_append]
  refine wpIn_wide.2 ?_
  go_wp2_with fail
  go_region_held3 (fun w' => w'.cell? ⟨Bp, 0, none⟩ = some (.int .i64 f) ∧ w'.cell? ⟨Bp, 1, none⟩ = some (.int .i64 t) ∧ w'.cell? ⟨Br, 0, none⟩ = some (.pointer (some ⟨q, 0, none⟩))) (go_keep)
    ((go_at_call 34; refine (RkTotal_any q p od _ (HRW.out.keep (bel_drewN (Below.refl _ _) 1))).mono ?_; rintro e' w3 ⟨rfl, rfl⟩))
  have HKT := Lib.hid (show KT n₀ n₂ W (W.drewN 1) from KT.of_below (bel_drewN (Below.refl _ _) 1) (by rw [← HN0.out]; exact HBW.out.size))
  have HJ1 := Lib.hid (HJ.out _ _ _ H0.out (gb_below (bel_drewN (Below.refl W.heap.size W) 1) none))
  have HSz := Lib.hid (show (W.drewN 1).heap.size = W.heap.size from rfl)
  have d0 : (W.drewN 1).cell? ⟨Bp, 0, none⟩ = some (.int .i64 f) := c0
  clear c0 c1 c2 H0
  obtain ⟨w1, hw1⟩ : ∃ w1, w1 = W.drewN 1 := ⟨_, rfl⟩
  rw [← hw1] at HKT HJ1 HSz d0 ⊢
  clear hw1
  go_wp2_with fail
  clear d0
  refine (wpIn_wide (n := d)).1 ?_
  obtain ⟨lo, hlo⟩ : ∃ lo : Nat, max f 0 = (lo : Int) := ⟨(max f 0).toNat, by omega⟩
  obtain ⟨hi, hhi⟩ : ∃ hi : Nat, hi = (min t (totP od)).toNat := ⟨_, rfl⟩
  have HLen2 := Lib.hid (show (partP od f t).length = hi - lo from by rw [HLen.out, ← hhi, hlo]; rfl)
  have HAt2 := Lib.hid (fun i (h : lo + i < hi) => by have := HAt.out i (by rw [hlo, ← hhi]; exact h); rw [hlo] at this; exact this)
  have HLt := Lib.hid (show ∀ i : Nat, (lo + i < hi → (lo : Int) + (i : Int) < min t (totP od)) ∧ (¬ lo + i < hi → ¬ (lo : Int) + (i : Int) < min t (totP od)) from fun i => by omega)
  have HHi := Lib.hid (show hi ≤ 4611686018427387904 from by have := HTb.out; omega)
  have HLo := Lib.hid hlo
  obtain ⟨tq, hto⟩ : ∃ tq, min t (totP od) = tq := ⟨_, rfl⟩
  rw [hto] at HLt ⊢
  rw [hlo]
  clear hhi hto hlo HAt HLen HTb HFt
  gi_loopw [5] (fun iv wr => ∃ (i : Nat) (ys : List RowE), i ≤ hi - lo ∧ iv = .int .i64 ((lo : Int) + (i : Int)) ∧ Hid (ys.length = i) ∧ Hid (J ys wr) ∧ Hid (KT n₀ n₂ W wr)) (fun iv _ => hi - (intOf iv).toNat)
  case atStart => exact ⟨0, [], Nat.zero_le _, by simp, Lib.hid rfl, HJ1, HKT⟩
  case round =>
    obtain ⟨i, ys, hi1, rfl, HYs, HJi, HKi⟩ := hrel
    by_cases hlt : lo + i < hi
    · have hlt' := (HLt.out i).1 hlt
      obtain ⟨P, hP, hPp⟩ := HAt2.out i hlt
      have hcr := (HKi.out.blk HR.out hBr (by decide)).cell 0
      simp at hcr
      have HBw := Lib.hid (HBW.out.trans HKi.out.1)
      have hPl : P.length = N := HO.out.P P (List.mem_of_getElem? hP)
      have HA := Lib.hid ((At_ok q p N (lo + i) P od wr (HK.out.keep (by rw [HN0.out]; exact HBw.out)) HO.out.B HO.out.len HO.out.h1 HO.out.h8 HO.out.Nu HO.out.C HO.out.F hP hPl).mono (R' := fun e W1 => ∃ C c, e = .returned (.tuple #[.slice C N c, .nilIface]) ∧ KT n₀ n₂ wr W1 ∧ YieldAt Fence.wide (d - 1) Tryd.prog l #[.slice C N c] W1 fun e W' =>
        (e = .returned (.bool true) ∧ J (ys ++ [(C, c, P)]) W' ∧ KT n₀ n₂ W1 W') ∨ (e = .returned (.bool false) ∧ Jx (ys ++ [(C, c, P)]) W')) (fun e W1 h => by
          obtain ⟨v, rfl, hown, hb⟩ := h
          obtain ⟨C, c, rfl, hs⟩ := Sl.own hown
          have hsz := HBw.out.size
          have hsz2 := HKi.out.1.size
          refine ⟨C, c, rfl, KT.of_below hb (by rw [← HN0.out]; exact hsz), ?_⟩
          have h := HY.out (d - 1) ys (C, c, P) W1 (HJ.out _ _ _ HJi.out (gb_below hb none)) ⟨?_, by rw [HYs.out]; exact hPp⟩ (by rw [HYs.out, HLen2.out]; omega)
          · simp only [rv, hPl] at h
            exact h
          · simp only [rv, hPl]
            exact own_mono hown (Nat.le_trans HWs.out hsz2)))
      rw [show ((lo + i : Nat) : Int) = (lo : Int) + (i : Int) from Int.natCast_add _ _] at HA
      have hhi2 := HHi.out
      clear hP hPp hPl
      gi_wp2_with (first
        | ((try refine ⟨trivial, ?_⟩); (try refine ⟨fun h => (by cases h), ?_⟩); gi_at_call 38; refine (callsIn_wide.2 HA.out).mono ?_; clear HA; rintro e W1 ⟨C, c, rfl, hkt, fn, tmps, assign, body, hy, hR⟩; have HKt := Lib.hid hkt; have HRr := Lib.hid hR; clear hkt hR)
        | ((try refine ⟨fun h => (by cases h), ?_⟩); refine HRr.out.mono ?_; clear HRr; rintro e W2 (⟨rfl, hJ2, hk2⟩ | ⟨rfl, hx2⟩)))
      · have HJ2 := Lib.hid hJ2
        have HK2 := Lib.hid hk2
        clear hJ2 hk2 hy
        go_roundw
        case rel => exact ⟨i + 1, ys ++ [(C, c, P)], by omega, by go_num, Lib.hid (by rw [List.length_append, HYs.out]; rfl), HJ2, Lib.hid ((HKi.out.trans HKt.out).trans HK2.out)⟩
        case measure => simp [intOf]; omega
      · refine bodyPost_ret (results_none rfl _ _ _) rfl ?_
        exact ⟨⟨_, rfl⟩, .inr ⟨_, ⟨by rw [List.length_append]; simp, by rw [List.length_append, HYs.out, HLen2.out]; simp; omega⟩, hx2⟩⟩
    · have hlt' := (HLt.out i).2 hlt
      have HE := Lib.hid (show i = hi - lo from by omega)
      gi_wp2
      go_end0
      exact ⟨⟨_, rfl⟩, .inl ⟨ys, by rw [HYs.out, HLen2.out]; exact HE.out, HJi.out⟩⟩
end Go.Proofs.YtmonepclhbappaaDoor
