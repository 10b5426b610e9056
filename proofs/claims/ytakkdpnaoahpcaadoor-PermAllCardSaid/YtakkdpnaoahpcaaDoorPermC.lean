/-
  Contracts: perm.Put, perm.Back, perm.Then.
-/
import Derived.Test.YtakkdpnaoahpcaaDoorPermB
import Derived.Test.YtakkdpnaoahpcaaDoorWords2
namespace Go.Proofs.YtakkdpnaoahpcaaDoor
open Go.RowKit
set_option maxRecDepth 100000

theorem putE_ok {p l : List Int} (h : Ord p) (hl : p.length = l.length) : putE p l = .nil := by rw [putE, if_pos h, if_pos hl]

set_option maxHeartbeats 1000000 in
theorem Put_ok (p l : List Int) (A B : Option Addr) (n c d : Nat) (w : World) (hO : Ord p) (hl : p.length = n) (hm : l.length = n) (hs : Sl w 1 A n (p.map (Value.int .i64))) (ht : Sl w 1 B n (l.map (Value.int .i64))) :
    Calls Tryd.prog 23 #[.slice A n c, .slice B n d] w fun e w' => ∃ C k, e = .returned (.tuple #[.slice C n k, .nilIface]) ∧ Sl w' 1 C n ((putL p l).map (Value.int .i64)) ∧ Below w.heap.size w w' := by
  have HW := Lib.hid (with_any p l A B n n c d w hl hm hs)
  have hn : n ≤ 8 := by rw [← hl]; exact hO.1
  have HO := Lib.hid hO
  have HS := Lib.hid hs
  have HT := Lib.hid ht
  have hmk := fun W => make_elem elemInt rfl n (by omega) (by omega) W
  clear hs ht hO
  go_enter Tryd.func23, Tryd.ntmps23
  go_wp2_with fail
  refine HW.out.mono ?_
  rintro e w1 ⟨v, rfl, hv, hb1⟩
  rw [putE_ok HO.out (hl.trans hm.symm)] at hv
  obtain rfl : v = .nilIface := hv
  have HB1 := Lib.hid hb1
  have HS1 := Lib.hid (HS.out.keep hb1)
  have HT1 := Lib.hid (HT.out.keep hb1)
  clear HW hb1 HS HT
  have HOwn := Lib.hid (own_replicate (B := w1.heap.size) (e := 3) w1 n (.int .i64 0) (Nat.le_refl _) (by omega))
  go_wp2_with fail
  go_loopw [21] (fun i wr => ∃ k : Nat, k ≤ n ∧ i = .int .i64 k ∧ wr.ownsRow w1.heap.size 3 1 (.slice (some ⟨w1.heap.size, 0, none⟩) n n) n ((scat (p.take k) (l.take k) (List.replicate n 0)).map (Value.int .i64)) ∧ Below w1.heap.size w1 wr) (fun i _ => n - (intOf i).toNat)
  case atStart => exact ⟨0, Nat.zero_le _, rfl, by simpa [scat] using HOwn.out, bel_al (Below.refl _ _) _⟩
  case round =>
    obtain ⟨k, hk, rfl, hown, hb⟩ := hrel
    by_cases hlt : k < n
    · have hj : k < p.length := by omega
      have hj' : k < l.length := by omega
      obtain ⟨b, off, u, rfl, e1, c1⟩ := (HS1.out.keep hb).one hlt
      obtain ⟨b', off', u', rfl, e2, c2⟩ := (HT1.out.keep hb).one hlt
      rw [List.getElem?_map, List.getElem?_eq_getElem hj] at e1
      rw [List.getElem?_map, List.getElem?_eq_getElem hj'] at e2
      obtain rfl := Option.some.inj e1
      obtain rfl := Option.some.inj e2
      have hr := HO.out.2.1 _ (List.getElem_mem hj)
      have HT := Lib.hid (List.take_succ_eq_append_getElem hj)
      have HT' := Lib.hid (List.take_succ_eq_append_getElem hj')
      have HL := Lib.hid (show (p.take k).length = (l.take k).length by rw [List.length_take, List.length_take]; omega)
      generalize p[k] = x at *
      generalize l[k] = y at *
      obtain ⟨m, rfl⟩ := Int.eq_ofNat_of_zero_le hr.1
      have hmn : m < n := by omega
      have hcell := hown.cellAt m (by omega)
      have hlen : m < (scat (p.take k) (l.take k) (List.replicate n 0)).length := by rw [scat_len, List.length_replicate]; exact hmn
      rw [List.getElem?_map, List.getElem?_eq_getElem hlen] at hcell
      have hfr := hown.frozenAt m
      have HSt := Lib.hid (hown.stored m (.int .i64 y))
      have hbs := hb.setCell (p := ⟨w1.heap.size, m, none⟩) (Nat.le_refl _) (.int .i64 y)
      have HBs := Lib.hid hbs
      clear e1 e2 hbs hr hown
      go_wp2_with fail
      go_roundw
      case rel =>
        refine ⟨k + 1, by omega, by go_num, ?_, HBs.out⟩
        rw [HT.out, HT'.out, scat_snoc _ _ _ _ _ HL.out, List.map_set]
        exact HSt.out.1
      case measure => simp [intOf]; omega
    · obtain rfl : k = n := by omega
      rw [List.take_of_length_le (by omega), List.take_of_length_le (by omega)] at hown
      have hown' := Sl.of_own hown
      clear hown
      have HX := Lib.hid hown'
      clear hown' HS1 HT1
      go_wp2_with fail
      go_ret2
      exact ⟨_, _, rfl, by rw [putL, if_pos ⟨HO.out, hl.trans hm.symm⟩, hl]; exact HX.out, HB1.out.andThen hb⟩

set_option maxHeartbeats 1000000 in
theorem Put_bad (p l : List Int) (A B : Option Addr) (n m c d : Nat) (w : World) (hO : ¬ (Ord p ∧ p.length = l.length)) (hl : p.length = n) (hm : l.length = m) (hs : Sl w 1 A n (p.map (Value.int .i64))) :
    Calls Tryd.prog 23 #[.slice A n c, .slice B m d] w fun e w' => ∃ ev, e = .returned (.tuple #[.slice none 0 0, ev]) ∧ (putE p l).At w' ev ∧ Below w.heap.size w w' := by
  have HW := Lib.hid (with_any p l A B n m c d w hl hm hs)
  have HO := Lib.hid hO
  have hne : putE p l ≠ .nil := by
    unfold putE
    split
    · split
      · exact absurd ⟨‹_›, ‹_›⟩ hO
      · intro h; cases h
    · intro h; cases h
  have HN := Lib.hid hne
  clear hs hO hne
  go_enter Tryd.func23, Tryd.ntmps23
  go_wp2_with fail
  refine HW.out.mono ?_
  rintro e w1 ⟨v, rfl, hv, hb1⟩
  obtain ⟨T, x, rfl⟩ := Err.At.iface_ hv HN.out
  have HV := Lib.hid hv
  clear HW hv
  go_wp2_with fail
  go_ret2
  exact ⟨_, rfl, HV.out, hb1⟩

set_option maxHeartbeats 1000000 in
theorem Back_ok (p : List Int) (A : Option Addr) (n c : Nat) (w : World) (hO : Ord p) (hl : p.length = n) (hs : Sl w 1 A n (p.map (Value.int .i64))) :
    Calls Tryd.prog 13 #[.slice A n c] w fun e w' => ∃ C k, e = .returned (.tuple #[.slice C n k, .nilIface]) ∧ Sl w' 1 C n ((backL p).map (Value.int .i64)) ∧ Below w.heap.size w w' := by
  have HR := Lib.hid (Right_any p A n c w hl hs)
  rw [decide_eq_true hO] at HR
  have hn : n ≤ 8 := by rw [← hl]; exact hO.1
  have HO := Lib.hid hO
  have HS := Lib.hid hs
  clear hO hs
  go_enter Tryd.func13, Tryd.ntmps13
  go_wp2_with fail
  refine HR.out.mono ?_
  rintro e w1 ⟨rfl, rfl⟩
  clear HR
  go_wp2_with fail
  refine (Id_any n w hn).mono ?_
  rintro e w2 ⟨v, rfl, hown, hb2⟩
  obtain ⟨D, c2, rfl, hsl⟩ := Sl.own hown
  have HP := Lib.hid (Put_ok p (ids n) A D n c c2 w2 HO.out hl (ids_len n) (HS.out.keep hb2) hsl)
  clear hown hsl
  have HB2 := Lib.hid hb2
  clear hb2
  go_wp2_with fail
  refine HP.out.mono ?_
  rintro e w3 ⟨C, k, rfl, hs3, hb3⟩
  have HS3 := Lib.hid hs3
  clear hs3 HP
  go_wp2_with fail
  go_ret2
  exact ⟨_, _, rfl, by rw [backL_eq HO.out, hl]; exact HS3.out, HB2.out.andThen hb3⟩

set_option maxHeartbeats 1000000 in
theorem Back_bad (p : List Int) (A : Option Addr) (n c : Nat) (w : World) (hO : ¬ Ord p) (hl : p.length = n) (hs : Sl w 1 A n (p.map (Value.int .i64))) :
    Calls Tryd.prog 13 #[.slice A n c] w fun e w' => ∃ ev, e = .returned (.tuple #[.slice none 0 0, ev]) ∧ (Err.flt 1 0 order).At w' ev ∧ Below w.heap.size w w' := by
  have HR := Lib.hid (Right_any p A n c w hl hs)
  rw [decide_eq_false hO] at HR
  clear hs
  go_enter Tryd.func13, Tryd.ntmps13
  go_wp2_with fail
  refine HR.out.mono ?_
  rintro e w1 ⟨rfl, rfl⟩
  clear HR
  go_wp2_with fail
  refine (wrong_any 0 w).mono ?_
  rintro e w2 ⟨v, rfl, hv, hb2⟩
  go_wp2_with fail
  go_ret2
  exact ⟨_, rfl, hv, hb2⟩

def thenE (p q : List Int) : Err := if Ord p ∧ Ord q then if p.length = q.length then .nil else .flt 1 1 order else .flt 1 0 order
theorem map_take_succ {α β : Type} (f : α → β) (l : List α) (k : Nat) (hk : k < l.length) : (l.take (k + 1)).map f = (l.take k).map f ++ [f l[k]] := by
  rw [List.take_succ_eq_append_getElem hk, List.map_append]; rfl

set_option maxHeartbeats 1000000 in
theorem Then_ok (p q : List Int) (A B : Option Addr) (n c d : Nat) (w : World) (hO : Ord p) (hQ : Ord q) (hl : p.length = n) (hm : q.length = n) (hs : Sl w 1 A n (p.map (Value.int .i64))) (ht : Sl w 1 B n (q.map (Value.int .i64))) :
    Calls Tryd.prog 12 #[.slice A n c, .slice B n d] w fun e w' => ∃ C k, e = .returned (.tuple #[.slice C n k, .nilIface]) ∧ Sl w' 1 C n ((thenL p q).map (Value.int .i64)) ∧ Below w.heap.size w w' := by
  have HR := Lib.hid (Right_any p A n c w hl hs)
  rw [decide_eq_true hO] at HR
  have HR2 := Lib.hid (Right_any q B n d w hm ht)
  rw [decide_eq_true hQ] at HR2
  have hn : n ≤ 8 := by rw [← hl]; exact hO.1
  have HO := Lib.hid hO
  have HQ := Lib.hid hQ
  have HS := Lib.hid hs
  have HT := Lib.hid ht
  clear hO hQ hs ht
  go_enter Tryd.func12, Tryd.ntmps12
  go_wp2_with fail
  refine HR.out.mono ?_
  rintro e w1 ⟨rfl, rfl⟩
  clear HR
  go_wp2_with fail
  refine HR2.out.mono ?_
  rintro e w1 ⟨rfl, rfl⟩
  clear HR2
  go_wp2_with fail
  go_loopw [6, 26] (fun v i wr => ∃ k : Nat, k ≤ n ∧ i = .int .i64 k ∧ wr.ownsRow w.heap.size 3 1 v k (((p.take k).map fun x => q.getD x.toNat 0).map (Value.int .i64)) ∧ Below w.heap.size w wr) (fun _ i _ => n - (intOf i).toNat)
  case atStart => exact ⟨0, Nat.zero_le _, rfl, World.ownsRow_nil _ _ _ _, Below.refl _ _⟩
  case round =>
    obtain ⟨k, hk, rfl, hown, hb⟩ := hrel
    by_cases hlt : k < n
    · have hj : k < p.length := by omega
      obtain ⟨b, off, u, rfl, e1, c1⟩ := (HS.out.keep hb).one hlt
      rw [List.getElem?_map, List.getElem?_eq_getElem hj] at e1
      obtain rfl := Option.some.inj e1
      have hr := HO.out.2.1 _ (List.getElem_mem hj)
      have HT1 := Lib.hid (map_take_succ (fun x : Int => q.getD x.toNat 0) p k hj)
      generalize p[k] = x at *
      obtain ⟨m, rfl⟩ := Int.eq_ofNat_of_zero_le hr.1
      have hmn : m < n := by omega
      have hmq : m < q.length := by omega
      obtain ⟨b', off', u', rfl, e2, c2⟩ := (HT.out.keep hb).one hmn
      rw [List.getElem?_map, List.getElem?_eq_getElem hmq] at e2
      obtain rfl := Option.some.inj e2
      have HG := Lib.hid (show q.getD ((m : Nat) : Int).toNat 0 = q[m] by rw [Int.toNat_natCast, List.getD_eq_getElem?_getD, List.getElem?_eq_getElem hmq]; rfl)
      generalize q[m] = y at *
      clear e1 e2 hr
      go_wp2_with (at_builtin; refine wpList_push elemInt _ _ rfl rfl hown hb (Nat.le_refl _) rfl rfl rfl (by simp [Value.oneCell']) (by unfold lim; omega) (by unfold lim; omega) ?_; intro v' w5 hown1 hb5)
      go_roundw
      case rel =>
        refine ⟨k + 1, by omega, by go_num, ?_, hb5⟩
        rw [HT1.out, List.map_append, HG.out]
        exact hown1
      case measure => simp [intOf]; omega
    · obtain rfl : k = n := by omega
      rw [List.take_of_length_le (by omega)] at hown
      obtain ⟨C, c3, rfl, hsl⟩ := Sl.own hown
      have HX := Lib.hid hsl
      clear hsl hown HS HT
      go_wp2_with fail
      go_ret2
      exact ⟨_, _, rfl, by rw [thenL, if_pos ⟨HO.out, HQ.out, hl.trans hm.symm⟩]; exact HX.out, hb⟩

set_option maxHeartbeats 1000000 in
theorem Then_bad (p q : List Int) (A B : Option Addr) (n m c d : Nat) (w : World) (hO : ¬ (Ord p ∧ Ord q ∧ p.length = q.length)) (hl : p.length = n) (hm : q.length = m) (hs : Sl w 1 A n (p.map (Value.int .i64))) (ht : Sl w 1 B m (q.map (Value.int .i64))) :
    Calls Tryd.prog 12 #[.slice A n c, .slice B m d] w fun e w' => ∃ ev, e = .returned (.tuple #[.slice none 0 0, ev]) ∧ (thenE p q).At w' ev ∧ Below w.heap.size w w' := by
  have HR := Lib.hid (Right_any p A n c w hl hs)
  have HR2 := Lib.hid (Right_any q B m d w hm ht)
  have HO := Lib.hid hO
  clear hs ht hO
  go_enter Tryd.func12, Tryd.ntmps12
  by_cases h1 : Ord p
  · rw [decide_eq_true h1] at HR
    have H1 := Lib.hid h1
    clear h1
    by_cases h2 : Ord q
    · rw [decide_eq_true h2] at HR2
      have H2 := Lib.hid h2
      clear h2
      have hnm : n ≠ m := fun h => HO.out ⟨H1.out, H2.out, by rw [hl, hm, h]⟩
      have hb1 : ((n : Int) == (m : Int)) = false := by simp; omega
      go_wp2_with fail
      refine HR.out.mono ?_
      rintro e w1 ⟨rfl, rfl⟩
      clear HR
      go_wp2_with fail
      refine HR2.out.mono ?_
      rintro e w1 ⟨rfl, rfl⟩
      clear HR2
      go_wp2_with fail
      refine (wrong_any 1 w).mono ?_
      rintro e w2 ⟨v, rfl, hv, hb2⟩
      go_wp2_with fail
      go_ret2
      exact ⟨_, rfl, by rw [thenE, if_pos ⟨H1.out, H2.out⟩, if_neg (fun h => hnm (by rw [← hl, ← hm, h]))]; exact hv, hb2⟩
    · rw [decide_eq_false h2] at HR2
      have H2 := Lib.hid h2
      clear h2
      go_wp2_with fail
      refine HR.out.mono ?_
      rintro e w1 ⟨rfl, rfl⟩
      clear HR
      go_wp2_with fail
      refine HR2.out.mono ?_
      rintro e w1 ⟨rfl, rfl⟩
      clear HR2
      go_wp2_with fail
      refine (wrong_any 0 w).mono ?_
      rintro e w2 ⟨v, rfl, hv, hb2⟩
      go_wp2_with fail
      go_ret2
      exact ⟨_, rfl, by rw [thenE, if_neg (fun h => H2.out h.2)]; exact hv, hb2⟩
  · rw [decide_eq_false h1] at HR
    have H1 := Lib.hid h1
    clear h1
    go_wp2_with fail
    refine HR.out.mono ?_
    rintro e w1 ⟨rfl, rfl⟩
    clear HR
    go_wp2_with fail
    refine (wrong_any 0 w).mono ?_
    rintro e w2 ⟨v, rfl, hv, hb2⟩
    go_wp2_with fail
    go_ret2
    exact ⟨_, rfl, by rw [thenE, if_neg (fun h => H1.out h.1)]; exact hv, hb2⟩
end Go.Proofs.YtakkdpnaoahpcaaDoor
