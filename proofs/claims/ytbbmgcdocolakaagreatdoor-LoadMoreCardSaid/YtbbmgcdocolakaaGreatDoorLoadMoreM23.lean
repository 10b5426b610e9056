/-
  Part 23 of the proof of LoadMore: PatT, PatN, LdN, LdR, RegT.
-/
import Derived.Test.YtbbmgcdocolakaaGreatDoorLoadMoreM3
import Derived.Test.YtbbmgcdocolakaaGreatDoorLoadMoreM2
import Derived.BigQuiet
import Derived.Test.YtbbmgcdocolakaaGreatDoorLoadMoreM5
import Derived.Test.YtbbmgcdocolakaaGreatDoorLoadMoreM16
import Derived.Test.YtbbmgcdocolakaaGreatDoorLoadMoreM4
import Derived.Test.YtbbmgcdocolakaaGreatDoorLoadMoreM18
import Derived.StillTail
set_option linter.unusedVariables false
/-
  A pattern's text tells the pattern (plain).
-/
namespace Go.Proofs.YtbbmgcdocolakaaGreatDoor.Pt
set_option linter.unusedVariables false

def val (l : List UInt8) : Nat := l.foldl (fun a d => a * 10 + (d.toNat - 48)) 0
theorem val_snoc (l : List UInt8) (d : UInt8) : val (l ++ [d]) = val l * 10 + (d.toNat - 48) := by simp [val]
theorem dig_nat {u : Nat} (h : u < 10) : (UInt8.ofNat (48 + u)).toNat = 48 + u := by
  rw [UInt8.toNat_ofNat']
  omega
theorem val_dec (u : Nat) : val (Lib.decDigits u) = u := by
  rw [Lib.decDigits]
  split
  · rename_i h
    show 0 * 10 + ((UInt8.ofNat (48 + u)).toNat - 48) = u
    rw [dig_nat h]
    omega
  · rw [val_snoc, val_dec (u / 10), dig_nat (Nat.mod_lt _ (by omega))]
    omega
termination_by u
decreasing_by omega
theorem dec_dig (u : Nat) : ∀ d ∈ Lib.decDigits u, 48 ≤ d.toNat ∧ d.toNat ≤ 57 := by
  rw [Lib.decDigits]
  split
  · rename_i h
    intro d hd
    obtain rfl := List.mem_singleton.1 hd
    rw [dig_nat h]
    omega
  · intro d hd
    rcases List.mem_append.1 hd with hd | hd
    · exact dec_dig (u / 10) d hd
    · obtain rfl := List.mem_singleton.1 hd
      rw [dig_nat (Nat.mod_lt _ (by omega))]
      omega
termination_by u
decreasing_by omega
theorem dec_ne (u : Nat) : Lib.decDigits u ≠ [] := by
  rw [Lib.decDigits]
  split <;> simp
theorem itoa_pos {x : Int} (h : 0 ≤ x) : Lib.itoa x = Lib.decDigits x.toNat := by unfold Lib.itoa; rw [if_neg (by omega)]
theorem itoa_inj {x y : Int} (hx : 0 ≤ x) (hy : 0 ≤ y) (h : Lib.itoa x = Lib.itoa y) : x = y := by
  rw [itoa_pos hx, itoa_pos hy] at h
  have := congrArg val h
  rw [val_dec, val_dec] at this
  omega
theorem itoa_dig {x : Int} (h : 0 ≤ x) : ∀ d ∈ Lib.itoa x, 48 ≤ d.toNat ∧ d.toNat ≤ 57 := by rw [itoa_pos h]; exact dec_dig _
theorem itoa_ne {x : Int} (h : 0 ≤ x) : Lib.itoa x ≠ [] := by rw [itoa_pos h]; exact dec_ne _

theorem split_at {s : UInt8} : ∀ {a b c d : List UInt8}, s ∉ a → s ∉ c → a ++ s :: b = c ++ s :: d → a = c ∧ b = d
  | [], b, [], d, _, _, h => ⟨rfl, by simpa using h⟩
  | [], b, x :: c, d, _, hc, h => by
    simp only [List.nil_append, List.cons_append, List.cons.injEq] at h
    exact absurd (List.mem_cons.2 (.inl h.1)) hc
  | x :: a, b, [], d, ha, _, h => by
    simp only [List.nil_append, List.cons_append, List.cons.injEq] at h
    exact absurd (List.mem_cons.2 (.inl h.1.symm)) ha
  | x :: a, b, y :: c, d, ha, hc, h => by
    simp only [List.cons_append, List.cons.injEq] at h
    obtain ⟨h1, h2⟩ := split_at (fun hm => ha (List.mem_cons_of_mem _ hm)) (fun hm => hc (List.mem_cons_of_mem _ hm)) h.2
    exact ⟨by rw [h.1, h1], h2⟩
theorem tail_inj {s : UInt8} : ∀ (r t : List (List UInt8)) (x y : List UInt8), (∀ b ∈ x :: r, s ∉ b) → (∀ b ∈ y :: t, s ∉ b) → x ++ Lib.joinTail [s] r = y ++ Lib.joinTail [s] t → x = y ∧ r = t
  | [], [], x, y, _, _, h => ⟨by simpa [Lib.joinTail] using h, rfl⟩
  | [], z :: t, x, y, hx, _, h => by
    exfalso
    refine hx x (List.mem_cons_self ..) ?_
    have : x = y ++ (s :: (z ++ Lib.joinTail [s] t)) := by simpa [Lib.joinTail] using h
    rw [this]
    simp
  | w :: r, [], x, y, _, hy, h => by
    exfalso
    refine hy y (List.mem_cons_self ..) ?_
    have : x ++ (s :: (w ++ Lib.joinTail [s] r)) = y := by simpa [Lib.joinTail] using h
    rw [← this]
    simp
  | w :: r, z :: t, x, y, hx, hy, h => by
    have h' : x ++ s :: (w ++ Lib.joinTail [s] r) = y ++ s :: (z ++ Lib.joinTail [s] t) := by simpa [Lib.joinTail] using h
    obtain ⟨h1, h2⟩ := split_at (hx x (List.mem_cons_self ..)) (hy y (List.mem_cons_self ..)) h'
    obtain ⟨h3, h4⟩ := tail_inj r t w z (fun b hb => hx b (List.mem_cons_of_mem _ hb)) (fun b hb => hy b (List.mem_cons_of_mem _ hb)) h2
    exact ⟨h1, by rw [h3, h4]⟩
theorem join_inj {s : UInt8} : ∀ (r t : List (List UInt8)), (∀ b ∈ r, b ≠ [] ∧ s ∉ b) → (∀ b ∈ t, b ≠ [] ∧ s ∉ b) → Lib.join r [s] = Lib.join t [s] → r = t
  | [], [], _, _, _ => rfl
  | [], y :: t, _, hy, h => by
    rw [Lib.join_nil, Lib.join_cons] at h
    exact absurd (List.append_eq_nil_iff.1 h.symm).1 (hy y (List.mem_cons_self ..)).1
  | x :: r, [], hx, _, h => by
    rw [Lib.join_nil, Lib.join_cons] at h
    exact absurd (List.append_eq_nil_iff.1 h).1 (hx x (List.mem_cons_self ..)).1
  | x :: r, y :: t, hx, hy, h => by
    rw [Lib.join_cons, Lib.join_cons] at h
    obtain ⟨h1, h2⟩ := tail_inj r t x y (fun b hb => (hx b hb).2) (fun b hb => (hy b hb).2) h
    rw [h1, h2]
theorem join_not {s t : UInt8} (hst : s ≠ t) : ∀ (r : List (List UInt8)), (∀ b ∈ r, t ∉ b) → t ∉ Lib.join r [s]
  | [], _ => by simp [Lib.join_nil]
  | x :: r, h => by
    rw [Lib.join_cons]
    intro hm
    rcases List.mem_append.1 hm with hm | hm
    · exact h x (List.mem_cons_self ..) hm
    · unfold Lib.joinTail at hm
      obtain ⟨l, hl, hm⟩ := List.mem_flatten.1 hm
      obtain ⟨b, hb, rfl⟩ := List.mem_map.1 hl
      rcases List.mem_append.1 hm with hm | hm
      · exact hst (List.mem_singleton.1 hm).symm
      · exact h b (List.mem_cons_of_mem _ hb) hm
theorem map_inj {α β : Type} {f : α → β} : ∀ (l m : List α), (∀ x ∈ l, ∀ y ∈ m, f x = f y → x = y) → l.map f = m.map f → l = m
  | [], [], _, _ => rfl
  | [], y :: m, _, h => by simp at h
  | x :: l, [], _, h => by simp at h
  | x :: l, y :: m, hf, h => by
    simp only [List.map_cons, List.cons.injEq] at h
    rw [hf x (List.mem_cons_self ..) y (List.mem_cons_self ..) h.1, map_inj l m (fun a ha b hb => hf a (List.mem_cons_of_mem _ ha) b (List.mem_cons_of_mem _ hb)) h.2]

def edgeL (e : Int × Int) : List UInt8 := Lib.itoa e.1 ++ 45 :: Lib.itoa e.2
theorem not_dig {x : Int} (h : 0 ≤ x) {s : UInt8} (hs : s.toNat < 48 ∨ 57 < s.toNat) : s ∉ Lib.itoa x := fun hm => by
  have := itoa_dig h s hm
  omega
theorem edgeL_not {e : Int × Int} (h1 : 0 ≤ e.1) (h2 : 0 ≤ e.2) {s : UInt8} (hs : s.toNat < 45 ∨ 57 < s.toNat) : s ∉ edgeL e := fun hm => by
  rcases List.mem_append.1 hm with hm | hm
  · exact not_dig h1 (by omega) hm
  · rcases List.mem_cons.1 hm with hm | hm
    · subst hm
      have : (45 : UInt8).toNat = 45 := rfl
      omega
    · exact not_dig h2 (by omega) hm
theorem edgeL_inj {e f : Int × Int} (h1 : 0 ≤ e.1) (h2 : 0 ≤ e.2) (h3 : 0 ≤ f.1) (h4 : 0 ≤ f.2) (h : edgeL e = edgeL f) : e = f := by
  obtain ⟨g1, g2⟩ := split_at (not_dig h1 (.inl (by decide))) (not_dig h3 (.inl (by decide))) h
  exact Prod.ext (itoa_inj h1 h3 g1) (itoa_inj h2 h4 g2)
/-- A pattern's text, as a list of bytes. -/
def textL (L : List Int) (E : List (Int × Int)) : List UInt8 := Lib.join (L.map Lib.itoa) [44] ++ 124 :: Lib.join (E.map edgeL) [44]
theorem textL_inj {L L' : List Int} {E E' : List (Int × Int)} (hL : ∀ x ∈ L, 0 ≤ x) (hL' : ∀ x ∈ L', 0 ≤ x) (hE : ∀ e ∈ E, 0 ≤ e.1 ∧ 0 ≤ e.2) (hE' : ∀ e ∈ E', 0 ≤ e.1 ∧ 0 ≤ e.2)
    (h : textL L E = textL L' E') : L = L' ∧ E = E' := by
  have n1 : ∀ (M : List Int), (∀ x ∈ M, 0 ≤ x) → (124 : UInt8) ∉ Lib.join (M.map Lib.itoa) [44] := fun M hM => join_not (by decide) _ fun b hb => by
    obtain ⟨x, hx, rfl⟩ := List.mem_map.1 hb
    exact not_dig (hM x hx) (.inr (by decide))
  obtain ⟨h1, h2⟩ := split_at (n1 L hL) (n1 L' hL') h
  have n2 : ∀ (M : List Int), (∀ x ∈ M, 0 ≤ x) → ∀ b ∈ M.map Lib.itoa, b ≠ [] ∧ (44 : UInt8) ∉ b := fun M hM b hb => by
    obtain ⟨x, hx, rfl⟩ := List.mem_map.1 hb
    exact ⟨itoa_ne (hM x hx), not_dig (hM x hx) (.inl (by decide))⟩
  have n3 : ∀ (M : List (Int × Int)), (∀ e ∈ M, 0 ≤ e.1 ∧ 0 ≤ e.2) → ∀ b ∈ M.map edgeL, b ≠ [] ∧ (44 : UInt8) ∉ b := fun M hM b hb => by
    obtain ⟨x, hx, rfl⟩ := List.mem_map.1 hb
    exact ⟨by unfold edgeL; simp, edgeL_not (hM x hx).1 (hM x hx).2 (.inl (by decide))⟩
  exact ⟨map_inj _ _ (fun x hx y hy => itoa_inj (hL x hx) (hL' y hy)) (join_inj _ _ (n2 L hL) (n2 L' hL') h1), map_inj _ _ (fun e he f hf => edgeL_inj (hE e he).1 (hE e he).2 (hE' f hf).1 (hE' f hf).2) (join_inj _ _ (n3 E hE) (n3 E' hE') h2)⟩
theorem textB_list (L : List Int) (E : List (Int × Int)) : (textB L E).data.toList = textL L E := by
  have e1 : (L.map itoaB).map (·.data.toList) = L.map Lib.itoa := by
    rw [List.map_map]
    exact List.map_congr_left fun x _ => by simp
  have e2 : (E.map edgeB).map (·.data.toList) = E.map edgeL := by
    rw [List.map_map]
    exact List.map_congr_left fun e _ => by simp [edgeB, edgeL]
  unfold textB joinB textL
  rw [e1, e2]
  simp
theorem textB_inj {L L' : List Int} {E E' : List (Int × Int)} (hL : ∀ x ∈ L, 0 ≤ x) (hL' : ∀ x ∈ L', 0 ≤ x) (hE : ∀ e ∈ E, 0 ≤ e.1 ∧ 0 ≤ e.2) (hE' : ∀ e ∈ E', 0 ≤ e.1 ∧ 0 ≤ e.2) :
    textB L E = textB L' E' ↔ L = L' ∧ E = E' := by
  constructor
  · intro h
    refine textL_inj hL hL' hE hE' ?_
    rw [← textB_list, ← textB_list, h]
  · rintro ⟨rfl, rfl⟩
    rfl
end Go.Proofs.YtbbmgcdocolakaaGreatDoor.Pt
/-
  The document's numbers as texts: Num, num.
-/
namespace Go.Proofs.YtbbmgcdocolakaaGreatDoor
open Go.RowKit
set_option maxRecDepth 100000
set_option linter.unusedVariables false

def decB (u : Nat) : ByteArray := ⟨(Lib.decDigits u).toArray⟩
theorem decB_step {u : Nat} (h : 10 ≤ u) : decB (u / 10) ++ decB (u % 10) = decB u := by
  have e : Lib.decDigits u = Lib.decDigits (u / 10) ++ Lib.decDigits (u % 10) := by
    conv => lhs; rw [Lib.decDigits, dif_neg (by omega)]
    congr 1
    rw [Lib.decDigits, dif_pos (Nat.mod_lt _ (by omega))]
  unfold decB
  rw [e]
  apply ByteArray.ext
  simp
theorem decB_one {u : Nat} (h : u < 10) : decB u = ⟨#[UInt8.ofNat (48 + u)]⟩ := by
  unfold decB
  rw [Lib.decDigits, dif_pos h]
theorem strOf_one {u : Nat} (h : u < 10) : strOfNums [((48 + u : Nat) : Int)] = decB u := by
  rw [decB_one h]
  unfold strOfNums
  simp only [List.map_cons, List.map_nil, Int.toNat_natCast]
set_option linter.unnecessarySimpa false in
theorem conv_one (w : World) (u : Nat) (h : u < 10) : (convert 42 9 (.slice (some ⟨w.heap.size, 0, none⟩) 1 1)).run Tryz.prog (w.alloc (.cells #[.int .u8 ((48 + u : Nat) : Int)] 5)) = .ok (.string (decB u)) (w.alloc (.cells #[.int .u8 ((48 + u : Nat) : Int)] 5)) := by
  rw [← strOf_one h]
  refine run_convert_bytes_arg (P := Tryz.prog) _ 42 5 Tryz.underlying42 Tryz.underlying5 _ 0 1 1 [((48 + u : Nat) : Int)] rfl (fun i hi => ?_) 9 Tryz.underlying9
  obtain rfl : i = 0 := by omega
  have c := (Blk.new w 5 #[.int .u8 ((48 + u : Nat) : Int)]).cell 0
  simpa using c

theorem decB_itoa (u : Nat) : itoaB (u : Int) = decB u := by
  unfold itoaB decB
  rw [Lib.itoa, if_neg (by omega), Int.toNat_natCast]
theorem decB_size {u : Nat} (h : u ≤ 9223372036854775807) : (decB u).size ≤ 21 := by
  rw [← decB_itoa]
  exact itoaB_size _ (by unfold i64P; omega)

set_option maxHeartbeats 4000000 in
theorem RefNum_any : ∀ (u : Nat) (w : World), u ≤ 9223372036854775807 → Calls Tryz.prog 9 #[.int .i64 (u : Int)] w fun e w' => e = .returned (.string (decB u)) ∧ Below w.heap.size w w' := by
  intro u
  induction u using Nat.strongRecOn with
  | ind u ih =>
    intro w hu
    have hu0 : (0 : Int) ≤ (u : Int) := by omega
    by_cases h9 : u < 10
    · have h9' : ¬ (9 : Int) < (u : Int) := by omega
      have hcv := conv_one w u h9
      have hw1 : IntKind.i64.wrap (48 + (u : Int)) = 48 + (u : Int) := by rw [IntKind.wrap_i64]; omega
      have hw2 : IntKind.u8.wrap (48 + (u : Int)) = 48 + (u : Int) := by unfold IntKind.wrap; simp [IntKind.bits, IntKind.signed]; omega
      rw [show ((48 + u : Nat) : Int) = 48 + (u : Int) from by omega] at hcv
      clear ih
      go_enter Tryz.func9, Tryz.ntmps9
      go_wp2_with fail
      go_ret
      exact ⟨rfl, bel_al (Below.refl _ _) _⟩
    · have h9' : (9 : Int) < (u : Int) := by omega
      have h1 := fun W => ih (u / 10) (by omega) W (by omega)
      have h2 := fun W => ih (u % 10) (by omega) W (by omega)
      rw [show ((u / 10 : Nat) : Int) = (u : Int) / 10 from by omega] at h1
      rw [show ((u % 10 : Nat) : Int) = (u : Int) % 10 from by omega] at h2
      have H1 := Lib.hid (h1 w)
      have H2 := Lib.hid h2
      have hst := decB_step (u := u) (by omega)
      have HSt := Lib.hid hst
      have z1 := decB_size (u := u / 10) (by omega)
      have z2 := decB_size (u := u % 10) (by omega)
      have hadd : ∀ W, (Op.stringOp .add (decB (u / 10)) (decB (u % 10))).run Tryz.prog W = .ok (.string (decB (u / 10) ++ decB (u % 10))) W := fun W => run_string_add_sum W _ _ (by omega)
      clear ih h1 h2 hst z1 z2
      go_enter Tryz.func9, Tryz.ntmps9
      go_wp2_with (first
        | (go_at_call 9; refine H1.out.mono ?_; clear H1; rintro e w1 ⟨rfl, hb⟩; have HB1 := Lib.hid hb; have H3 := Lib.hid (H2.out w1); clear H2 hb)
        | (go_at_call 9; refine H3.out.mono ?_; clear H3; rintro e w2 ⟨rfl, hb⟩; have HB2 := Lib.hid (HB1.out.andThen hb); clear hb)
        | fail)
      go_ret
      exact ⟨ret_eq (congrArg Value.string HSt.out), HB2.out⟩
theorem itoa_neg {u : Nat} (h : 1 ≤ u) : itoaB (-(u : Int)) = ⟨#[45]⟩ ++ decB u := by
  unfold itoaB decB
  rw [Lib.itoa, if_pos (by omega), Int.natAbs_neg, Int.natAbs_natCast]
  apply ByteArray.ext
  simp
theorem itoa_neg_step {u : Nat} (h : 10 ≤ u) : itoaB (-((u / 10 : Nat) : Int)) ++ decB (u % 10) = itoaB (-(u : Int)) := by
  rw [itoa_neg (by omega), itoa_neg (by omega), ByteArray.append_assoc, decB_step h]

end Go.Proofs.YtbbmgcdocolakaaGreatDoor
/-
  The lines of graphs: one more; how long they are.
-/
namespace Go.Proofs.YtbbmgcdocolakaaGreatDoor.Ld
open Go Go.Proofs.YtbbmgcdocolakaaGreatDoor.Tx Go.Proofs.YtbbmgcdocolakaaGreatDoor.Cf Go.Proofs.YtbbmgcdocolakaaGreatDoor.Pg
set_option linter.unusedVariables false

theorem dec_len5 {u : Nat} (h : u ≤ 1000000) : (Lib.decDigits u).length ≤ 21 := by
  have h1 := decB_size (u := u) (by omega)
  have h2 : (decB u).size = (Lib.decDigits u).length := by
    show (Lib.decDigits u).toArray.size = _
    simp
  omega
theorem tell_one5 (r : List UInt8) : tellL [r] = r ++ [10] := by simp [tellL]
theorem row3_len {k : UInt8} {a b : Nat} (ha : a ≤ 1000000) (hb : b ≤ 1000000) : (row3 k a b).length ≤ 45 := by
  have h1 := dec_len5 ha
  have h2 := dec_len5 hb
  unfold row3
  simp only [List.length_cons, List.length_append]
  omega
theorem vTell_snoc {L : List Int} {k : Nat} {x : Int} (hx : L[k]? = some x) : tellL (vRows 0 (L.take (k + 1))) = tellL (vRows 0 (L.take k)) ++ (row3 118 k x.toNat ++ [10]) := by
  obtain ⟨h1, h2⟩ := List.getElem?_eq_some_iff.1 hx
  rw [List.take_succ_eq_append_getElem h1, h2, vRows_snoc, tell_app, tell_one5, List.length_take, Nat.min_eq_left (by omega), Nat.zero_add]
theorem eTell_snoc {F : List (Int × Int)} {k : Nat} {e : Int × Int} (hx : F[k]? = some e) : tellL (eRows (F.take (k + 1))) = tellL (eRows (F.take k)) ++ (row3 101 e.1.toNat e.2.toNat ++ [10]) := by
  obtain ⟨h1, h2⟩ := List.getElem?_eq_some_iff.1 hx
  rw [List.take_succ_eq_append_getElem h1, h2]
  unfold eRows
  rw [List.map_append, tell_app, ← tell_one5]
  rfl
theorem vTell_len : ∀ (k : Nat) {L : List Int}, k ≤ L.length → L.length ≤ 4096 → (∀ x ∈ L, x ≤ 1000000) → (tellL (vRows 0 (L.take k))).length ≤ 46 * k
  | 0, L, _, _, _ => by simp [vRows, tellL]
  | k + 1, L, hk, hl, h => by
    have hx : L[k]? = some L[k] := List.getElem?_eq_getElem (by omega)
    rw [vTell_snoc hx, List.length_append, List.length_append]
    have h1 := vTell_len k (L := L) (by omega) hl h
    have h2 := h L[k] (List.getElem_mem _)
    have h3 := row3_len (k := 118) (a := k) (b := L[k].toNat) (by omega) (by omega)
    simp only [List.length_cons, List.length_nil]
    omega
theorem eTell_len : ∀ (k : Nat) {F : List (Int × Int)}, k ≤ F.length → (∀ e ∈ F, e.1 ≤ 1000000 ∧ e.2 ≤ 1000000) → (tellL (eRows (F.take k))).length ≤ 46 * k
  | 0, F, _, _ => by simp [eRows, tellL]
  | k + 1, F, hk, h => by
    have hx : F[k]? = some F[k] := List.getElem?_eq_getElem (by omega)
    rw [eTell_snoc hx, List.length_append, List.length_append]
    have h1 := eTell_len k (F := F) (by omega) h
    have h2 := h F[k] (List.getElem_mem _)
    have h3 := row3_len (k := 101) (a := F[k].1.toNat) (b := F[k].2.toNat) (by omega) (by omega)
    simp only [List.length_cons, List.length_nil]
    omega
/-- Labels and edges of a graph as they are printed: numbers from 0 on. -/
structure NatG (L : List Int) (F : List (Int × Int)) : Prop where
  l9 : L.length ≤ 4096
  f9 : F.length ≤ 16384
  lab : ∀ x ∈ L, 0 ≤ x ∧ x ≤ 1000000
  edg : ∀ e ∈ F, (0 ≤ e.1 ∧ e.1 ≤ 1000000) ∧ (0 ≤ e.2 ∧ e.2 ≤ 1000000)
theorem natG_of {L : List Int} {F : List (Int × Int)} (h1 : L.length ≤ 4096) (h2 : F.length ≤ 16384) (h3 : Gh.labsOK L) (h4 : Gh.Has L.length F) : NatG L F :=
  ⟨h1, h2, fun x hx => by have := h3 x hx; omega, fun e he => by
    have h := h4.ok e he
    unfold Pt.EdgeOK at h
    omega⟩
/-- Two texts, one behind the other. -/
theorem addT {S T : ByteArray} {l m r : List UInt8} (hS : S = bz l) (hT : T = bz m) (hr : l ++ m = r) (h : r.length ≤ 10000000) {R : ByteArray} (hR : R = bz r) (W : World) : (Op.stringOp .add S T).run Tryz.prog W = .ok (.string R) W := by
  subst hS hT hR hr
  rw [List.length_append] at h
  rw [run_string_add_sum W _ _ (by rw [bz_size, bz_size]; omega), show bz l ++ bz m = bz (l ++ m) from by apply ByteArray.ext; simp]
/-- What is put behind, piece by piece. -/
theorem pieces (T : List UInt8) (k : UInt8) (a b : Nat) : ((((T ++ [k, 32]) ++ Lib.decDigits a) ++ [32]) ++ Lib.decDigits b) ++ [10] = T ++ (row3 k a b ++ [10]) := by
  unfold row3
  simp
end Go.Proofs.YtbbmgcdocolakaaGreatDoor.Ld
/-
  fretworkref05.Print: the document's text of a graph.
-/
namespace Go.Proofs.YtbbmgcdocolakaaGreatDoor
open Go.RowKit Go.Proofs.YtbbmgcdocolakaaGreatDoor.Pg Go.Proofs.YtbbmgcdocolakaaGreatDoor.Tx Go.Proofs.YtbbmgcdocolakaaGreatDoor.Cf
attribute [local go_sem ↓] Go.wp_at_zero Go.wp_at_succ
set_option maxRecDepth 100000
set_option linter.unusedVariables false

/-- The facts of one line's pieces. -/
theorem line_facts (T : List UInt8) (k : UInt8) (a b : Nat) (ha : a ≤ 1000000) (hb : b ≤ 1000000) (hT : T.length ≤ 5000000) :
    ∃ X1 X2 X3 X4 : ByteArray, (∀ W, (Op.stringOp .add (bz T) ⟨#[k, 32]⟩).run Tryz.prog W = .ok (.string X1) W) ∧ (∀ W, (Op.stringOp .add X1 (decB a)).run Tryz.prog W = .ok (.string X2) W) ∧ (∀ W, (Op.stringOp .add X2 ⟨#[32]⟩).run Tryz.prog W = .ok (.string X3) W) ∧
      (∀ W, (Op.stringOp .add X3 (decB b)).run Tryz.prog W = .ok (.string X4) W) ∧ (∀ W, (Op.stringOp .add X4 ⟨#[10]⟩).run Tryz.prog W = .ok (.string (bz (T ++ (Ld.row3 k a b ++ [10])))) W) := by
  have h1 := Ld.dec_len5 ha
  have h2 := Ld.dec_len5 hb
  refine ⟨bz (T ++ [k, 32]), bz ((T ++ [k, 32]) ++ Lib.decDigits a), bz (((T ++ [k, 32]) ++ Lib.decDigits a) ++ [32]), bz ((((T ++ [k, 32]) ++ Lib.decDigits a) ++ [32]) ++ Lib.decDigits b), ?_, ?_, ?_, ?_, ?_⟩
  · exact Ld.addT (m := [k, 32]) rfl rfl rfl (by simp; omega) rfl
  · exact Ld.addT (m := Lib.decDigits a) rfl rfl rfl (by simp; omega) rfl
  · exact Ld.addT (m := [32]) rfl rfl rfl (by simp; omega) rfl
  · exact Ld.addT (m := Lib.decDigits b) rfl rfl rfl (by simp; omega) rfl
  · exact Ld.addT (m := [10]) rfl rfl (Ld.pieces T k a b) (by rw [← Ld.pieces]; simp; omega) rfl
set_option maxHeartbeats 8000000 in
theorem RPrint_any {L : List Int} {F : List (Int × Int)} {A D : Option Addr} {n c m dk : Nat} {w : World} (hl : L.length = n) (hN : Ld.NatG L F) (hs : Sl w 1 A n (L.map (Value.int .i64))) (ht : Sl w 2 D m (Rk.cells F)) :
    Calls Tryz.prog 23 #[.agg #[.slice A n c, .slice D m dk]] w fun e w' => e = .returned (.string (bz (Ld.printL L F))) ∧ Below w.heap.size w w' := by
  have HNg := Lib.hid hN
  have HL := Lib.hid hl
  have HM := Lib.hid ht.len2
  have hn9 : n ≤ 4096 := by rw [← hl]; exact hN.l9
  have hm9 : m ≤ 16384 := by rw [← HM.out]; exact hN.f9
  obtain ⟨w0, hw0⟩ : ∃ W, W = w.alloc (.cells #[.slice A n c, .slice D m dk] 27) := ⟨_, rfl⟩
  have HB0 := Lib.hid (show Below w.heap.size w w0 from by rw [hw0]; exact bel_al (Below.refl _ _) _)
  have HK0 := Lib.hid (show Blk w0 w.heap.size 27 #[.slice A n c, .slice D m dk] from by rw [hw0]; exact Blk.new _ _ _)
  have HS := Lib.hid (hs.keep HB0.out)
  have HT := Lib.hid (ht.keep HB0.out)
  clear hN hl hs ht
  go_enter Tryz.func23, Tryz.ntmps23
  go_upto_region 1 with (fail)
  rw [← hw0]
  clear hw0
  go_wp2_with fail
  go_loopw [3, 4] (fun sv kv wr => ∃ k : Nat, k ≤ n ∧ sv = .string (bz (tellL (Ld.vRows 0 (L.take k)))) ∧ kv = .int .i64 (k : Int) ∧ Hid (Below w0.heap.size w0 wr)) (fun _ kv _ => n - (intOf kv).toNat)
  case atStart => exact ⟨0, Nat.zero_le _, rfl, rfl, Lib.hid (Below.refl _ _)⟩
  case round =>
    obtain ⟨k, hk, rfl, rfl, HB⟩ := hrel
    have HKw := Lib.hid (HK0.out.keep HB.out)
    have k0 := HKw.out.cell 0
    have k1 := HKw.out.cell 1
    simp at k0 k1
    by_cases hlt : k < n
    · have hlt' : (k : Int) < (n : Int) := by omega
      have hk0 : (0 : Int) ≤ (k : Int) := by omega
      obtain ⟨x, hx⟩ : ∃ x, L[k]? = some x := ⟨_, List.getElem?_eq_getElem (by rw [HL.out]; exact hlt)⟩
      have hx9 := HNg.out.lab x (List.mem_of_getElem? hx)
      obtain ⟨v, rfl⟩ : ∃ v : Nat, x = (v : Int) := ⟨x.toNat, by omega⟩
      obtain ⟨b1, o1, hA, _⟩ := (HS.out.keep HB.out).at_ hlt
      subst hA
      have HAll := Lib.hid (show ∀ W, Below wr.heap.size wr W → (W.cell? ⟨w.heap.size, 0, none⟩ = some (.slice (some ⟨b1, o1, none⟩) n c)) ∧ W.cell? ⟨b1, o1 + k, none⟩ = some (.int .i64 (v : Int)) from fun W hW => by
        have h1 := (HKw.out.keep hW).cell 0
        simp at h1
        exact ⟨h1, ((HS.out.keep HB.out).keep hW).again hlt (by rw [List.getElem?_map, hx]; rfl)⟩)
      have hvl := Ld.vTell_len k (L := L) (by rw [HL.out]; exact hk) HNg.out.l9 (fun x hx => (HNg.out.lab x hx).2)
      obtain ⟨X1, X2, X3, X4, a1, a2, a3, a4, a5⟩ := line_facts (tellL (Ld.vRows 0 (L.take k))) 118 k v (by omega) (by omega) (by omega)
      have HS5 := Lib.hid (Ld.vTell_snoc hx)
      obtain ⟨T, hT⟩ : ∃ T, T = bz (tellL (Ld.vRows 0 (L.take k))) := ⟨_, rfl⟩
      obtain ⟨U, hU⟩ : ∃ U, U = bz (tellL (Ld.vRows 0 (L.take k)) ++ (Ld.row3 118 k v ++ [10])) := ⟨_, rfl⟩
      have HU := Lib.hid hU
      rw [← hT] at a1
      rw [← hU] at a5
      rw [← hT]
      have HN1 := Lib.hid (show ∀ W, Below wr.heap.size wr W → Calls Tryz.prog 9 #[.int .i64 (k : Int)] W fun e w' => e = .returned (.string (decB k)) ∧ Below wr.heap.size wr w' from fun W hW => (RefNum_any k W (by omega)).mono fun e w' h => ⟨h.1, hW.andThen h.2⟩)
      have HN2 := Lib.hid (show ∀ W, Below wr.heap.size wr W → Calls Tryz.prog 9 #[.int .i64 (v : Int)] W fun e w' => e = .returned (.string (decB v)) ∧ Below wr.heap.size wr w' from fun W hW => (RefNum_any v W (by omega)).mono fun e w' h => ⟨h.1, hW.andThen h.2⟩)
      generalize decB k = D1 at *
      generalize decB v = D2 at *
      clear hT hU hx hx9 hvl
      go_upto_region 5 with (fail)
      refine wp_region_qq (fun W => Below wr.heap.size wr W) (by kernel_rfl) (by kernel_rfl) (bel_drewN (Below.refl _ _) 1) ?_
      repeat (
        first
          | (apply qq_want
             · rfl
             · intro W hW
               have zz := HAll.out W hW
               go_simp
               first
                 | done
                 | exact rfl
                 | with_reducible exact HN1.out W hW
                 | with_reducible exact HN2.out W hW)
          | (refine qq_pass ?_ ?_
             · rfl)
        try simp only [Act.put, List.setIfInBounds_toArray, List.set_cons_zero, List.set_cons_succ])
      refine qq_nil ?_
      intro wq hbq
      have HBq := Lib.hid (HB.out.andThen hbq)
      clear hbq
      go_wp2_with fail
      go_roundw
      case rel => exact ⟨k + 1, by omega, by rw [HU.out, HS5.out]; rfl, by go_num, HBq⟩
      case measure => simp [intOf]; omega
    obtain rfl : k = n := by omega
    have hlt' : ¬ (k : Int) < (k : Int) := by omega
    rw [List.take_of_length_le (Nat.le_of_eq HL.out)]
    have hvl : (tellL (Ld.vRows 0 L)).length ≤ 46 * 4096 := by
      have h := Ld.vTell_len L.length (L := L) (Nat.le_refl _) HNg.out.l9 (fun x hx => (HNg.out.lab x hx).2)
      rw [List.take_length] at h
      have := HNg.out.l9
      omega
    obtain ⟨W1, hW1⟩ : ∃ W, W = wr := ⟨_, rfl⟩
    rw [← hW1] at HB HKw k0 k1 ⊢
    clear hW1
    obtain ⟨V, hV⟩ : ∃ V, V = tellL (Ld.vRows 0 L) := ⟨_, rfl⟩
    have HV := Lib.hid hV
    rw [← hV] at hvl ⊢
    clear hV
    go_upto_region 7 with (fail)
    go_loopw [3, 5] (fun sv kv wr => ∃ j : Nat, j ≤ m ∧ sv = .string (bz (V ++ tellL (Ld.eRows (F.take j)))) ∧ kv = .int .i64 (j : Int) ∧ Hid (Below W1.heap.size W1 wr)) (fun _ kv _ => m - (intOf kv).toNat)
    case atStart => exact ⟨0, Nat.zero_le _, by simp [Ld.eRows, tellL], rfl, Lib.hid (Below.refl _ _)⟩
    case round =>
      obtain ⟨j, hj, rfl, rfl, HBj⟩ := hrel
      have HKj := Lib.hid (HKw.out.keep HBj.out)
      have k0 := HKj.out.cell 0
      have k1 := HKj.out.cell 1
      simp at k0 k1
      by_cases hlt : j < m
      · have hlt' : (j : Int) < (m : Int) := by omega
        have hj0 : (0 : Int) ≤ (j : Int) := by omega
        obtain ⟨⟨x, y⟩, he⟩ : ∃ e, F[j]? = some e := ⟨_, List.getElem?_eq_getElem (by rw [HM.out]; exact hlt)⟩
        have he9 := HNg.out.edg _ (List.mem_of_getElem? he)
        simp only at he9
        obtain ⟨u, rfl⟩ : ∃ u : Nat, x = (u : Int) := ⟨x.toNat, by omega⟩
        obtain ⟨v, rfl⟩ : ∃ v : Nat, y = (v : Int) := ⟨y.toNat, by omega⟩
        have HTj := Lib.hid ((HT.out.keep HB.out).keep HBj.out)
        obtain ⟨b2, o2, hDD, _, _⟩ := HTj.out.edge hlt he
        subst hDD
        have HAll := Lib.hid (show ∀ W, Below wr.heap.size wr W → (W.cell? ⟨w.heap.size, 1, none⟩ = some (.slice (some ⟨b2, o2, none⟩) m dk)) ∧ W.cell? ⟨b2, o2 + j * 2, none⟩ = some (.int .i64 (u : Int)) ∧ W.cell? ⟨b2, o2 + j * 2 + 1, none⟩ = some (.int .i64 (v : Int)) from fun W hW => by
          have h1 := (HKj.out.keep hW).cell 1
          simp at h1
          obtain ⟨b3, o3, hD3, c0, c1⟩ := (HTj.out.keep hW).edge hlt he
          injection hD3 with hD3
          injection hD3 with h2 h3
          subst h2 h3
          exact ⟨h1, c0, c1⟩)
        have hel := Ld.eTell_len j (F := F) (by rw [HM.out]; exact hj) (fun e he => ⟨(HNg.out.edg e he).1.2, (HNg.out.edg e he).2.2⟩)
        obtain ⟨X1, X2, X3, X4, a1, a2, a3, a4, a5⟩ := line_facts (V ++ tellL (Ld.eRows (F.take j))) 101 u v (by omega) (by omega) (by rw [List.length_append]; omega)
        have HS5 := Lib.hid (Ld.eTell_snoc he)
        obtain ⟨T, hT⟩ : ∃ T, T = bz (V ++ tellL (Ld.eRows (F.take j))) := ⟨_, rfl⟩
        obtain ⟨U, hU⟩ : ∃ U, U = bz ((V ++ tellL (Ld.eRows (F.take j))) ++ (Ld.row3 101 u v ++ [10])) := ⟨_, rfl⟩
        have HU := Lib.hid hU
        rw [← hT] at a1
        rw [← hU] at a5
        rw [← hT]
        have HN1 := Lib.hid (show ∀ W, Below wr.heap.size wr W → Calls Tryz.prog 9 #[.int .i64 (u : Int)] W fun e w' => e = .returned (.string (decB u)) ∧ Below wr.heap.size wr w' from fun W hW => (RefNum_any u W (by omega)).mono fun e w' h => ⟨h.1, hW.andThen h.2⟩)
        have HN2 := Lib.hid (show ∀ W, Below wr.heap.size wr W → Calls Tryz.prog 9 #[.int .i64 (v : Int)] W fun e w' => e = .returned (.string (decB v)) ∧ Below wr.heap.size wr w' from fun W hW => (RefNum_any v W (by omega)).mono fun e w' h => ⟨h.1, hW.andThen h.2⟩)
        generalize decB u = D1 at *
        generalize decB v = D2 at *
        clear hT hU he he9 hel
        go_upto_region 9 with (fail)
        refine wp_region_qq (fun W => Below wr.heap.size wr W) (by kernel_rfl) (by kernel_rfl) (bel_drewN (Below.refl _ _) 1) ?_
        repeat (
          first
            | (apply qq_want
               · rfl
               · intro W hW
                 have zz := HAll.out W hW
                 go_simp
                 first
                   | done
                   | exact rfl
                   | with_reducible exact HN1.out W hW
                   | with_reducible exact HN2.out W hW)
            | (refine qq_pass ?_ ?_
               · rfl)
          try simp only [Act.put, List.setIfInBounds_toArray, List.set_cons_zero, List.set_cons_succ])
        refine qq_nil ?_
        intro wq hbq
        have HBq := Lib.hid (HBj.out.andThen hbq)
        clear hbq
        go_wp2_with fail
        go_roundw
        case rel => exact ⟨j + 1, by omega, by rw [HU.out, HS5.out, List.append_assoc]; rfl, by go_num, HBq⟩
        case measure => simp [intOf]; omega
      obtain rfl : j = m := by omega
      have hlt' : ¬ (j : Int) < (j : Int) := by omega
      have HFin := Lib.hid (show bz (V ++ tellL (Ld.eRows (F.take j))) = bz (Ld.printL L F) from by
        rw [List.take_of_length_le (Nat.le_of_eq HM.out), HV.out]
        rfl)
      generalize bz (V ++ tellL (Ld.eRows (F.take j))) = Z at HFin ⊢
      go_wp2_with fail
      go_ret
      exact ⟨ret_eq (congrArg Value.string HFin.out), (HB0.out.andThen HB.out).andThen HBj.out⟩
end Go.Proofs.YtbbmgcdocolakaaGreatDoor
/-
  A region that draws its order, its values fixed but for a tail that waits for all else: the head in any order by one walk, then the tail.
-/
namespace Go.Proofs.YtbbmgcdocolakaaGreatDoor
open Go.RowKit
set_option linter.unusedVariables false

/-- Some operations are listed, none of those that follow. -/
def extB (b : Array Bool) (m : Nat) : Array Bool := b ++ Array.replicate m false
theorem extB_left {b : Array Bool} {m j : Nat} (h : j < b.size) (d : Bool) : (extB b m).getD j d = b.getD j d := by
  rw [Array.getD_eq_getD_getElem?, Array.getD_eq_getD_getElem?, extB, Array.getElem?_append_left h]
theorem extB_set {b : Array Bool} {m i : Nat} (h : i < b.size) : (extB b m).setIfInBounds i true = extB (b.setIfInBounds i true) m := by
  apply Array.ext'
  simp only [extB, Array.toList_setIfInBounds, Array.toList_append]
  rw [List.set_append_left _ _ (by simpa using h)]
/-- The head's operations: none is guarded; each waits for earlier ones alone. -/
def headB (ops : Array Oper) (n : Nat) : Bool := (List.range n).all fun j => match ops[j]? with
  | some o => o.guard.isNone && o.after.all fun e => decide (e.on < j)
  | none => false
theorem headB_at {ops : Array Oper} {n j : Nat} (h : headB ops n = true) (hj : j < n) : ∃ o, ops[j]? = some o ∧ o.guard = none ∧ ∀ e ∈ o.after, e.on < j := by
  have h1 := List.all_eq_true.1 h j (List.mem_range.2 hj)
  split at h1
  · rename_i o ho
    rw [Bool.and_eq_true] at h1
    refine ⟨o, ho, Option.isNone_iff_eq_none.1 h1.1, fun e he => ?_⟩
    have h2 := Array.all_eq_true'.1 h1.2 e he
    exact of_decide_eq_true h2
  · cases h1
section
variable {P : Program} {l : List Oper} {C : World → Prop} {Q' : Exit → Act → World → Prop} {n : Nat}
theorem open_ready {md : Region.Mode} {ops : Array Oper} {listed : Array Bool} (hh : headB ops n = true) : ∀ (j : Nat), j < n → j < listed.size → listed.getD j true = false → ∃ i, i ∈ Region.ready md ops listed := by
  intro j
  induction j using Nat.strongRecOn with
  | ind j ih =>
    intro hj hs ho
    obtain ⟨o, h1, h2, h3⟩ := headB_at hh hj
    by_cases hall : ∀ e ∈ o.after, Region.binds md e = true → listed.getD e.on false = true
    · exact ⟨j, mem_ready.2 ⟨ho, o, h1, hall⟩⟩
    · obtain ⟨e, hall⟩ := Classical.not_forall.1 hall
      obtain ⟨he, hall⟩ := Classical.not_imp.1 hall
      obtain ⟨hb, hall⟩ := Classical.not_imp.1 hall
      have hlt := h3 e he
      refine ih e.on hlt (by omega) (by omega) ?_
      have hsz : e.on < listed.size := by omega
      simp [hsz] at hall ⊢
      exact hall
/-- What comes behind number n waits for it, or for another one behind it. -/
def behindB (md : Region.Mode) (ops : Array Oper) (n : Nat) : Bool := (List.range ops.size).all fun t => decide (t ≤ n) || (match ops[t]? with
  | some o => o.after.any fun e => Region.binds md e && decide (n ≤ e.on)
  | none => true)
theorem extB_right {b : Array Bool} {m j : Nat} (h : b.size ≤ j) : (extB b m).getD j false = false := by
  rw [Array.getD_eq_getD_getElem?, extB, Array.getElem?_append, if_neg (by omega), Array.getElem?_replicate]
  split <;> rfl
theorem extB_size (b : Array Bool) (m : Nat) : (extB b m).size = b.size + m := by simp [extB]
theorem behind_waits {md : Region.Mode} {ops : Array Oper} {b : Array Bool} {m t : Nat} (hb : b.size = n) (h : behindB md ops n = true) (ht : n < t) : t ∉ Region.ready md ops (extB b m) := fun hr => by
  obtain ⟨_, o, ho, hall⟩ := mem_ready.1 hr
  have htl : t < ops.size := (Array.getElem?_eq_some_iff.1 ho).1
  have h1 := List.all_eq_true.1 h t (List.mem_range.2 htl)
  rw [ho] at h1
  simp only [Bool.or_eq_true, decide_eq_true_eq] at h1
  rcases h1 with h1 | h1
  · omega
  · obtain ⟨e, he, h2⟩ := Array.any_eq_true'.1 h1
    simp only [Bool.and_eq_true, decide_eq_true_eq] at h2
    have h3 := hall e he h2.1
    rw [extB_right (by omega)] at h3
    cases h3
theorem wpAny_tail {T : Act → World → Prop} (hh : headB l.toArray (n + 1) = true) (hn : n < l.length) (hs : Region.sinkB .any (l.take (n + 1)).toArray n = true) (hbh : behindB .any l.toArray n = true)
    (hT : ∀ a W, T a W → wpAny P .any l.toArray Q' (l.length - n) (extB (Array.replicate n true) (l.length - n)) a W) :
    ∀ (fuel : Nat) (b : Array Bool) (a : Act) (W : World), b.size = n → (b.toList.filter (! ·)).length = fuel → HeadInv .any (l.take (n + 1)).toArray n (extB b 1) → C W →
      wpAnyQ P .any (l.take n).toArray C (fun a' => ∀ W', C W' → T a' W') fuel b a → wpAny P .any l.toArray Q' (fuel + (l.length - n)) (extB b (l.length - n)) a W
  | 0, b, a, W, hb, hf, inv, hC, h => by
    have hbt : b = Array.replicate n true := by
      apply Array.ext'
      rw [Array.toList_replicate]
      refine List.eq_replicate_iff.2 ⟨by rw [Array.length_toList, hb], fun x hx => ?_⟩
      have h0 := List.eq_nil_of_length_eq_zero hf
      cases x with
      | true => rfl
      | false =>
        have h1 : false ∈ b.toList.filter (! ·) := List.mem_filter.2 ⟨hx, rfl⟩
        rw [h0] at h1
        cases h1
    subst hbt
    rw [Nat.zero_add]
    exact hT a W (h.2 W hC)
  | fuel + 1, b, a, W, hb, hf, inv, hC, h => by
    obtain ⟨x, hx⟩ : ∃ j, j < n ∧ b.getD j true = false := by
      have h0 : (b.toList.filter (! ·)) ≠ [] := fun e => by rw [e] at hf; cases hf
      obtain ⟨x, hx⟩ := List.exists_mem_of_ne_nil _ h0
      obtain ⟨hx1, hx2⟩ := List.mem_filter.1 hx
      obtain ⟨j, hj, hj2⟩ := List.mem_iff_getElem.1 hx1
      rw [Array.length_toList] at hj
      refine ⟨j, by omega, ?_⟩
      rw [Array.getElem_toList] at hj2
      simp [hj, hj2]
      simpa using hx2
    have hxe : ∀ m, (extB b m).getD x true = false := fun m => by rw [extB_left (by omega)]; exact hx.2
    rw [show fuel + 1 + (l.length - n) = (fuel + (l.length - n)) + 1 by omega]
    refine ⟨fun h0 => ?_, fun i hi => ?_⟩
    · obtain ⟨i, hi⟩ := open_ready (md := .any) (listed := extB b (l.length - n)) hh x (by omega) (by rw [extB_size]; omega) (hxe _)
      rw [h0] at hi
      cases hi
    · have hle : i ≤ n := by
        rcases Nat.lt_or_ge n i with h1 | h1
        · exact absurd hi (behind_waits hb hbh h1)
        · exact h1
      obtain ⟨o, ho, hg, haf⟩ := headB_at hh (show i < n + 1 by omega)
      obtain ⟨h1, o', h2, h3⟩ := mem_ready.1 hi
      obtain rfl : o' = o := Option.some.inj (h2.symm.trans ho)
      have hol : l[i]? = some o' := by simpa using ho
      have hot : (l.take (n + 1)).toArray[i]? = some o' := by
        simp [show i < n + 1 by omega, hol]
      have hit : i ∈ Region.ready .any (l.take (n + 1)).toArray (extB b 1) := mem_ready.2 ⟨by
          rcases Nat.lt_or_ge i n with h4 | h4
          · rw [extB_left (by omega)] at h1
            rw [extB_left (by omega)]
            exact h1
          · obtain rfl : i = n := by omega
            rw [Array.getD_eq_getD_getElem?, extB, Array.getElem?_append, if_neg (by omega), Array.getElem?_replicate, if_pos (by omega)]
            rfl, o', hot, fun e he hb' => by
          have h4 := h3 e he hb'
          have h5 := haf e he
          rw [extB_left (by omega)] at h4
          rw [extB_left (by omega)]
          exact h4⟩
      have hin : i < n := by
        rcases Nat.lt_or_ge i n with h4 | h4
        · exact h4
        · have hsz : (l.take (n + 1)).toArray.size = n + 1 := by simp; omega
          exact absurd hit (tail_waits hs (List.all_eq_true.2 fun t ht => by
            rw [hsz] at ht
            have := List.mem_range.1 ht
            simp only [Bool.or_eq_true, decide_eq_true_eq]
            left
            omega) (by omega) inv _ x rfl hx.1 (hxe 1) i h4)
      have ho' : (l.take n).toArray[i]? = some o' := by
        simp [hin, hol]
      have hi' : i ∈ Region.ready .any (l.take n).toArray b := mem_ready.2 ⟨by rwa [extB_left (by omega)] at h1, o', ho', fun e he hb' => by
        have h4 := h3 e he hb'
        rwa [extB_left (by have := haf e he; omega)] at h4⟩
      have h4 := h.2 i hi'
      have hwt : ∀ f : Nat → Option Bool, Region.wanted o' f = true := fun f => by unfold Region.wanted; rw [hg]
      have h5 : qOp P l.toArray C i (wpAnyQ P .any (l.take n).toArray C (fun a' => ∀ W', C W' → T a' W') fuel (b.setIfInBounds i true)) a := by
        unfold qOp at h4 ⊢
        simp only [ho', ho, hwt, if_true] at h4 ⊢
        exact h4
      refine wpOp_of_qOp hC (fun a' W' hC' hK => ?_) h5
      rw [extB_set (by omega)]
      refine wpAny_tail hh hn hs hbh hT fuel (b.setIfInBounds i true) a' W' (by simpa using hb) ?_ ?_ hC' hK
      · have h6 := set_fewer b.toList i (ready_open hi')
        rw [Array.toList_setIfInBounds]
        omega
      · rw [← extB_set (by omega)]
        exact inv.set hit hin
/-- The head in any order, each value fixed; then one operation of any kind; then the rest in any order, the world being left. -/
theorem wp_region_qtail {id : Nat} {a : Act} {w : World} {o : Oper} (C : World → Prop) (n : Nat) (ho : l[n]? = some o) (hm : P.follows .mixedOrders = true)
    (hB : (Region.lexB .any (l.take n).toArray && headB l.toArray (n + 1) && decide (n < l.length) && Region.sinkB .any (l.take (n + 1)).toArray n && behindB .any l.toArray n && Region.noSelect l.toArray &&
      decide (Region.ready .any l.toArray (extB (Array.replicate n true) (l.length - n)) = [n]) && Region.lexFrom .any l.toArray (l.length - (n + 1)) (n + 1) (extB (Array.replicate (n + 1) true) (l.length - (n + 1)))) = true) (hC : C w.drew)
    (h : QQ P (l.take n).toArray C (fun a' => ∀ W', C W' → o.wp P a' W' (fun a2 W2 => QQ P l.toArray (fun V => V = W2) (fun a3 => Q' .normal a3 W2) (l.drop (n + 1)) a2) Q') (l.take n) a) : (Code.region id l.toArray true).wp P Q' a w := by
  simp only [Bool.and_eq_true, decide_eq_true_eq] at hB
  obtain ⟨⟨⟨⟨⟨⟨⟨hl, hh⟩, hn⟩, hs⟩, hbh⟩, hns⟩, hrd⟩, hlx⟩ := hB
  simp only [Region.lexB, Bool.and_eq_true] at hl
  have htl : (l.take n).length = n := by simp; omega
  have h1 := wpAnyQ_lex (C := C) (md := .any) (P := P) hl.1 (l.take n) 0 (Array.replicate n false) a (by simp) (by have := hl.2; simpa [htl] using this) h.out
  rw [htl] at h1
  have hsz : (l.take (n + 1)).toArray.size = n + 1 := by simp; omega
  have inv : HeadInv .any (l.take (n + 1)).toArray n (extB (Array.replicate n false) 1) := by
    have hz : ∀ k, (extB (Array.replicate n false) 1).getD k false = false := fun k => by
      rw [Array.getD_eq_getD_getElem?, extB, Array.getElem?_append]
      split
      · rw [Array.getElem?_replicate]; split <;> rfl
      · rw [Array.getElem?_replicate]; split <;> rfl
    refine ⟨by rw [hsz, extB_size]; simp, fun j oj _ hj => ?_, fun t ht ht' => ?_⟩
    · rw [hz j] at hj
      cases hj
    · rw [Array.getD_eq_getD_getElem?, extB, Array.getElem?_append]
      rw [if_neg (by simp; omega), Array.getElem?_replicate, if_pos (by simp; omega)]
      rfl
  obtain ⟨o', ho1, hg, _⟩ := headB_at hh (Nat.lt_succ_self n)
  have hoa : l.toArray[n]? = some o := by simpa using ho
  obtain rfl : o' = o := Option.some.inj (ho1.symm.trans hoa)
  have hfull : (extB (Array.replicate n true) (l.length - n)).setIfInBounds n true = extB (Array.replicate (n + 1) true) (l.length - (n + 1)) := by
    apply Array.ext'
    simp only [extB, Array.toList_setIfInBounds, Array.toList_append, Array.toList_replicate]
    rw [show l.length - n = (l.length - (n + 1)) + 1 by omega, List.replicate_succ, List.set_append_right _ _ (by simp)]
    simp [List.replicate_succ']
  have h2 := wpAny_tail (Q' := Q') (P := P) (C := C) (T := fun a' W' => o'.wp P a' W' (fun a2 W2 => QQ P l.toArray (fun V => V = W2) (fun a3 => Q' .normal a3 W2) (l.drop (n + 1)) a2) Q') hh hn hs hbh (fun a' W' ht => by
    rw [show l.length - n = (l.length - (n + 1)) + 1 by omega]
    refine ⟨fun h0 => ?_, fun i hi => ?_⟩
    · rw [show (l.length - (n + 1)) + 1 = l.length - n by omega, hrd] at h0
      cases h0
    · rw [show (l.length - (n + 1)) + 1 = l.length - n by omega, hrd] at hi
      obtain rfl := List.mem_singleton.1 hi
      have hw : wpOp P l.toArray Q' i (fun a2 W2 => QQ P l.toArray (fun V => V = W2) (fun a3 => Q' .normal a3 W2) (l.drop (i + 1)) a2) a' W' := by
        unfold wpOp
        simp only [hoa]
        rw [if_pos (by unfold Region.wanted; rw [hg])]
        exact .inl ht
      refine wpOp_mono (fun a2 W2 hK => ?_) hw
      rw [show (l.length - (i + 1)) + 1 = l.length - i by omega, hfull]
      have h3 := wpAnyQ_lex (C := fun V => V = W2) (md := .any) (P := P) hns (l.drop (i + 1)) (i + 1) (extB (Array.replicate (i + 1) true) (l.length - (i + 1))) a2 (fun j => by rw [List.getElem?_drop]; simp) (by rw [List.length_drop]; exact hlx) hK.out
      rw [List.length_drop] at h3
      exact wpAny_of_quiet (C := fun V => V = W2) (Q := fun a3 => Q' .normal a3 W2) (fun a3 V hV hQ => by have hV : V = W2 := hV; rw [hV]; exact hQ) _ _ _ _ rfl h3) n (Array.replicate n false) a w.drew (by simp) (by simp) inv hC h1
  refine wp_region_any hm ?_
  have e1 : extB (Array.replicate n false) (l.length - n) = Array.replicate l.toArray.size false := by
    apply Array.ext'
    simp only [extB, Array.toList_append, Array.toList_replicate]
    rw [List.replicate_append_replicate]
    simp
    omega
  rw [e1, show n + (l.length - n) = l.length by omega] at h2
  simpa using h2
end
end Go.Proofs.YtbbmgcdocolakaaGreatDoor
