/-
  Part 23 of the proof of LoadSpoilt: PatT, PatN, LdN, LdQ.
-/
import Derived.Test.YtbbmgcdocolakaaGreatDoorLoadSpoiltM3
import Derived.Test.YtbbmgcdocolakaaGreatDoorLoadSpoiltM2
import Derived.BigQuiet
import Derived.Test.YtbbmgcdocolakaaGreatDoorLoadSpoiltM5
import Derived.Test.YtbbmgcdocolakaaGreatDoorLoadSpoiltM16
import Derived.Test.YtbbmgcdocolakaaGreatDoorLoadSpoiltM4
import Derived.Test.YtbbmgcdocolakaaGreatDoorLoadSpoiltM20
import Derived.Test.YtbbmgcdocolakaaGreatDoorLoadSpoiltM21
set_option linter.unusedVariables false
/-
  A pattern's text tells the pattern (plain).
-/
namespace Go.Proofs.YtbbmgcdocolakaaGreatDoor.Pt
set_option linter.unusedVariables false

def val (l : List UInt8) : Nat := l.foldl (fun a d => a * 10 + (d.toNat - 48)) 0
theorem val_snoc (l : List UInt8) (d : UInt8) : val (l ++ [d]) = val l * 10 + (d.toNat - 48) := by simp [val]
theorem dig_nat {u : Nat} (h : u < 10) : (UInt8.ofNat (48 + u)).toNat = 48 + u := by
  rw [UInt8.toNat_ofNat']
  omega
theorem val_dec (u : Nat) : val (Lib.decDigits u) = u := by
  rw [Lib.decDigits]
  split
  · rename_i h
    show 0 * 10 + ((UInt8.ofNat (48 + u)).toNat - 48) = u
    rw [dig_nat h]
    omega
  · rw [val_snoc, val_dec (u / 10), dig_nat (Nat.mod_lt _ (by omega))]
    omega
termination_by u
decreasing_by omega
theorem dec_dig (u : Nat) : ∀ d ∈ Lib.decDigits u, 48 ≤ d.toNat ∧ d.toNat ≤ 57 := by
  rw [Lib.decDigits]
  split
  · rename_i h
    intro d hd
    obtain rfl := List.mem_singleton.1 hd
    rw [dig_nat h]
    omega
  · intro d hd
    rcases List.mem_append.1 hd with hd | hd
    · exact dec_dig (u / 10) d hd
    · obtain rfl := List.mem_singleton.1 hd
      rw [dig_nat (Nat.mod_lt _ (by omega))]
      omega
termination_by u
decreasing_by omega
theorem dec_ne (u : Nat) : Lib.decDigits u ≠ [] := by
  rw [Lib.decDigits]
  split <;> simp
theorem itoa_pos {x : Int} (h : 0 ≤ x) : Lib.itoa x = Lib.decDigits x.toNat := by unfold Lib.itoa; rw [if_neg (by omega)]
theorem itoa_inj {x y : Int} (hx : 0 ≤ x) (hy : 0 ≤ y) (h : Lib.itoa x = Lib.itoa y) : x = y := by
  rw [itoa_pos hx, itoa_pos hy] at h
  have := congrArg val h
  rw [val_dec, val_dec] at this
  omega
theorem itoa_dig {x : Int} (h : 0 ≤ x) : ∀ d ∈ Lib.itoa x, 48 ≤ d.toNat ∧ d.toNat ≤ 57 := by rw [itoa_pos h]; exact dec_dig _
theorem itoa_ne {x : Int} (h : 0 ≤ x) : Lib.itoa x ≠ [] := by rw [itoa_pos h]; exact dec_ne _

theorem split_at {s : UInt8} : ∀ {a b c d : List UInt8}, s ∉ a → s ∉ c → a ++ s :: b = c ++ s :: d → a = c ∧ b = d
  | [], b, [], d, _, _, h => ⟨rfl, by simpa using h⟩
  | [], b, x :: c, d, _, hc, h => by
    simp only [List.nil_append, List.cons_append, List.cons.injEq] at h
    exact absurd (List.mem_cons.2 (.inl h.1)) hc
  | x :: a, b, [], d, ha, _, h => by
    simp only [List.nil_append, List.cons_append, List.cons.injEq] at h
    exact absurd (List.mem_cons.2 (.inl h.1.symm)) ha
  | x :: a, b, y :: c, d, ha, hc, h => by
    simp only [List.cons_append, List.cons.injEq] at h
    obtain ⟨h1, h2⟩ := split_at (fun hm => ha (List.mem_cons_of_mem _ hm)) (fun hm => hc (List.mem_cons_of_mem _ hm)) h.2
    exact ⟨by rw [h.1, h1], h2⟩
theorem tail_inj {s : UInt8} : ∀ (r t : List (List UInt8)) (x y : List UInt8), (∀ b ∈ x :: r, s ∉ b) → (∀ b ∈ y :: t, s ∉ b) → x ++ Lib.joinTail [s] r = y ++ Lib.joinTail [s] t → x = y ∧ r = t
  | [], [], x, y, _, _, h => ⟨by simpa [Lib.joinTail] using h, rfl⟩
  | [], z :: t, x, y, hx, _, h => by
    exfalso
    refine hx x (List.mem_cons_self ..) ?_
    have : x = y ++ (s :: (z ++ Lib.joinTail [s] t)) := by simpa [Lib.joinTail] using h
    rw [this]
    simp
  | w :: r, [], x, y, _, hy, h => by
    exfalso
    refine hy y (List.mem_cons_self ..) ?_
    have : x ++ (s :: (w ++ Lib.joinTail [s] r)) = y := by simpa [Lib.joinTail] using h
    rw [← this]
    simp
  | w :: r, z :: t, x, y, hx, hy, h => by
    have h' : x ++ s :: (w ++ Lib.joinTail [s] r) = y ++ s :: (z ++ Lib.joinTail [s] t) := by simpa [Lib.joinTail] using h
    obtain ⟨h1, h2⟩ := split_at (hx x (List.mem_cons_self ..)) (hy y (List.mem_cons_self ..)) h'
    obtain ⟨h3, h4⟩ := tail_inj r t w z (fun b hb => hx b (List.mem_cons_of_mem _ hb)) (fun b hb => hy b (List.mem_cons_of_mem _ hb)) h2
    exact ⟨h1, by rw [h3, h4]⟩
theorem join_inj {s : UInt8} : ∀ (r t : List (List UInt8)), (∀ b ∈ r, b ≠ [] ∧ s ∉ b) → (∀ b ∈ t, b ≠ [] ∧ s ∉ b) → Lib.join r [s] = Lib.join t [s] → r = t
  | [], [], _, _, _ => rfl
  | [], y :: t, _, hy, h => by
    rw [Lib.join_nil, Lib.join_cons] at h
    exact absurd (List.append_eq_nil_iff.1 h.symm).1 (hy y (List.mem_cons_self ..)).1
  | x :: r, [], hx, _, h => by
    rw [Lib.join_nil, Lib.join_cons] at h
    exact absurd (List.append_eq_nil_iff.1 h).1 (hx x (List.mem_cons_self ..)).1
  | x :: r, y :: t, hx, hy, h => by
    rw [Lib.join_cons, Lib.join_cons] at h
    obtain ⟨h1, h2⟩ := tail_inj r t x y (fun b hb => (hx b hb).2) (fun b hb => (hy b hb).2) h
    rw [h1, h2]
theorem join_not {s t : UInt8} (hst : s ≠ t) : ∀ (r : List (List UInt8)), (∀ b ∈ r, t ∉ b) → t ∉ Lib.join r [s]
  | [], _ => by simp [Lib.join_nil]
  | x :: r, h => by
    rw [Lib.join_cons]
    intro hm
    rcases List.mem_append.1 hm with hm | hm
    · exact h x (List.mem_cons_self ..) hm
    · unfold Lib.joinTail at hm
      obtain ⟨l, hl, hm⟩ := List.mem_flatten.1 hm
      obtain ⟨b, hb, rfl⟩ := List.mem_map.1 hl
      rcases List.mem_append.1 hm with hm | hm
      · exact hst (List.mem_singleton.1 hm).symm
      · exact h b (List.mem_cons_of_mem _ hb) hm
theorem map_inj {α β : Type} {f : α → β} : ∀ (l m : List α), (∀ x ∈ l, ∀ y ∈ m, f x = f y → x = y) → l.map f = m.map f → l = m
  | [], [], _, _ => rfl
  | [], y :: m, _, h => by simp at h
  | x :: l, [], _, h => by simp at h
  | x :: l, y :: m, hf, h => by
    simp only [List.map_cons, List.cons.injEq] at h
    rw [hf x (List.mem_cons_self ..) y (List.mem_cons_self ..) h.1, map_inj l m (fun a ha b hb => hf a (List.mem_cons_of_mem _ ha) b (List.mem_cons_of_mem _ hb)) h.2]

def edgeL (e : Int × Int) : List UInt8 := Lib.itoa e.1 ++ 45 :: Lib.itoa e.2
theorem not_dig {x : Int} (h : 0 ≤ x) {s : UInt8} (hs : s.toNat < 48 ∨ 57 < s.toNat) : s ∉ Lib.itoa x := fun hm => by
  have := itoa_dig h s hm
  omega
theorem edgeL_not {e : Int × Int} (h1 : 0 ≤ e.1) (h2 : 0 ≤ e.2) {s : UInt8} (hs : s.toNat < 45 ∨ 57 < s.toNat) : s ∉ edgeL e := fun hm => by
  rcases List.mem_append.1 hm with hm | hm
  · exact not_dig h1 (by omega) hm
  · rcases List.mem_cons.1 hm with hm | hm
    · subst hm
      have : (45 : UInt8).toNat = 45 := rfl
      omega
    · exact not_dig h2 (by omega) hm
theorem edgeL_inj {e f : Int × Int} (h1 : 0 ≤ e.1) (h2 : 0 ≤ e.2) (h3 : 0 ≤ f.1) (h4 : 0 ≤ f.2) (h : edgeL e = edgeL f) : e = f := by
  obtain ⟨g1, g2⟩ := split_at (not_dig h1 (.inl (by decide))) (not_dig h3 (.inl (by decide))) h
  exact Prod.ext (itoa_inj h1 h3 g1) (itoa_inj h2 h4 g2)
/-- A pattern's text, as a list of bytes. -/
def textL (L : List Int) (E : List (Int × Int)) : List UInt8 := Lib.join (L.map Lib.itoa) [44] ++ 124 :: Lib.join (E.map edgeL) [44]
theorem textL_inj {L L' : List Int} {E E' : List (Int × Int)} (hL : ∀ x ∈ L, 0 ≤ x) (hL' : ∀ x ∈ L', 0 ≤ x) (hE : ∀ e ∈ E, 0 ≤ e.1 ∧ 0 ≤ e.2) (hE' : ∀ e ∈ E', 0 ≤ e.1 ∧ 0 ≤ e.2)
    (h : textL L E = textL L' E') : L = L' ∧ E = E' := by
  have n1 : ∀ (M : List Int), (∀ x ∈ M, 0 ≤ x) → (124 : UInt8) ∉ Lib.join (M.map Lib.itoa) [44] := fun M hM => join_not (by decide) _ fun b hb => by
    obtain ⟨x, hx, rfl⟩ := List.mem_map.1 hb
    exact not_dig (hM x hx) (.inr (by decide))
  obtain ⟨h1, h2⟩ := split_at (n1 L hL) (n1 L' hL') h
  have n2 : ∀ (M : List Int), (∀ x ∈ M, 0 ≤ x) → ∀ b ∈ M.map Lib.itoa, b ≠ [] ∧ (44 : UInt8) ∉ b := fun M hM b hb => by
    obtain ⟨x, hx, rfl⟩ := List.mem_map.1 hb
    exact ⟨itoa_ne (hM x hx), not_dig (hM x hx) (.inl (by decide))⟩
  have n3 : ∀ (M : List (Int × Int)), (∀ e ∈ M, 0 ≤ e.1 ∧ 0 ≤ e.2) → ∀ b ∈ M.map edgeL, b ≠ [] ∧ (44 : UInt8) ∉ b := fun M hM b hb => by
    obtain ⟨x, hx, rfl⟩ := List.mem_map.1 hb
    exact ⟨by unfold edgeL; simp, edgeL_not (hM x hx).1 (hM x hx).2 (.inl (by decide))⟩
  exact ⟨map_inj _ _ (fun x hx y hy => itoa_inj (hL x hx) (hL' y hy)) (join_inj _ _ (n2 L hL) (n2 L' hL') h1), map_inj _ _ (fun e he f hf => edgeL_inj (hE e he).1 (hE e he).2 (hE' f hf).1 (hE' f hf).2) (join_inj _ _ (n3 E hE) (n3 E' hE') h2)⟩
theorem textB_list (L : List Int) (E : List (Int × Int)) : (textB L E).data.toList = textL L E := by
  have e1 : (L.map itoaB).map (·.data.toList) = L.map Lib.itoa := by
    rw [List.map_map]
    exact List.map_congr_left fun x _ => by simp
  have e2 : (E.map edgeB).map (·.data.toList) = E.map edgeL := by
    rw [List.map_map]
    exact List.map_congr_left fun e _ => by simp [edgeB, edgeL]
  unfold textB joinB textL
  rw [e1, e2]
  simp
theorem textB_inj {L L' : List Int} {E E' : List (Int × Int)} (hL : ∀ x ∈ L, 0 ≤ x) (hL' : ∀ x ∈ L', 0 ≤ x) (hE : ∀ e ∈ E, 0 ≤ e.1 ∧ 0 ≤ e.2) (hE' : ∀ e ∈ E', 0 ≤ e.1 ∧ 0 ≤ e.2) :
    textB L E = textB L' E' ↔ L = L' ∧ E = E' := by
  constructor
  · intro h
    refine textL_inj hL hL' hE hE' ?_
    rw [← textB_list, ← textB_list, h]
  · rintro ⟨rfl, rfl⟩
    rfl
end Go.Proofs.YtbbmgcdocolakaaGreatDoor.Pt
/-
  The document's numbers as texts: Num, num.
-/
namespace Go.Proofs.YtbbmgcdocolakaaGreatDoor
open Go.RowKit
set_option maxRecDepth 100000
set_option linter.unusedVariables false

def decB (u : Nat) : ByteArray := ⟨(Lib.decDigits u).toArray⟩
theorem decB_step {u : Nat} (h : 10 ≤ u) : decB (u / 10) ++ decB (u % 10) = decB u := by
  have e : Lib.decDigits u = Lib.decDigits (u / 10) ++ Lib.decDigits (u % 10) := by
    conv => lhs; rw [Lib.decDigits, dif_neg (by omega)]
    congr 1
    rw [Lib.decDigits, dif_pos (Nat.mod_lt _ (by omega))]
  unfold decB
  rw [e]
  apply ByteArray.ext
  simp
theorem decB_one {u : Nat} (h : u < 10) : decB u = ⟨#[UInt8.ofNat (48 + u)]⟩ := by
  unfold decB
  rw [Lib.decDigits, dif_pos h]
theorem strOf_one {u : Nat} (h : u < 10) : strOfNums [((48 + u : Nat) : Int)] = decB u := by
  rw [decB_one h]
  unfold strOfNums
  simp only [List.map_cons, List.map_nil, Int.toNat_natCast]
set_option linter.unnecessarySimpa false in
theorem conv_one (w : World) (u : Nat) (h : u < 10) : (convert 42 9 (.slice (some ⟨w.heap.size, 0, none⟩) 1 1)).run Tryz.prog (w.alloc (.cells #[.int .u8 ((48 + u : Nat) : Int)] 5)) = .ok (.string (decB u)) (w.alloc (.cells #[.int .u8 ((48 + u : Nat) : Int)] 5)) := by
  rw [← strOf_one h]
  refine run_convert_bytes_arg (P := Tryz.prog) _ 42 5 Tryz.underlying42 Tryz.underlying5 _ 0 1 1 [((48 + u : Nat) : Int)] rfl (fun i hi => ?_) 9 Tryz.underlying9
  obtain rfl : i = 0 := by omega
  have c := (Blk.new w 5 #[.int .u8 ((48 + u : Nat) : Int)]).cell 0
  simpa using c

theorem decB_itoa (u : Nat) : itoaB (u : Int) = decB u := by
  unfold itoaB decB
  rw [Lib.itoa, if_neg (by omega), Int.toNat_natCast]
theorem decB_size {u : Nat} (h : u ≤ 9223372036854775807) : (decB u).size ≤ 21 := by
  rw [← decB_itoa]
  exact itoaB_size _ (by unfold i64P; omega)

set_option maxHeartbeats 4000000 in
theorem RefNum_any : ∀ (u : Nat) (w : World), u ≤ 9223372036854775807 → Calls Tryz.prog 9 #[.int .i64 (u : Int)] w fun e w' => e = .returned (.string (decB u)) ∧ Below w.heap.size w w' := by
  intro u
  induction u using Nat.strongRecOn with
  | ind u ih =>
    intro w hu
    have hu0 : (0 : Int) ≤ (u : Int) := by omega
    by_cases h9 : u < 10
    · have h9' : ¬ (9 : Int) < (u : Int) := by omega
      have hcv := conv_one w u h9
      have hw1 : IntKind.i64.wrap (48 + (u : Int)) = 48 + (u : Int) := by rw [IntKind.wrap_i64]; omega
      have hw2 : IntKind.u8.wrap (48 + (u : Int)) = 48 + (u : Int) := by unfold IntKind.wrap; simp [IntKind.bits, IntKind.signed]; omega
      rw [show ((48 + u : Nat) : Int) = 48 + (u : Int) from by omega] at hcv
      clear ih
      go_enter Tryz.func9, Tryz.ntmps9
      go_wp2_with fail
      go_ret
      exact ⟨rfl, bel_al (Below.refl _ _) _⟩
    · have h9' : (9 : Int) < (u : Int) := by omega
      have h1 := fun W => ih (u / 10) (by omega) W (by omega)
      have h2 := fun W => ih (u % 10) (by omega) W (by omega)
      rw [show ((u / 10 : Nat) : Int) = (u : Int) / 10 from by omega] at h1
      rw [show ((u % 10 : Nat) : Int) = (u : Int) % 10 from by omega] at h2
      have H1 := Lib.hid (h1 w)
      have H2 := Lib.hid h2
      have hst := decB_step (u := u) (by omega)
      have HSt := Lib.hid hst
      have z1 := decB_size (u := u / 10) (by omega)
      have z2 := decB_size (u := u % 10) (by omega)
      have hadd : ∀ W, (Op.stringOp .add (decB (u / 10)) (decB (u % 10))).run Tryz.prog W = .ok (.string (decB (u / 10) ++ decB (u % 10))) W := fun W => run_string_add_sum W _ _ (by omega)
      clear ih h1 h2 hst z1 z2
      go_enter Tryz.func9, Tryz.ntmps9
      go_wp2_with (first
        | (go_at_call 9; refine H1.out.mono ?_; clear H1; rintro e w1 ⟨rfl, hb⟩; have HB1 := Lib.hid hb; have H3 := Lib.hid (H2.out w1); clear H2 hb)
        | (go_at_call 9; refine H3.out.mono ?_; clear H3; rintro e w2 ⟨rfl, hb⟩; have HB2 := Lib.hid (HB1.out.andThen hb); clear hb)
        | fail)
      go_ret
      exact ⟨ret_eq (congrArg Value.string HSt.out), HB2.out⟩
theorem itoa_neg {u : Nat} (h : 1 ≤ u) : itoaB (-(u : Int)) = ⟨#[45]⟩ ++ decB u := by
  unfold itoaB decB
  rw [Lib.itoa, if_pos (by omega), Int.natAbs_neg, Int.natAbs_natCast]
  apply ByteArray.ext
  simp
theorem itoa_neg_step {u : Nat} (h : 10 ≤ u) : itoaB (-((u / 10 : Nat) : Int)) ++ decB (u % 10) = itoaB (-(u : Int)) := by
  rw [itoa_neg (by omega), itoa_neg (by omega), ByteArray.append_assoc, decB_step h]

end Go.Proofs.YtbbmgcdocolakaaGreatDoor
/-
  The lines of graphs: one more; how long they are.
-/
namespace Go.Proofs.YtbbmgcdocolakaaGreatDoor.Ld
open Go Go.Proofs.YtbbmgcdocolakaaGreatDoor.Tx Go.Proofs.YtbbmgcdocolakaaGreatDoor.Cf Go.Proofs.YtbbmgcdocolakaaGreatDoor.Pg
set_option linter.unusedVariables false

theorem dec_len5 {u : Nat} (h : u ≤ 1000000) : (Lib.decDigits u).length ≤ 21 := by
  have h1 := decB_size (u := u) (by omega)
  have h2 : (decB u).size = (Lib.decDigits u).length := by
    show (Lib.decDigits u).toArray.size = _
    simp
  omega
theorem tell_one5 (r : List UInt8) : tellL [r] = r ++ [10] := by simp [tellL]
theorem row3_len {k : UInt8} {a b : Nat} (ha : a ≤ 1000000) (hb : b ≤ 1000000) : (row3 k a b).length ≤ 45 := by
  have h1 := dec_len5 ha
  have h2 := dec_len5 hb
  unfold row3
  simp only [List.length_cons, List.length_append]
  omega
theorem vTell_snoc {L : List Int} {k : Nat} {x : Int} (hx : L[k]? = some x) : tellL (vRows 0 (L.take (k + 1))) = tellL (vRows 0 (L.take k)) ++ (row3 118 k x.toNat ++ [10]) := by
  obtain ⟨h1, h2⟩ := List.getElem?_eq_some_iff.1 hx
  rw [List.take_succ_eq_append_getElem h1, h2, vRows_snoc, tell_app, tell_one5, List.length_take, Nat.min_eq_left (by omega), Nat.zero_add]
theorem eTell_snoc {F : List (Int × Int)} {k : Nat} {e : Int × Int} (hx : F[k]? = some e) : tellL (eRows (F.take (k + 1))) = tellL (eRows (F.take k)) ++ (row3 101 e.1.toNat e.2.toNat ++ [10]) := by
  obtain ⟨h1, h2⟩ := List.getElem?_eq_some_iff.1 hx
  rw [List.take_succ_eq_append_getElem h1, h2]
  unfold eRows
  rw [List.map_append, tell_app, ← tell_one5]
  rfl
theorem vTell_len : ∀ (k : Nat) {L : List Int}, k ≤ L.length → L.length ≤ 4096 → (∀ x ∈ L, x ≤ 1000000) → (tellL (vRows 0 (L.take k))).length ≤ 46 * k
  | 0, L, _, _, _ => by simp [vRows, tellL]
  | k + 1, L, hk, hl, h => by
    have hx : L[k]? = some L[k] := List.getElem?_eq_getElem (by omega)
    rw [vTell_snoc hx, List.length_append, List.length_append]
    have h1 := vTell_len k (L := L) (by omega) hl h
    have h2 := h L[k] (List.getElem_mem _)
    have h3 := row3_len (k := 118) (a := k) (b := L[k].toNat) (by omega) (by omega)
    simp only [List.length_cons, List.length_nil]
    omega
theorem eTell_len : ∀ (k : Nat) {F : List (Int × Int)}, k ≤ F.length → (∀ e ∈ F, e.1 ≤ 1000000 ∧ e.2 ≤ 1000000) → (tellL (eRows (F.take k))).length ≤ 46 * k
  | 0, F, _, _ => by simp [eRows, tellL]
  | k + 1, F, hk, h => by
    have hx : F[k]? = some F[k] := List.getElem?_eq_getElem (by omega)
    rw [eTell_snoc hx, List.length_append, List.length_append]
    have h1 := eTell_len k (F := F) (by omega) h
    have h2 := h F[k] (List.getElem_mem _)
    have h3 := row3_len (k := 101) (a := F[k].1.toNat) (b := F[k].2.toNat) (by omega) (by omega)
    simp only [List.length_cons, List.length_nil]
    omega
/-- Labels and edges of a graph as they are printed: numbers from 0 on. -/
structure NatG (L : List Int) (F : List (Int × Int)) : Prop where
  l9 : L.length ≤ 4096
  f9 : F.length ≤ 16384
  lab : ∀ x ∈ L, 0 ≤ x ∧ x ≤ 1000000
  edg : ∀ e ∈ F, (0 ≤ e.1 ∧ e.1 ≤ 1000000) ∧ (0 ≤ e.2 ∧ e.2 ≤ 1000000)
theorem natG_of {L : List Int} {F : List (Int × Int)} (h1 : L.length ≤ 4096) (h2 : F.length ≤ 16384) (h3 : Gh.labsOK L) (h4 : Gh.Has L.length F) : NatG L F :=
  ⟨h1, h2, fun x hx => by have := h3 x hx; omega, fun e he => by
    have h := h4.ok e he
    unfold Pt.EdgeOK at h
    omega⟩
/-- Two texts, one behind the other. -/
theorem addT {S T : ByteArray} {l m r : List UInt8} (hS : S = bz l) (hT : T = bz m) (hr : l ++ m = r) (h : r.length ≤ 10000000) {R : ByteArray} (hR : R = bz r) (W : World) : (Op.stringOp .add S T).run Tryz.prog W = .ok (.string R) W := by
  subst hS hT hR hr
  rw [List.length_append] at h
  rw [run_string_add_sum W _ _ (by rw [bz_size, bz_size]; omega), show bz l ++ bz m = bz (l ++ m) from by apply ByteArray.ext; simp]
/-- What is put behind, piece by piece. -/
theorem pieces (T : List UInt8) (k : UInt8) (a b : Nat) : ((((T ++ [k, 32]) ++ Lib.decDigits a) ++ [32]) ++ Lib.decDigits b) ++ [10] = T ++ (row3 k a b ++ [10]) := by
  unfold row3
  simp
end Go.Proofs.YtbbmgcdocolakaaGreatDoor.Ld
/-
  load.Print: a graph's text.
-/
namespace Go.Proofs.YtbbmgcdocolakaaGreatDoor
open Go.RowKit Go.Proofs.YtbbmgcdocolakaaGreatDoor.Pg Go.Proofs.YtbbmgcdocolakaaGreatDoor.Tx Go.Proofs.YtbbmgcdocolakaaGreatDoor.Cf
attribute [local go_sem ↓] Go.wp_at_zero Go.wp_at_succ
set_option maxRecDepth 100000
set_option linter.unusedVariables false

theorem Bld.keep {B b : Nat} {l : List UInt8} {w w' : World} (h : Bld B b l w) (hb : Below w.heap.size w w') : Bld B b l w' := by
  have one : ∀ {p : Value}, Lib.BuilderAtF 95 5 B b p (Lib.byteCells l) w → Lib.BuilderAtF 95 5 B b p (Lib.byteCells l) w' := fun {p} h => by
    have hlt := h.lt
    obtain ⟨hB, v, hv, hown, hne⟩ := h
    exact ⟨hB, v, (hb.block b hlt).trans hv, hown.kept (row := none) ⟨hb.os, hb.tape, hb.output, hb.size, fun k hk _ => hb.block k hk⟩ (Classical.em _), hne⟩
  exact h.elim (fun x => .inl (one x)) (fun x => .inr (one x))
/-- Own rows of edges stay. -/
def EKept (w w' : World) : Prop := ∀ (B n : Nat) (v : Value) (xs : List Value), w.ownsRow B 76 2 v n xs → w'.ownsRow B 76 2 v n xs
theorem EKept.of_below {w w' : World} (hb : Below w.heap.size w w') : EKept w w' := fun B n v xs h => own_block h fun g hg => hb.block g (h.lt g hg).2
theorem EKept.trans {w w' w'' : World} (h : EKept w w') (k : EKept w' w'') : EKept w w'' := fun B n v xs o => k B n v xs (h B n v xs o)
set_option maxHeartbeats 4000000 in
/-- The closure: one line more. -/
theorem Put1_any (k : UInt8) (u v B b : Nat) (l : List UInt8) (w : World) (hu : u ≤ 1000000) (hv : v ≤ 1000000) (h : Bld B b l w) (hl : l.length ≤ 10000000) (hB : B ≤ w.heap.size) (hT : TabW w) :
    Calls Tryz.prog 47 #[.string (bz [k]), .int .i64 (u : Int), .int .i64 (v : Int), .pointer (some ⟨b, 0, none⟩)] w fun e w' => e = .returned (.tuple #[]) ∧ Bld B b (l ++ (Ld.row3 k u v ++ [10])) w' ∧ Below B w w' ∧ EKept w w' := by
  have HI1 := Lib.hid (show ∀ W, Below w.heap.size w W → Calls Tryz.prog 49 #[.int .i64 (u : Int)] W fun e w' => e = .returned (.string (bz (Lib.decDigits u))) ∧ Below W.heap.size W w' from fun W hW => (Itoa_any (u : Int) W (by unfold i64P; omega) (hT.keep hW)).mono fun e w' h => ⟨by rw [h.1, decB_itoa]; rfl, h.2⟩)
  have HI2 := Lib.hid (show ∀ W, Below w.heap.size w W → Calls Tryz.prog 49 #[.int .i64 (v : Int)] W fun e w' => e = .returned (.string (bz (Lib.decDigits v))) ∧ Below W.heap.size W w' from fun W hW => (Itoa_any (v : Int) W (by unfold i64P; omega) (hT.keep hW)).mono fun e w' h => ⟨by rw [h.1, decB_itoa]; rfl, h.2⟩)
  have hlen := Ld.row3_len (k := k) hu hv
  have hd1 := Ld.dec_len5 hu
  have hd2 := Ld.dec_len5 hv
  have HBl := Lib.hid h
  clear hT h
  have HR := Lib.hid (show ((([k] ++ [32] ++ Lib.decDigits u) ++ [32]) ++ Lib.decDigits v) ++ [10] = Ld.row3 k u v ++ [10] from by unfold Ld.row3; simp)
  obtain ⟨d1, e1⟩ : ∃ d, d = Lib.decDigits u := ⟨_, rfl⟩
  obtain ⟨d2, e2⟩ : ∃ d, d = Lib.decDigits v := ⟨_, rfl⟩
  rw [← e1, ← e2] at HR
  rw [← e1] at HI1 hd1
  rw [← e2] at HI2 hd2
  clear e1 e2
  obtain ⟨K, hK⟩ : ∃ X, X = bz [k] := ⟨_, rfl⟩
  obtain ⟨D1, hD1⟩ : ∃ X, X = bz d1 := ⟨_, rfl⟩
  obtain ⟨D2, hD2⟩ : ∃ X, X = bz d2 := ⟨_, rfl⟩
  obtain ⟨X1, hX1⟩ : ∃ X, X = bz ([k] ++ [32]) := ⟨_, rfl⟩
  obtain ⟨X2, hX2⟩ : ∃ X, X = bz ([k] ++ [32] ++ d1) := ⟨_, rfl⟩
  obtain ⟨X3, hX3⟩ : ∃ X, X = bz (([k] ++ [32] ++ d1) ++ [32]) := ⟨_, rfl⟩
  obtain ⟨X4, hX4⟩ : ∃ X, X = bz ((([k] ++ [32] ++ d1) ++ [32]) ++ d2) := ⟨_, rfl⟩
  obtain ⟨X5, hX5⟩ : ∃ X, X = bz (((([k] ++ [32] ++ d1) ++ [32]) ++ d2) ++ [10]) := ⟨_, rfl⟩
  have a1 : ∀ W, (Op.stringOp .add K ⟨#[32]⟩).run Tryz.prog W = .ok (.string X1) W := Ld.addT (m := [32]) hK rfl rfl (by simp) hX1
  have a2 : ∀ W, (Op.stringOp .add X1 D1).run Tryz.prog W = .ok (.string X2) W := Ld.addT hX1 hD1 rfl (by simp; omega) hX2
  have a3 : ∀ W, (Op.stringOp .add X2 ⟨#[32]⟩).run Tryz.prog W = .ok (.string X3) W := Ld.addT (m := [32]) hX2 rfl rfl (by simp; omega) hX3
  have a4 : ∀ W, (Op.stringOp .add X3 D2).run Tryz.prog W = .ok (.string X4) W := Ld.addT hX3 hD2 rfl (by simp; omega) hX4
  have a5 : ∀ W, (Op.stringOp .add X4 ⟨#[10]⟩).run Tryz.prog W = .ok (.string X5) W := Ld.addT (m := [10]) hX4 rfl rfl (by simp; omega) hX5
  have HX5 := Lib.hid (show X5.data.toList = Ld.row3 k u v ++ [10] ∧ X5.size ≤ 50 from by
    rw [hX5, HR.out]
    refine ⟨by simp [bz], ?_⟩
    rw [bz_size, List.length_append]
    simp only [List.length_cons, List.length_nil]
    omega)
  rw [← hD1] at HI1
  rw [← hD2] at HI2
  rw [← hK]
  clear hK hD1 hD2 hX1 hX2 hX3 hX4 hX5 HR hd1 hd2 hlen
  go_enter Tryz.func47, Tryz.ntmps47
  go_wp2_with (first
    | (go_at_call 49; refine (HI1.out _ (Below.refl _ _)).mono ?_; clear HI1; rintro e w1 ⟨rfl, hb1⟩; have HB1 := Lib.hid hb1; clear hb1)
    | (go_at_call 49; refine (HI2.out _ HB1.out).mono ?_; clear HI2; rintro e w2 ⟨rfl, hb2⟩; have HB2 := Lib.hid (HB1.out.andThen hb2); have HWr := Lib.hid (WriteString_any B b l X5 w2 (HBl.out.keep (HB1.out.andThen hb2)) (by have := HX5.out.2; unfold lim; omega) (Nat.le_trans hB (HB1.out.andThen hb2).size)); clear hb2)
    | (go_at_call 48; refine HWr.out.mono ?_; clear HWr; rintro e w3 ⟨rfl, hB3, hb3, hk3⟩; have HB3 := Lib.hid hB3; have HBb3 := Lib.hid hb3; have HK3 := Lib.hid hk3; clear hB3 hb3 hk3))
  go_end0
  refine ⟨rfl, ?_, (HB2.out.mono hB).trans HBb3.out, fun B' n' v' xs' o => own_others (EKept.of_below HB2.out _ _ _ _ o) HK3.out (HBl.out.keep HB2.out) (by decide) (by decide)⟩
  have h := HB3.out
  rwa [HX5.out.1] at h
set_option maxHeartbeats 4000000 in
theorem GPrint_any {w : World} {g : Nat} {L : List Int} {F : List (Int × Int)} (hG : GraphAt w g L F) (hN : Ld.NatG L F) (hT : TabW w) :
    Calls Tryz.prog 20 #[.pointer (some ⟨g, 0, none⟩)] w fun e w' => e = .returned (.string (bz (Ld.printL L F))) ∧ Below w.heap.size w w' := by
  have HGr := Lib.hid hG
  have HT := Lib.hid hT
  have HNg := Lib.hid hN
  obtain ⟨n, hn⟩ : ∃ n, n = L.length := ⟨_, rfl⟩
  obtain ⟨m, hm⟩ : ∃ m, m = F.length := ⟨_, rfl⟩
  have HNl := Lib.hid hn
  have HM := Lib.hid hm
  have hn9 : n ≤ 4096 := by rw [hn]; exact hN.l9
  have hm9 : m ≤ 16384 := by rw [hm]; exact hN.f9
  clear hG hT hN hn hm
  obtain ⟨w1, hw1⟩ : ∃ W, W = w.alloc (.cells #[.pointer none, .slice none 0 0] 95) := ⟨_, rfl⟩
  have HB1 := Lib.hid (show Below w.heap.size w w1 from by rw [hw1]; exact bel_al (Below.refl _ _) _)
  have HD1 := Lib.hid (show Bld w.heap.size w.heap.size [] w1 from by rw [hw1]; exact Bld.new w)
  have HLe := Lib.hid (GLen_any (HGr.out.keep HB1.out))
  rw [← HNl.out] at HLe
  go_enter Tryz.func20, Tryz.ntmps20
  go_upto_region 2 with (fail)
  rw [← hw1]
  clear hw1
  go_upto_region 4 with (go_at_call 12; refine HLe.out.mono ?_; clear HLe; rintro e w' ⟨rfl, rfl⟩)
  go_loopw [11] (fun iv wr => ∃ k : Nat, k ≤ n ∧ iv = .int .i64 (k : Int) ∧ Hid (Bld w.heap.size w.heap.size (tellL (Ld.vRows 0 (L.take k))) wr) ∧ Hid (Below w.heap.size w wr)) (fun iv _ => n - (intOf iv).toNat)
  case atStart => exact ⟨0, Nat.zero_le _, rfl, HD1, HB1⟩
  case round =>
    obtain ⟨k, hk, rfl, HD, HB⟩ := hrel
    clear HD1 HB1
    by_cases hlt : k < n
    · have hlt' : (k : Int) < (n : Int) := by omega
      obtain ⟨x, hx⟩ : ∃ x, L[k]? = some x := ⟨_, List.getElem?_eq_getElem (by rw [← HNl.out]; exact hlt)⟩
      have hx9 := HNg.out.lab x (List.mem_of_getElem? hx)
      obtain ⟨v, rfl⟩ : ∃ v : Nat, x = (v : Int) := ⟨x.toNat, by omega⟩
      have HLa := Lib.hid (GLabel_any (HGr.out.keep HB.out) hx)
      have HS := Lib.hid (Ld.vTell_snoc hx)
      have HPu := Lib.hid (Put1_any 118 k v w.heap.size w.heap.size _ wr (by omega) (by omega) HD.out (by have := Ld.vTell_len k (L := L) (by rw [← HNl.out]; exact hk) HNg.out.l9 (fun x hx => (HNg.out.lab x hx).2); omega) HB.out.size (HT.out.keep HB.out))
      clear hx hx9
      go_wp2_with (first
        | (go_at_call 42; refine HLa.out.mono ?_; clear HLa; rintro e w2 ⟨rfl, rfl⟩)
        | (go_at_call 47; refine HPu.out.mono ?_; clear HPu; rintro e w3 ⟨rfl, hd3, hb3, _⟩; have HD3 := Lib.hid hd3; have HB3 := Lib.hid (HB.out.trans hb3); clear hd3 hb3))
      go_roundw
      case rel => exact ⟨k + 1, by omega, by go_num, Lib.hid (by have h := HD3.out; rw [HS.out]; exact h), HB3⟩
      case measure => simp [intOf]; omega
    obtain rfl : k = n := by omega
    have hlt' : ¬ (k : Int) < (k : Int) := by omega
    rw [List.take_of_length_le (Nat.le_of_eq HNl.out.symm)] at HD
    have HEd := Lib.hid (LEdges_own (HGr.out.keep HB.out) (by rw [← HM.out]; exact hm9))
    rw [← HM.out] at HEd
    have hvl : (tellL (Ld.vRows 0 L)).length ≤ 46 * 4096 := by
      have h := Ld.vTell_len L.length (L := L) (Nat.le_refl _) HNg.out.l9 (fun x hx => (HNg.out.lab x hx).2)
      rw [List.take_length] at h
      have := HNg.out.l9
      omega
    go_upto_region 9 with (go_at_call 43; refine HEd.out.mono ?_; clear HEd; rintro e W1 ⟨D, dk, rfl, hO, hb1⟩; have HOw := Lib.hid (own_mono hO (show w.heap.size ≤ _ from HB.out.size)); have HDw := Lib.hid (HD.out.keep hb1); have HBw := Lib.hid (HB.out.andThen hb1); clear hO hb1)
    clear HD HB hlt'
    go_loopw [24] (fun iv wr => ∃ j : Nat, j ≤ m ∧ iv = .int .i64 (j : Int) ∧ Hid (Bld w.heap.size w.heap.size (tellL (Ld.vRows 0 L) ++ tellL (Ld.eRows (F.take j))) wr) ∧ Hid (Below w.heap.size w wr) ∧ Hid (wr.ownsRow w.heap.size 76 2 (.slice D m dk) m (Rk.cells F))) (fun iv _ => m - (intOf iv).toNat)
    case atStart => exact ⟨0, Nat.zero_le _, rfl, Lib.hid (by have h := HDw.out; simpa [Ld.eRows, tellL] using h), HBw, HOw⟩
    case round =>
      obtain ⟨j, hj, rfl, HD, HB, HO⟩ := hrel
      clear HDw HBw HOw
      by_cases hlt : j < m
      · have hlt' : (j : Int) < (m : Int) := by omega
        obtain ⟨⟨x, y⟩, he⟩ : ∃ e, F[j]? = some e := ⟨_, List.getElem?_eq_getElem (by rw [← HM.out]; exact hlt)⟩
        have he9 := HNg.out.edg _ (List.mem_of_getElem? he)
        simp only at he9
        obtain ⟨u, rfl⟩ : ∃ u : Nat, x = (u : Int) := ⟨x.toNat, by omega⟩
        obtain ⟨v, rfl⟩ : ∃ v : Nat, y = (v : Int) := ⟨y.toNat, by omega⟩
        obtain ⟨b2, off2, hDD, c0, c1⟩ := (Sl.of_own HO.out).edge hlt he
        subst hDD
        simp only at c0 c1
        have HS := Lib.hid (Ld.eTell_snoc he)
        have hel : (tellL (Ld.vRows 0 L) ++ tellL (Ld.eRows (F.take j))).length ≤ 10000000 := by
          have h := Ld.eTell_len j (F := F) (by rw [← HM.out]; exact hj) (fun e he => ⟨(HNg.out.edg e he).1.2, (HNg.out.edg e he).2.2⟩)
          rw [List.length_append]
          omega
        clear he
        go_upto_region 11 with (fail)
        obtain ⟨we, hwe⟩ : ∃ W, W = wr.alloc (.cells #[.int .i64 (u : Int), .int .i64 (v : Int)] 76) := ⟨_, rfl⟩
        obtain ⟨q, hq⟩ : ∃ q, q = wr.heap.size := ⟨_, rfl⟩
        have HBe := Lib.hid (show Below wr.heap.size wr we from by rw [hwe]; exact bel_al (Below.refl _ _) _)
        have HKe := Lib.hid (show Blk we q 76 #[.int .i64 (u : Int), .int .i64 (v : Int)] from by rw [hwe, hq]; exact Blk.new _ _ _)
        rw [← hwe, ← hq]
        clear hwe hq c0 c1
        have q0 := HKe.out.cell 0
        have q1 := HKe.out.cell 1
        simp at q0 q1
        have HPu := Lib.hid (Put1_any 101 u v w.heap.size w.heap.size _ we (by omega) (by omega) (HD.out.keep HBe.out) hel (HB.out.andThen HBe.out).size (HT.out.keep (HB.out.andThen HBe.out)))
        have HOe := Lib.hid (EKept.of_below HBe.out _ _ _ _ HO.out)
        have HBe2 := Lib.hid (HB.out.andThen HBe.out)
        clear he9 hel HBe HD HB HO
        go_wp2_with (go_at_call 47; refine HPu.out.mono ?_; clear HPu; rintro e w3 ⟨rfl, hd3, hb3, hk3⟩; have HD3 := Lib.hid hd3; have HB3 := Lib.hid (HBe2.out.trans hb3); have HO3 := Lib.hid (hk3 _ _ _ _ HOe.out); clear hd3 hb3 hk3)
        go_roundw
        case rel => exact ⟨j + 1, by omega, by go_num, Lib.hid (by have h := HD3.out; rw [HS.out, ← List.append_assoc]; exact h), HB3, HO3⟩
        case measure => simp [intOf]; omega
      obtain rfl : j = m := by omega
      have hlt' : ¬ (j : Int) < (j : Int) := by omega
      rw [List.take_of_length_le (Nat.le_of_eq HM.out.symm)] at HD
      have HSt := Lib.hid (String_any w.heap.size w.heap.size _ wr HD.out HB.out.size)
      go_wp2_with (go_at_call 50; refine HSt.out.mono ?_; clear HSt; rintro e w3 ⟨rfl, hb3⟩; have HB3 := Lib.hid (HB.out.trans hb3); clear hb3)
      go_ret
      exact ⟨rfl, HB3.out⟩
set_option maxHeartbeats 4000000 in
/-- .. of no graph. -/
theorem GPrint_nil (w : World) : Calls Tryz.prog 20 #[.pointer none] w fun e w' => e = .returned (.string ⟨#[]⟩) ∧ Below w.heap.size w w' := by
  obtain ⟨w1, hw1⟩ : ∃ W, W = w.alloc (.cells #[.pointer none, .slice none 0 0] 95) := ⟨_, rfl⟩
  have HB1 := Lib.hid (show Below w.heap.size w w1 from by rw [hw1]; exact bel_al (Below.refl _ _) _)
  have HD1 := Lib.hid (show Bld w.heap.size w.heap.size [] w1 from by rw [hw1]; exact Bld.new w)
  have HLe := Lib.hid (GLen_nil w1)
  have HEd := Lib.hid (LEdges_nil w1)
  have HSt := Lib.hid (String_any w.heap.size w.heap.size _ w1 HD1.out HB1.out.size)
  go_enter Tryz.func20, Tryz.ntmps20
  go_upto_region 2 with (fail)
  rw [← hw1]
  clear hw1
  go_upto_region 4 with (go_at_call 12; refine HLe.out.mono ?_; clear HLe; rintro e w' ⟨rfl, rfl⟩)
  go_loopw [11] (fun iv wr => iv = .int .i64 0 ∧ w1 = wr) (fun iv _ => 0)
  case atStart => exact ⟨rfl, rfl⟩
  case round =>
    obtain ⟨rfl, rfl⟩ := hrel
    go_upto_region 9 with (go_at_call 43; refine HEd.out.mono ?_; clear HEd; rintro e W1 ⟨rfl, rfl⟩)
    go_loopw [24] (fun iv wr => iv = .int .i64 0 ∧ w1 = wr) (fun iv _ => 0)
    case atStart => exact ⟨rfl, rfl⟩
    case round =>
      obtain ⟨rfl, rfl⟩ := hrel
      go_wp2_with (go_at_call 50; refine HSt.out.mono ?_; clear HSt; rintro e w3 ⟨rfl, hb3⟩; have HB3 := Lib.hid (HB1.out.trans hb3); clear hb3)
      go_ret
      exact ⟨rfl, HB3.out⟩
end Go.Proofs.YtbbmgcdocolakaaGreatDoor
