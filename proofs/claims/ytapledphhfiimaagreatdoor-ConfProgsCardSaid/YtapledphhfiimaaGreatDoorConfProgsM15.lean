/-
  Part 15 of the proof of ConfProgs: PatT, PatN, PgD.
-/
import Derived.Test.YtapledphhfiimaaGreatDoorConfProgsM4
import Derived.Test.YtapledphhfiimaaGreatDoorConfProgsM2
import Derived.BigQuiet
import Derived.Test.YtapledphhfiimaaGreatDoorConfProgsM9
/-
  A pattern's text tells the pattern (plain).
-/
namespace Go.Proofs.YtapledphhfiimaaGreatDoor.Pt
set_option linter.unusedVariables false

def val (l : List UInt8) : Nat := l.foldl (fun a d => a * 10 + (d.toNat - 48)) 0
theorem val_snoc (l : List UInt8) (d : UInt8) : val (l ++ [d]) = val l * 10 + (d.toNat - 48) := by simp [val]
theorem dig_nat {u : Nat} (h : u < 10) : (UInt8.ofNat (48 + u)).toNat = 48 + u := by
  rw [UInt8.toNat_ofNat']
  omega
theorem val_dec (u : Nat) : val (Lib.decDigits u) = u := by
  rw [Lib.decDigits]
  split
  · rename_i h
    show 0 * 10 + ((UInt8.ofNat (48 + u)).toNat - 48) = u
    rw [dig_nat h]
    omega
  · rw [val_snoc, val_dec (u / 10), dig_nat (Nat.mod_lt _ (by omega))]
    omega
termination_by u
decreasing_by omega
theorem dec_dig (u : Nat) : ∀ d ∈ Lib.decDigits u, 48 ≤ d.toNat ∧ d.toNat ≤ 57 := by
  rw [Lib.decDigits]
  split
  · rename_i h
    intro d hd
    obtain rfl := List.mem_singleton.1 hd
    rw [dig_nat h]
    omega
  · intro d hd
    rcases List.mem_append.1 hd with hd | hd
    · exact dec_dig (u / 10) d hd
    · obtain rfl := List.mem_singleton.1 hd
      rw [dig_nat (Nat.mod_lt _ (by omega))]
      omega
termination_by u
decreasing_by omega
theorem dec_ne (u : Nat) : Lib.decDigits u ≠ [] := by
  rw [Lib.decDigits]
  split <;> simp
theorem itoa_pos {x : Int} (h : 0 ≤ x) : Lib.itoa x = Lib.decDigits x.toNat := by unfold Lib.itoa; rw [if_neg (by omega)]
theorem itoa_inj {x y : Int} (hx : 0 ≤ x) (hy : 0 ≤ y) (h : Lib.itoa x = Lib.itoa y) : x = y := by
  rw [itoa_pos hx, itoa_pos hy] at h
  have := congrArg val h
  rw [val_dec, val_dec] at this
  omega
theorem itoa_dig {x : Int} (h : 0 ≤ x) : ∀ d ∈ Lib.itoa x, 48 ≤ d.toNat ∧ d.toNat ≤ 57 := by rw [itoa_pos h]; exact dec_dig _
theorem itoa_ne {x : Int} (h : 0 ≤ x) : Lib.itoa x ≠ [] := by rw [itoa_pos h]; exact dec_ne _

theorem split_at {s : UInt8} : ∀ {a b c d : List UInt8}, s ∉ a → s ∉ c → a ++ s :: b = c ++ s :: d → a = c ∧ b = d
  | [], b, [], d, _, _, h => ⟨rfl, by simpa using h⟩
  | [], b, x :: c, d, _, hc, h => by
    simp only [List.nil_append, List.cons_append, List.cons.injEq] at h
    exact absurd (List.mem_cons.2 (.inl h.1)) hc
  | x :: a, b, [], d, ha, _, h => by
    simp only [List.nil_append, List.cons_append, List.cons.injEq] at h
    exact absurd (List.mem_cons.2 (.inl h.1.symm)) ha
  | x :: a, b, y :: c, d, ha, hc, h => by
    simp only [List.cons_append, List.cons.injEq] at h
    obtain ⟨h1, h2⟩ := split_at (fun hm => ha (List.mem_cons_of_mem _ hm)) (fun hm => hc (List.mem_cons_of_mem _ hm)) h.2
    exact ⟨by rw [h.1, h1], h2⟩
theorem tail_inj {s : UInt8} : ∀ (r t : List (List UInt8)) (x y : List UInt8), (∀ b ∈ x :: r, s ∉ b) → (∀ b ∈ y :: t, s ∉ b) → x ++ Lib.joinTail [s] r = y ++ Lib.joinTail [s] t → x = y ∧ r = t
  | [], [], x, y, _, _, h => ⟨by simpa [Lib.joinTail] using h, rfl⟩
  | [], z :: t, x, y, hx, _, h => by
    exfalso
    refine hx x (List.mem_cons_self ..) ?_
    have : x = y ++ (s :: (z ++ Lib.joinTail [s] t)) := by simpa [Lib.joinTail] using h
    rw [this]
    simp
  | w :: r, [], x, y, _, hy, h => by
    exfalso
    refine hy y (List.mem_cons_self ..) ?_
    have : x ++ (s :: (w ++ Lib.joinTail [s] r)) = y := by simpa [Lib.joinTail] using h
    rw [← this]
    simp
  | w :: r, z :: t, x, y, hx, hy, h => by
    have h' : x ++ s :: (w ++ Lib.joinTail [s] r) = y ++ s :: (z ++ Lib.joinTail [s] t) := by simpa [Lib.joinTail] using h
    obtain ⟨h1, h2⟩ := split_at (hx x (List.mem_cons_self ..)) (hy y (List.mem_cons_self ..)) h'
    obtain ⟨h3, h4⟩ := tail_inj r t w z (fun b hb => hx b (List.mem_cons_of_mem _ hb)) (fun b hb => hy b (List.mem_cons_of_mem _ hb)) h2
    exact ⟨h1, by rw [h3, h4]⟩
theorem join_inj {s : UInt8} : ∀ (r t : List (List UInt8)), (∀ b ∈ r, b ≠ [] ∧ s ∉ b) → (∀ b ∈ t, b ≠ [] ∧ s ∉ b) → Lib.join r [s] = Lib.join t [s] → r = t
  | [], [], _, _, _ => rfl
  | [], y :: t, _, hy, h => by
    rw [Lib.join_nil, Lib.join_cons] at h
    exact absurd (List.append_eq_nil_iff.1 h.symm).1 (hy y (List.mem_cons_self ..)).1
  | x :: r, [], hx, _, h => by
    rw [Lib.join_nil, Lib.join_cons] at h
    exact absurd (List.append_eq_nil_iff.1 h).1 (hx x (List.mem_cons_self ..)).1
  | x :: r, y :: t, hx, hy, h => by
    rw [Lib.join_cons, Lib.join_cons] at h
    obtain ⟨h1, h2⟩ := tail_inj r t x y (fun b hb => (hx b hb).2) (fun b hb => (hy b hb).2) h
    rw [h1, h2]
theorem join_not {s t : UInt8} (hst : s ≠ t) : ∀ (r : List (List UInt8)), (∀ b ∈ r, t ∉ b) → t ∉ Lib.join r [s]
  | [], _ => by simp [Lib.join_nil]
  | x :: r, h => by
    rw [Lib.join_cons]
    intro hm
    rcases List.mem_append.1 hm with hm | hm
    · exact h x (List.mem_cons_self ..) hm
    · unfold Lib.joinTail at hm
      obtain ⟨l, hl, hm⟩ := List.mem_flatten.1 hm
      obtain ⟨b, hb, rfl⟩ := List.mem_map.1 hl
      rcases List.mem_append.1 hm with hm | hm
      · exact hst (List.mem_singleton.1 hm).symm
      · exact h b (List.mem_cons_of_mem _ hb) hm
theorem map_inj {α β : Type} {f : α → β} : ∀ (l m : List α), (∀ x ∈ l, ∀ y ∈ m, f x = f y → x = y) → l.map f = m.map f → l = m
  | [], [], _, _ => rfl
  | [], y :: m, _, h => by simp at h
  | x :: l, [], _, h => by simp at h
  | x :: l, y :: m, hf, h => by
    simp only [List.map_cons, List.cons.injEq] at h
    rw [hf x (List.mem_cons_self ..) y (List.mem_cons_self ..) h.1, map_inj l m (fun a ha b hb => hf a (List.mem_cons_of_mem _ ha) b (List.mem_cons_of_mem _ hb)) h.2]

def edgeL (e : Int × Int) : List UInt8 := Lib.itoa e.1 ++ 45 :: Lib.itoa e.2
theorem not_dig {x : Int} (h : 0 ≤ x) {s : UInt8} (hs : s.toNat < 48 ∨ 57 < s.toNat) : s ∉ Lib.itoa x := fun hm => by
  have := itoa_dig h s hm
  omega
theorem edgeL_not {e : Int × Int} (h1 : 0 ≤ e.1) (h2 : 0 ≤ e.2) {s : UInt8} (hs : s.toNat < 45 ∨ 57 < s.toNat) : s ∉ edgeL e := fun hm => by
  rcases List.mem_append.1 hm with hm | hm
  · exact not_dig h1 (by omega) hm
  · rcases List.mem_cons.1 hm with hm | hm
    · subst hm
      have : (45 : UInt8).toNat = 45 := rfl
      omega
    · exact not_dig h2 (by omega) hm
theorem edgeL_inj {e f : Int × Int} (h1 : 0 ≤ e.1) (h2 : 0 ≤ e.2) (h3 : 0 ≤ f.1) (h4 : 0 ≤ f.2) (h : edgeL e = edgeL f) : e = f := by
  obtain ⟨g1, g2⟩ := split_at (not_dig h1 (.inl (by decide))) (not_dig h3 (.inl (by decide))) h
  exact Prod.ext (itoa_inj h1 h3 g1) (itoa_inj h2 h4 g2)
/-- A pattern's text, as a list of bytes. -/
def textL (L : List Int) (E : List (Int × Int)) : List UInt8 := Lib.join (L.map Lib.itoa) [44] ++ 124 :: Lib.join (E.map edgeL) [44]
theorem textL_inj {L L' : List Int} {E E' : List (Int × Int)} (hL : ∀ x ∈ L, 0 ≤ x) (hL' : ∀ x ∈ L', 0 ≤ x) (hE : ∀ e ∈ E, 0 ≤ e.1 ∧ 0 ≤ e.2) (hE' : ∀ e ∈ E', 0 ≤ e.1 ∧ 0 ≤ e.2)
    (h : textL L E = textL L' E') : L = L' ∧ E = E' := by
  have n1 : ∀ (M : List Int), (∀ x ∈ M, 0 ≤ x) → (124 : UInt8) ∉ Lib.join (M.map Lib.itoa) [44] := fun M hM => join_not (by decide) _ fun b hb => by
    obtain ⟨x, hx, rfl⟩ := List.mem_map.1 hb
    exact not_dig (hM x hx) (.inr (by decide))
  obtain ⟨h1, h2⟩ := split_at (n1 L hL) (n1 L' hL') h
  have n2 : ∀ (M : List Int), (∀ x ∈ M, 0 ≤ x) → ∀ b ∈ M.map Lib.itoa, b ≠ [] ∧ (44 : UInt8) ∉ b := fun M hM b hb => by
    obtain ⟨x, hx, rfl⟩ := List.mem_map.1 hb
    exact ⟨itoa_ne (hM x hx), not_dig (hM x hx) (.inl (by decide))⟩
  have n3 : ∀ (M : List (Int × Int)), (∀ e ∈ M, 0 ≤ e.1 ∧ 0 ≤ e.2) → ∀ b ∈ M.map edgeL, b ≠ [] ∧ (44 : UInt8) ∉ b := fun M hM b hb => by
    obtain ⟨x, hx, rfl⟩ := List.mem_map.1 hb
    exact ⟨by unfold edgeL; simp, edgeL_not (hM x hx).1 (hM x hx).2 (.inl (by decide))⟩
  exact ⟨map_inj _ _ (fun x hx y hy => itoa_inj (hL x hx) (hL' y hy)) (join_inj _ _ (n2 L hL) (n2 L' hL') h1), map_inj _ _ (fun e he f hf => edgeL_inj (hE e he).1 (hE e he).2 (hE' f hf).1 (hE' f hf).2) (join_inj _ _ (n3 E hE) (n3 E' hE') h2)⟩
theorem textB_list (L : List Int) (E : List (Int × Int)) : (textB L E).data.toList = textL L E := by
  have e1 : (L.map itoaB).map (·.data.toList) = L.map Lib.itoa := by
    rw [List.map_map]
    exact List.map_congr_left fun x _ => by simp
  have e2 : (E.map edgeB).map (·.data.toList) = E.map edgeL := by
    rw [List.map_map]
    exact List.map_congr_left fun e _ => by simp [edgeB, edgeL]
  unfold textB joinB textL
  rw [e1, e2]
  simp
theorem textB_inj {L L' : List Int} {E E' : List (Int × Int)} (hL : ∀ x ∈ L, 0 ≤ x) (hL' : ∀ x ∈ L', 0 ≤ x) (hE : ∀ e ∈ E, 0 ≤ e.1 ∧ 0 ≤ e.2) (hE' : ∀ e ∈ E', 0 ≤ e.1 ∧ 0 ≤ e.2) :
    textB L E = textB L' E' ↔ L = L' ∧ E = E' := by
  constructor
  · intro h
    refine textL_inj hL hL' hE hE' ?_
    rw [← textB_list, ← textB_list, h]
  · rintro ⟨rfl, rfl⟩
    rfl
end Go.Proofs.YtapledphhfiimaaGreatDoor.Pt
/-
  The document's numbers as texts: Num, num.
-/
namespace Go.Proofs.YtapledphhfiimaaGreatDoor
open Go.RowKit
set_option maxRecDepth 100000
set_option linter.unusedVariables false

def decB (u : Nat) : ByteArray := ⟨(Lib.decDigits u).toArray⟩
theorem decB_step {u : Nat} (h : 10 ≤ u) : decB (u / 10) ++ decB (u % 10) = decB u := by
  have e : Lib.decDigits u = Lib.decDigits (u / 10) ++ Lib.decDigits (u % 10) := by
    conv => lhs; rw [Lib.decDigits, dif_neg (by omega)]
    congr 1
    rw [Lib.decDigits, dif_pos (Nat.mod_lt _ (by omega))]
  unfold decB
  rw [e]
  apply ByteArray.ext
  simp
theorem decB_one {u : Nat} (h : u < 10) : decB u = ⟨#[UInt8.ofNat (48 + u)]⟩ := by
  unfold decB
  rw [Lib.decDigits, dif_pos h]
theorem strOf_one {u : Nat} (h : u < 10) : strOfNums [((48 + u : Nat) : Int)] = decB u := by
  rw [decB_one h]
  unfold strOfNums
  simp only [List.map_cons, List.map_nil, Int.toNat_natCast]
set_option linter.unnecessarySimpa false in
theorem conv_one (w : World) (u : Nat) (h : u < 10) : (convert 142 9 (.slice (some ⟨w.heap.size, 0, none⟩) 1 1)).run Tryz.prog (w.alloc (.cells #[.int .u8 ((48 + u : Nat) : Int)] 5)) = .ok (.string (decB u)) (w.alloc (.cells #[.int .u8 ((48 + u : Nat) : Int)] 5)) := by
  rw [← strOf_one h]
  refine run_convert_bytes_arg (P := Tryz.prog) _ 142 5 Tryz.underlying142 Tryz.underlying5 _ 0 1 1 [((48 + u : Nat) : Int)] rfl (fun i hi => ?_) 9 Tryz.underlying9
  obtain rfl : i = 0 := by omega
  have c := (Blk.new w 5 #[.int .u8 ((48 + u : Nat) : Int)]).cell 0
  simpa using c

theorem decB_itoa (u : Nat) : itoaB (u : Int) = decB u := by
  unfold itoaB decB
  rw [Lib.itoa, if_neg (by omega), Int.toNat_natCast]
theorem decB_size {u : Nat} (h : u ≤ 9223372036854775807) : (decB u).size ≤ 21 := by
  rw [← decB_itoa]
  exact itoaB_size _ (by unfold i64P; omega)

theorem itoa_neg {u : Nat} (h : 1 ≤ u) : itoaB (-(u : Int)) = ⟨#[45]⟩ ++ decB u := by
  unfold itoaB decB
  rw [Lib.itoa, if_pos (by omega), Int.natAbs_neg, Int.natAbs_natCast]
  apply ByteArray.ext
  simp
theorem itoa_neg_step {u : Nat} (h : 10 ≤ u) : itoaB (-((u / 10 : Nat) : Int)) ++ decB (u % 10) = itoaB (-(u : Int)) := by
  rw [itoa_neg (by omega), itoa_neg (by omega), ByteArray.append_assoc, decB_step h]

end Go.Proofs.YtapledphhfiimaaGreatDoor
/-
  The document's words for programs of tests: takes, Fault, Right, Of, Text.
-/
namespace Go.Proofs.YtapledphhfiimaaGreatDoor
open Go.RowKit Go.Proofs.YtapledphhfiimaaGreatDoor.Pg
attribute [local go_sem ↓] Go.wp_at_zero Go.wp_at_succ
set_option maxRecDepth 100000
set_option linter.unusedVariables false

theorem RefTakes_any (k : Int) (w : World) : Calls Tryz.prog 109 #[.int .i64 k] w fun e w' => e = .returned (.bool (takesZ k)) ∧ w = w' := by
  have HT := Lib.hid (show (k != 1 && k != 6 && k != 8) = takesZ k from by
    unfold takesZ
    by_cases h1 : k = 1
    · subst h1; rfl
    by_cases h6 : k = 6
    · subst h6; rfl
    by_cases h8 : k = 8
    · subst h8; rfl
    simp [h1, h6, h8])
  go_enter Tryz.func109, Tryz.ntmps109
  go_wp2
  all_goals (
    go_ret
    first
      | exact ⟨ret_bool HT.out, rfl⟩
      | (have e1 : (k == 1) = false := by simpa using (by assumption : ¬ k = 1)
         exact ⟨ret_bool (by rw [← HT.out]; simp [*]), rfl⟩)
      | exact ⟨ret_bool (by rw [← HT.out]; simp [*]), rfl⟩)
def faultZ (o : Int × Int) : Int :=
  if ¬ (1 ≤ o.1 ∧ o.1 ≤ 8) then 1 else if o.2 < 0 ∨ 255 < o.2 ∨ (takesZ o.1 = false ∧ o.2 ≠ 0) then 3 else 0
theorem faultZ_ok {o : Int × Int} : faultZ o = 0 ↔ opOK o := by
  unfold faultZ opOK
  constructor
  · intro h
    split at h
    · cases h
    · rename_i h1
      split at h
      · cases h
      · rename_i h2
        refine ⟨by omega, by omega, fun ht => ?_⟩
        have := mt (fun h => Or.inr (Or.inr h)) h2
        by_cases h0 : o.2 = 0
        · exact h0
        · exact absurd ⟨ht, h0⟩ this
  · rintro ⟨h1, h2, h3⟩
    rw [if_neg (by omega), if_neg]
    rintro (h | h | ⟨h, h'⟩)
    · omega
    · omega
    · exact h' (h3 h)
set_option maxHeartbeats 4000000 in
theorem RefFault_any (k n : Int) (w : World) : Calls Tryz.prog 76 #[.agg #[.int .i64 k, .int .i64 n]] w fun e w' => e = .returned (.int .i64 (faultZ (k, n))) ∧ Below w.heap.size w w' := by
  have HB := Lib.hid (bel_al (Below.refl w.heap.size w) (.cells #[.int .i64 k, .int .i64 n] 72))
  have HTk := Lib.hid (fun W => RefTakes_any k W)
  by_cases h1 : k < 1
  · have HF := Lib.hid (show (1 : Int) = faultZ (k, n) from by unfold faultZ; rw [if_pos (by simp only; omega)])
    go_enter Tryz.func76, Tryz.ntmps76
    go_wp2_with go_in
    go_ret
    exact ⟨ret_int HF.out, HB.out⟩
  by_cases h8 : 8 < k
  · have HF := Lib.hid (show (1 : Int) = faultZ (k, n) from by unfold faultZ; rw [if_pos (by simp only; omega)])
    go_enter Tryz.func76, Tryz.ntmps76
    go_wp2_with go_in
    go_ret
    exact ⟨ret_int HF.out, HB.out⟩
  by_cases h0 : n < 0
  · have HF := Lib.hid (show (3 : Int) = faultZ (k, n) from by unfold faultZ; rw [if_neg (by simp only; omega), if_pos (.inl h0)])
    go_enter Tryz.func76, Tryz.ntmps76
    go_wp2_with go_in
    go_ret
    exact ⟨ret_int HF.out, HB.out⟩
  by_cases h9 : 255 < n
  · have HF := Lib.hid (show (3 : Int) = faultZ (k, n) from by unfold faultZ; rw [if_neg (by simp only; omega), if_pos (.inr (.inl h9))])
    go_enter Tryz.func76, Tryz.ntmps76
    go_wp2_with go_in
    go_ret
    exact ⟨ret_int HF.out, HB.out⟩
  cases ht : takesZ k with
  | true =>
    rw [ht] at HTk
    have HF := Lib.hid (show (0 : Int) = faultZ (k, n) from by unfold faultZ; rw [if_neg (by simp only; omega), if_neg]; rintro (h | h | ⟨h, _⟩) <;> simp only at h; omega; omega; rw [ht] at h; cases h)
    clear ht
    go_enter Tryz.func76, Tryz.ntmps76
    go_wp2_with (first | (go_at_call 109; refine (HTk.out _).mono ?_; rintro e w3 ⟨rfl, rfl⟩) | go_in)
    go_ret
    exact ⟨ret_int HF.out, HB.out⟩
  | false =>
    rw [ht] at HTk
    by_cases hn : n = 0
    · subst hn
      have HF := Lib.hid (show (0 : Int) = faultZ (k, 0) from by unfold faultZ; rw [if_neg (by simp only; omega), if_neg]; rintro (h | h | ⟨_, h⟩) <;> simp at h)
      clear ht
      go_enter Tryz.func76, Tryz.ntmps76
      go_wp2_with (first | (go_at_call 109; refine (HTk.out _).mono ?_; rintro e w3 ⟨rfl, rfl⟩) | go_in)
      go_ret
      exact ⟨ret_int HF.out, HB.out⟩
    · have HF := Lib.hid (show (3 : Int) = faultZ (k, n) from by unfold faultZ; rw [if_neg (by simp only; omega), if_pos (.inr (.inr ⟨ht, hn⟩))])
      have e0 : (n == 0) = false := by simpa using hn
      clear ht hn
      go_enter Tryz.func76, Tryz.ntmps76
      go_wp2_with (first | (go_at_call 109; refine (HTk.out _).mono ?_; rintro e w3 ⟨rfl, rfl⟩) | go_in)
      go_ret
      exact ⟨ret_int HF.out, HB.out⟩
def Right17Res (p : List (Int × Int)) (w : World) (e : Ending) (w' : World) : Prop :=
  ∃ (cc a : Int), e = .returned (.tuple #[.int .i64 cc, .int .i64 a]) ∧ (cc = 0 ↔ rightG p) ∧ Below w.heap.size w w'
set_option maxHeartbeats 4000000 in
theorem RefRight17_any (p : List (Int × Int)) (A : Option Addr) (n c : Nat) (w : World) (hn : n ≤ 1000000) (hs : Sl w 2 A n (Rk.cells p)) :
    Calls Tryz.prog 45 #[.slice A n c] w (Right17Res p w) := by
  have HS := Lib.hid hs
  have HM := Lib.hid hs.len2
  clear hs
  go_enter Tryz.func45, Tryz.ntmps45
  by_cases h16 : 16 < n
  · have h16' : (16 : Int) < (n : Int) := by omega
    go_wp2_with fail
    go_ret2
    exact ⟨6, 0, rfl, ⟨fun h => by omega, fun h => by have := h.1; rw [HM.out] at this; omega⟩, Below.refl _ _⟩
  · have h16' : ¬ (16 : Int) < (n : Int) := by omega
    go_wp2_with fail
    go_loopw [4] (fun iv wr => ∃ k : Nat, k ≤ n ∧ iv = .int .i64 (k : Int) ∧ Hid (∀ o ∈ p.take k, opOK o) ∧ Hid (Below w.heap.size w wr)) (fun iv _ => n - (intOf iv).toNat)
    case atStart => exact ⟨0, Nat.zero_le _, rfl, Lib.hid (fun o ho => by simp at ho), Lib.hid (Below.refl _ _)⟩
    case round =>
      obtain ⟨k, hk, rfl, HD, HB⟩ := hrel
      by_cases hlt : k < n
      · have hlt' : (k : Int) < (n : Int) := by omega
        have hk0 : (0 : Int) ≤ (k : Int) := by omega
        obtain ⟨⟨x, y⟩, he⟩ : ∃ e, p[k]? = some e := ⟨_, List.getElem?_eq_getElem (by rw [HM.out]; exact hlt)⟩
        obtain ⟨b1, off1, rfl, c0, c1⟩ := (HS.out.keep HB.out).edge hlt he
        simp only at c0 c1
        have HE := Lib.hid he
        have HF1 := Lib.hid (RefFault_any x y wr)
        have HF2 := Lib.hid (fun W => RefFault_any x y W)
        have HOk := Lib.hid (faultZ_ok (o := (x, y)))
        obtain ⟨f, hf⟩ : ∃ f, f = faultZ (x, y) := ⟨_, rfl⟩
        rw [← hf] at HF1 HF2 HOk
        have HSl := Lib.hid ((HS.out.keep HB.out))
        clear he hf
        by_cases hf0 : f = 0
        · subst hf0
          have HN := Lib.hid (show ∀ o ∈ p.take (k + 1), opOK o from fun o ho => by
            obtain ⟨h3, h4⟩ := List.getElem?_eq_some_iff.1 HE.out
            rw [List.take_succ_eq_append_getElem h3, h4] at ho
            rcases List.mem_append.1 ho with h | h
            · exact HD.out o h
            · rw [List.mem_singleton.1 h]; exact HOk.out.1 rfl)
          go_wp2_with (go_at_call 76; refine HF1.out.mono ?_; clear HF1; rintro e w2 ⟨rfl, hb2⟩; have HB2 := Lib.hid (HB.out.andThen hb2); clear hb2)
          go_roundw
          case rel => exact ⟨k + 1, by omega, by go_num, HN, HB2⟩
          case measure => simp [intOf]; omega
        · have hf0' : (f == 0) = false := by simpa using hf0
          have HNo := Lib.hid (show f = 0 ↔ rightG p from ⟨fun h => absurd h hf0, fun h => HOk.out.2 (h.2 _ (List.mem_of_getElem? HE.out))⟩)
          go_wp2_with (first
            | (go_at_call 76; refine HF1.out.mono ?_; clear HF1; rintro e w2 ⟨rfl, hb2⟩; have HB2 := Lib.hid (HB.out.andThen hb2); obtain ⟨b9, off9, h9, d0, d1⟩ := (HSl.out.keep hb2).edge hlt HE.out; cases h9; simp only at d0 d1; clear hb2)
            | (go_at_call 76; refine (HF2.out _).mono ?_; clear HF2; rintro e w3 ⟨rfl, hb3⟩; have HB3 := Lib.hid (HB2.out.andThen hb3); clear hb3))
          go_ret2
          exact ⟨f, _, rfl, HNo.out, HB3.out⟩
      · obtain rfl : k = n := by omega
        have hlt' : ¬ (k : Int) < (k : Int) := by omega
        rw [List.take_of_length_le (by rw [HM.out]; exact Nat.le_refl _)] at HD
        go_wp2_with fail
        go_ret2
        exact ⟨0, 0, rfl, ⟨fun _ => ⟨by rw [HM.out]; omega, HD.out⟩, fun _ => rfl⟩, HB.out⟩
set_option maxHeartbeats 4000000 in
theorem Of17_any (p : List (Int × Int)) (A : Option Addr) (n c : Nat) (w : World) (hn : n ≤ 100000) (hs : Sl w 2 A n (Rk.cells p)) :
    Calls Tryz.prog 8 #[.slice A n c] w fun e w' => ∃ (D : Option Addr) (d : Nat), e = .returned (.slice D n d) ∧ w'.ownsRow w.heap.size 40 2 (.slice D n d) n (Rk.cells p) ∧ Below w.heap.size w w' := by
  have HS := Lib.hid hs
  have HM := Lib.hid hs.len2
  clear hs
  go_enter Tryz.func8, Tryz.ntmps8
  go_wp2_with fail
  go_loopw [3, 4] (fun ov iv wr => ∃ k : Nat, k ≤ n ∧ iv = .int .i64 (k : Int) ∧ Hid (wr.ownsRow w.heap.size 40 2 ov k (Rk.cells (p.take k))) ∧ Hid (Below w.heap.size w wr)) (fun _ iv _ => n - (intOf iv).toNat)
  case atStart => exact ⟨0, Nat.zero_le _, rfl, Lib.hid (World.ownsRow_nil _ _ _ _), Lib.hid (Below.refl _ _)⟩
  case round =>
    obtain ⟨k, hk, rfl, HO, HB⟩ := hrel
    by_cases hlt : k < n
    · have hlt' : (k : Int) < (n : Int) := by omega
      have hk0 : (0 : Int) ≤ (k : Int) := by omega
      obtain ⟨⟨x, y⟩, he⟩ : ∃ e, p[k]? = some e := ⟨_, List.getElem?_eq_getElem (by rw [HM.out]; exact hlt)⟩
      obtain ⟨b1, off1, rfl, c0, c1⟩ := (HS.out.keep HB.out).edge hlt he
      simp only at c0 c1
      have HE := Lib.hid (show p.take (k + 1) = p.take k ++ [(x, y)] from by
        obtain ⟨h3, h4⟩ := List.getElem?_eq_some_iff.1 he
        rw [List.take_succ_eq_append_getElem h3, h4])
      clear he
      go_wp2_with (at_builtin; refine wpList_push elemOp (w0 := w) _ _ rfl rfl HO.out HB.out (Nat.le_refl _) rfl rfl rfl (by simp [Value.oneCell']) (by unfold lim; omega) (by unfold lim; omega) ?_; intro v4 w4 hown4 hb4; have HO4 := Lib.hid hown4; have HB4 := Lib.hid hb4; clear hown4 hb4)
      go_roundw
      case rel => exact ⟨k + 1, by omega, by go_num, Lib.hid (by rw [HE.out, Rk.cells_snoc]; exact HO4.out), HB4⟩
      case measure => simp [intOf]; omega
    · obtain rfl : k = n := by omega
      have hlt' : ¬ (k : Int) < (k : Int) := by omega
      rw [List.take_of_length_le (by rw [HM.out]; exact Nat.le_refl _)] at HO
      obtain ⟨D, dc, rfl, hsl⟩ := Sl.own HO.out
      clear hsl
      go_wp2_with fail
      go_ret
      exact ⟨D, dc, rfl, HO.out, HB.out⟩
end Go.Proofs.YtapledphhfiimaaGreatDoor
