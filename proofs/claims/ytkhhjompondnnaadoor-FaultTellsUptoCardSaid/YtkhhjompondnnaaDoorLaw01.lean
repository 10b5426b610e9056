/-
  Chapter 01's statements: alive, made, the document's Text.
-/
import Derived.Test.YtkhhjompondnnaaDoorText
namespace Go.Proofs.YtkhhjompondnnaaDoor
open Go.RowKit Go.Extern.Stop Go.Stop Go.Extern
set_option maxRecDepth 100000

/-- A fault within steps. -/
def chain (words : List ByteArray) (c a : Int) (s : ByteArray) : Err := words.foldr (fun w e => .step w e) (.flt c a s)
theorem chain_ne (words : List ByteArray) (c a : Int) (s : ByteArray) : chain words c a s ≠ .nil := by cases words <;> intro h <;> cases h
theorem chain_words (c a : Int) (s : ByteArray) : ∀ words : List ByteArray, (chain words c a s).words = words
  | [] => rfl
  | w :: ws => by show w :: (chain ws c a s).words = _; rw [chain_words c a s ws]
theorem chain_flt (c a : Int) (s : ByteArray) : ∀ words : List ByteArray, (chain words c a s).flt? = some (c, a, s)
  | [] => rfl
  | _ :: ws => chain_flt c a s ws
theorem chain_code (c a : Int) (s : ByteArray) : ∀ words : List ByteArray, (chain words c a s).code = c
  | [] => rfl
  | _ :: ws => chain_code c a s ws
theorem chain_at (c a : Int) (s : ByteArray) : ∀ words : List ByteArray, (chain words c a s).at_ = a
  | [] => rfl
  | _ :: ws => chain_at c a s ws
theorem chain_inner (c a : Int) (s : ByteArray) : ∀ words : List ByteArray, (chain words c a s).inner = s
  | [] => rfl
  | _ :: ws => chain_inner c a s ws
theorem chain_size (c a : Int) (s : ByteArray) : ∀ words : List ByteArray, (chain words c a s).size = words.length + 1
  | [] => rfl
  | _ :: ws => by show (chain ws c a s).size + 1 = _; rw [chain_size c a s ws]; rfl
theorem chain_isA (c a : Int) (s : ByteArray) (words : List ByteArray) (c2 : Int) : (chain words c a s).isA c2 0 ⟨#[]⟩ = (c2 == c) := by
  unfold Err.isA; rw [chain_flt]; simp [isB]

set_option maxHeartbeats 1000000 in
theorem made_any (ws : List ByteArray) (A : Option Addr) (n cp : Nat) (c a : Int) (s : ByteArray) (w : World) (hn : n ≤ 9223372036854775807) (hl : ws.length = n) (hs : Sl w 1 A n (ws.map Value.string)) :
    Calls Tryd.prog 47 #[.slice A n cp, .int .i64 c, .int .i64 a, .string s] w fun e w' => ∃ v, e = .returned v ∧ (chain ws c a s).At w' v ∧ Below w.heap.size w w' := by
  go_enter Tryd.func47, Tryd.ntmps47
  go_wp2_with (go_at_call 53; refine (New_err _ _ _ _).mono ?_; rintro e w1 ⟨v, rfl, hv, hb1⟩)
  go_loopw [9, 10] (fun e i wr => ∃ k : Nat, k ≤ n ∧ i = .int .i64 ((k : Int) - 1) ∧ (chain (ws.drop k) c a s).At wr e ∧ Below w.heap.size w wr) (fun _ i _ => (intOf i + 1).toNat)
  case atStart => exact ⟨n, Nat.le_refl _, rfl, by rw [List.drop_eq_nil_of_le (by omega)]; exact hv, hb1⟩
  case round =>
    obtain ⟨k, hk, rfl, hE, hb⟩ := hrel
    by_cases hlt : 0 < k
    · obtain ⟨j, rfl⟩ : ∃ j, k = j + 1 := ⟨k - 1, by omega⟩
      have hj : j < ws.length := by omega
      obtain ⟨b, off, u, rfl, e1, c1⟩ := (hs.keep hb).one (show j < n by omega)
      rw [List.getElem?_map, List.getElem?_eq_getElem hj] at e1
      obtain rfl := Option.some.inj e1
      have HD := Lib.hid (List.drop_eq_getElem_cons hj)
      have HN := Lib.hid (chain_ne (ws.drop (j + 1)) c a s)
      have HE := Lib.hid hE
      generalize ws[j] = wd at *
      rw [show (((j + 1 : Nat) : Int) - 1) = (j : Int) from by omega]
      clear hE e1 hl hv hs
      go_wp2_with (go_at_call 54; refine (In_any _ _ _ _ HE.out).mono ?_; rintro e w2 ⟨v2, rfl, hv2, hb2⟩)
      go_roundw
      case rel =>
        refine ⟨j, by omega, rfl, ?_, hb.andThen hb2⟩
        rw [HD.out]
        rw [Err.in_of HN.out] at hv2
        exact hv2
      case measure => simp [intOf] <;> omega
    · obtain rfl : k = 0 := by omega
      have HE := Lib.hid hE
      clear hE hl hv hs
      rw [show (((0 : Nat) : Int) - 1) = (-1 : Int) from rfl]
      go_wp2
      go_ret
      exact ⟨_, rfl, HE.out, hb⟩

set_option maxHeartbeats 1000000 in
theorem RefText_any (ws : List ByteArray) (A : Option Addr) (n cp : Nat) (s : ByteArray) (w : World) (hn : n ≤ 9223372036854775807) (hl : ws.length = n) (hs : Sl w 1 A n (ws.map Value.string))
    (hlen : (withColons ws).length ≤ lim) (hsl : s.size ≤ lim) :
    Calls Tryd.prog 51 #[.slice A n cp, .string s] w fun e w' => e = .returned (.string ⟨(withColons ws ++ s.data.toList).toArray⟩) ∧ w = w' := by
  have hss : s.size ≤ 140737488355328 := hsl
  have HL := Lib.hid hlen
  clear hlen hsl
  go_enter Tryd.func51, Tryd.ntmps51
  go_wp2
  go_loop [5, 6] (fun t i => ∃ k : Nat, k ≤ n ∧ i = .int .i64 k ∧ t = .string ⟨(withColons (ws.take k)).toArray⟩) (fun _ i => n - (intOf i).toNat)
  case atStart => exact ⟨0, Nat.zero_le _, rfl, by simp [withColons]⟩
  case round =>
    obtain ⟨k, hk, rfl, rfl⟩ := hrel
    by_cases hlt : k < n
    · have hj : k < ws.length := by omega
      obtain ⟨b, off, u, rfl, e1, c1⟩ := hs.one hlt
      rw [List.getElem?_map, List.getElem?_eq_getElem hj] at e1
      obtain rfl := Option.some.inj e1
      have HT := Lib.hid (List.take_succ_eq_append_getElem hj)
      have hle : (withColons (ws.take (k + 1))).length ≤ lim := Nat.le_trans (withColons_take_le _ _) HL.out
      rw [HT.out, withColons_snoc] at hle
      generalize ws[k] = wd at *
      simp only [List.length_append, List.length_cons, List.length_nil, Array.length_toList] at hle
      have h1 : wd.data.size = wd.size := rfl
      have h2 := lim_eq
      have hz1 : (⟨(withColons (ws.take k)).toArray⟩ : ByteArray).size + wd.size ≤ 140737488355328 := by rw [size_of_list]; omega
      have hz2 : ((⟨(withColons (ws.take k)).toArray⟩ : ByteArray) ++ wd).size ≤ 140737488355328 := by rw [ByteArray.size_append]; exact hz1
      have HT2 : Hid (Value.string ((⟨(withColons (ws.take k)).toArray⟩ : ByteArray) ++ wd ++ ⟨#[58, 32]⟩) = .string ⟨(withColons (ws.take (k + 1))).toArray⟩) := by
        show _ = _
        rw [HT.out, withColons_snoc, bytes_append, bytes_append]
        simp
      generalize (⟨(withColons (ws.take k)).toArray⟩ : ByteArray) = X at *
      clear e1 hl hs h1 h2 hle
      go_wp2
      go_round
      case rel => exact ⟨k + 1, by omega, by go_num, HT2.out⟩
      case measure => simp [intOf]; omega
    · have hz : (⟨(withColons ws).toArray⟩ : ByteArray).size ≤ 140737488355328 := by rw [size_of_list]; exact HL.out
      rw [List.take_of_length_le (by omega)]
      have HB := Lib.hid (bytes_append (withColons ws) s)
      generalize (⟨(withColons ws).toArray⟩ : ByteArray) = X at *
      clear hl hs
      go_wp2
      go_ret
      exact ⟨ret_eq (congrArg Value.string HB.out), rfl⟩

set_option maxHeartbeats 1000000 in
theorem alive01 (w : World) (hg : ErrT w) : Calls Tryd.prog 46 #[] w fun e w' => e = .returned (.bool true) ∧ Below w.heap.size w w' := by
  go_enter Tryd.func46, Tryd.ntmps46
  have hb0 := bel_al (Below.refl w.heap.size w) (.cells #[.string ⟨#[97]⟩] 9)
  have hs : Sl (w.alloc (.cells #[.string ⟨#[97]⟩] 9)) 1 (some ⟨w.heap.size, 0, none⟩) 1 ([⟨#[97]⟩].map Value.string) :=
    ⟨rfl, fun _ => ⟨_, _, rfl, fun j u hu => by
      match j, hu with
      | 0, hu => obtain rfl := Option.some.inj hu; simp⟩⟩
  have HM := Lib.hid (made_any [⟨#[97]⟩] (some ⟨w.heap.size, 0, none⟩) 1 1 2 5 ⟨#[120]⟩ _ (by omega) rfl hs)
  have HB := Lib.hid hb0
  clear hs hb0
  go_wp2_with fail
  refine HM.out.mono ?_
  rintro e w1 ⟨v, rfl, hv, hb1⟩
  have hg1 := (hg.keep HB.out).keep hb1
  have hT := Text_any _ v w1 hv (chain_ne _ _ _ _) (by rw [chain_size]; simp) (by rw [chain_words]; simp [withColons, lim]) (by rw [chain_inner]; simp [lim, ByteArray.size])
  rw [show (chain [⟨#[97]⟩] 2 5 ⟨#[120]⟩).text = [97, 58, 32, 120] from rfl] at hT
  have HT := Lib.hid hT
  have HV := Lib.hid hv
  obtain ⟨T, x, rfl⟩ := Err.At.iface_ hv (chain_ne _ _ _ _)
  clear hT hv
  go_wp2_with fail
  refine HT.out.mono ?_
  rintro e w2 ⟨rfl, hb2⟩
  have hC := Code_any _ _ w2 (HV.out.keep hb2) (hg1.keep hb2)
  rw [chain_code] at hC
  have HC := Lib.hid hC
  clear hC
  go_wp2_with fail
  refine HC.out.mono ?_
  rintro e w3 ⟨rfl, hb3⟩
  go_wp2_with fail
  refine (Code_nil _).mono ?_
  rintro e w4 ⟨rfl, rfl⟩
  go_wp2_with fail
  go_ret
  exact ⟨rfl, ((HB.out.andThen hb1).andThen hb2).andThen hb3⟩
end Go.Proofs.YtkhhjompondnnaaDoor
