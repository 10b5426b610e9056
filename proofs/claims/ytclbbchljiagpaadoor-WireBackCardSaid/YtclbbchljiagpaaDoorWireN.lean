/-
  What is put is taken: the plain law; what nobody answers.
-/
import Derived.Test.YtclbbchljiagpaaDoorWireI
import Derived.Test.YtclbbchljiagpaaDoorWireK
import Derived.Test.YtclbbchljiagpaaDoorWireL
import Derived.Test.YtclbbchljiagpaaDoorWireM
namespace Go.Proofs.YtclbbchljiagpaaDoor
open Go.RowKit
set_option maxRecDepth 100000
set_option linter.unusedVariables false

theorem strOf_sB' (s : ByteArray) : strOfNums (sB s) = s := by
  have h : (strOfNums (sB s)).data.toList = s.data.toList := by
    rw [strOfNums_data, sB, List.map_map]
    refine (List.map_congr_left (fun b _ => ?_)).trans (List.map_id _)
    show UInt8.ofNat ((b.toNat : Int)).toNat = b
    rw [Int.toNat_natCast]
    exact UInt8.ofNat_toNat
  cases hs : strOfNums (sB s) with | mk d =>
  cases s with | mk e =>
  rw [hs] at h
  have : d = e := by
    have h' : d.toList = e.toList := h
    exact Array.toList_inj.1 h'
  rw [this]
/-- Numbers' bytes. -/
def encL : List Int → List Int
  | [] => []
  | z :: l => wordL z.toNat ++ encL l
theorem encL_len : ∀ l, (encL l).length = 4 * l.length
  | [] => rfl
  | z :: l => by rw [encL, List.length_append, encL_len l, wordL_len, List.length_cons]; omega
def enc (x : Item) : List Int := if x.kind = 0 then wordL x.n.toNat else if x.kind = 1 then wordL (hiN x.n) ++ wordL (loN x.n) else if x.kind = 2 then wordL x.s.size ++ sB x.s else wordL x.l.length ++ encL x.l
def fitI (x : Item) : Prop := (x.kind = 0 → fits x.n) ∧ (x.kind ≠ 0 → x.kind ≠ 1 → x.kind ≠ 2 → ∀ z ∈ x.l, fits z)
theorem pNum_nil {z : Int} {st : St} (h : (pNum z st).2 = .nil) : fits z ∧ st.2 = .nil ∧ (pNum z st).1 = st.1 ++ wordL z.toNat := by
  unfold pNum at h ⊢
  split
  · rw [if_pos ‹_›] at h; exact ⟨‹_›, h, rfl⟩
  · rw [if_neg ‹_›] at h; exact absurd h Err.first2_ne
theorem pNums_nil : ∀ {l : List Int} {st : St}, (pNums l st).2 = .nil → (∀ z ∈ l, fits z) ∧ st.2 = .nil ∧ (pNums l st).1 = st.1 ++ encL l
  | [], st, h => ⟨fun _ h => (by cases h), h, by simp [pNums, encL]⟩
  | z :: l, st, h => by
    rw [pNums] at h ⊢
    obtain ⟨h1, h2, h3⟩ := pNums_nil h
    obtain ⟨h4, h5, h6⟩ := pNum_nil h2
    refine ⟨fun y hy => ?_, h5, by rw [h3, h6, encL, List.append_assoc]⟩
    rcases List.mem_cons.1 hy with rfl | hy
    · exact h4
    · exact h1 y hy
theorem pItem_nil {x : Item} {st : St} (h : (pItem x st).2 = .nil) (hn : near x) : fitI x ∧ st.2 = .nil ∧ (pItem x st).1 = st.1 ++ enc x := by
  obtain ⟨n1, n2, _⟩ := hn
  unfold pItem at h ⊢
  unfold enc fitI
  by_cases e0 : x.kind = 0
  · rw [if_pos e0] at h ⊢
    obtain ⟨h1, h2, h3⟩ := pNum_nil h
    exact ⟨⟨fun _ => h1, fun h => absurd e0 h⟩, h2, by rw [if_pos e0]; exact h3⟩
  · rw [if_neg e0] at h ⊢
    by_cases e1 : x.kind = 1
    · rw [if_pos e1] at h ⊢
      exact ⟨⟨fun h => absurd h e0, fun _ h => absurd e1 h⟩, h, by rw [if_neg e0, if_pos e1, pLong, List.append_assoc]⟩
    · rw [if_neg e1] at h ⊢
      by_cases e2 : x.kind = 2
      · rw [if_pos e2] at h ⊢
        obtain ⟨h1, h2, h3⟩ := pNum_nil (z := x.s.size) (st := st) h
        refine ⟨⟨fun h => absurd h e0, fun _ _ h => absurd e2 h⟩, h2, ?_⟩
        rw [if_neg e0, if_neg e1, if_pos e2, pText, h3, Int.toNat_natCast, List.append_assoc]
      · rw [if_neg e2] at h ⊢
        rw [pList] at h ⊢
        obtain ⟨h1, h2, h3⟩ := pNums_nil h
        obtain ⟨h4, h5, h6⟩ := pNum_nil h2
        exact ⟨⟨fun h => absurd h e0, fun _ _ _ => h1⟩, h5, by rw [if_neg e0, if_neg e1, if_neg e2, h3, h6, Int.toNat_natCast, List.append_assoc]⟩
def encs : List Item → List Int
  | [] => []
  | x :: l => enc x ++ encs l
theorem encs_append : ∀ a b, encs (a ++ b) = encs a ++ encs b
  | [], b => rfl
  | x :: a, b => by rw [List.cons_append, encs, encs_append a b, encs, List.append_assoc]
theorem pItems_nil : ∀ {l : List Item} {st : St}, (pItems l st).2 = .nil → (∀ x ∈ l, near x) → (∀ x ∈ l, fitI x) ∧ st.2 = .nil ∧ (pItems l st).1 = st.1 ++ encs l
  | [], st, h, _ => ⟨fun _ h => (by cases h), h, by simp [pItems, encs]⟩
  | x :: l, st, h, hn => by
    rw [pItems] at h ⊢
    obtain ⟨h1, h2, h3⟩ := pItems_nil h (fun y hy => hn y (List.mem_cons_of_mem _ hy))
    obtain ⟨h4, h5, h6⟩ := pItem_nil h2 (hn x (List.mem_cons_self ..))
    refine ⟨fun y hy => ?_, h5, by rw [h3, h6, encs, List.append_assoc]⟩
    rcases List.mem_cons.1 hy with rfl | hy
    · exact h4
    · exact h1 y hy
theorem encs_drop {xs : List Item} {i : Nat} {x : Item} (h : xs[i]? = some x) : (encs xs).drop (encs (xs.take i)).length = enc x ++ encs (xs.drop (i + 1)) ∧ (encs (xs.take (i + 1))).length = (encs (xs.take i)).length + (enc x).length ∧ (encs (xs.take i)).length + (enc x).length ≤ (encs xs).length := by
  obtain ⟨hi, e⟩ := List.getElem?_eq_some_iff.1 h
  have d : xs = xs.take i ++ x :: xs.drop (i + 1) := by rw [← e, ← List.drop_eq_getElem_cons hi, List.take_append_drop]
  have e1 : encs xs = encs (xs.take i) ++ (enc x ++ encs (xs.drop (i + 1))) := by conv => lhs; rw [d, encs_append, encs]
  refine ⟨by rw [e1, List.drop_left], ?_, by rw [e1, List.length_append, List.length_append]; omega⟩
  rw [List.take_succ_eq_append_getElem hi, e, encs_append, List.length_append, encs, encs, List.append_nil]
theorem fits_cast {z : Int} (h : fits z) : ((z.toNat : Nat) : Int) = z ∧ z.toNat < 4294967296 := by obtain ⟨h1, h2⟩ := h; omega
theorem wordsL_enc : ∀ (k : Nat) (l : List Int) (r : List Int), k ≤ l.length → (∀ z ∈ l, fits z) → wordsL (encL l ++ r) k = l.take k
  | 0, l, r, _, _ => by simp [wordsL]
  | k + 1, l, r, hk, hf => by
    have hkl : k < l.length := by omega
    rw [wordsL, wordsL_enc k l r (by omega) hf, List.take_succ_eq_append_getElem hkl]
    congr 2
    have d : l = l.take k ++ l[k] :: l.drop (k + 1) := by rw [← List.drop_eq_getElem_cons hkl, List.take_append_drop]
    have eapp : ∀ a b : List Int, encL (a ++ b) = encL a ++ encL b := by
      intro a b
      induction a with
      | nil => rfl
      | cons z a ih => rw [List.cons_append, encL, ih, encL, List.append_assoc]
    have hz := fits_cast (hf _ (List.getElem_mem hkl))
    conv => lhs; rw [d, eapp, encL, List.append_assoc, List.append_assoc]
    rw [List.drop_left' (by rw [encL_len, List.length_take]; omega), wordN_of hz.2, hz.1]
theorem long_back (z : Int) (hz : -9223372036854775808 ≤ z ∧ z ≤ 9223372036854775807) (r : List Int) : longZ (wordL (hiN z) ++ wordL (loN z) ++ r) = z := by
  have h1 := hiN_lt z
  have h2 := loN_lt z
  rw [longZ, List.append_assoc, wordN_of h1, List.drop_left' (wordL_len _), wordN_of h2]
  have h3 : ((hiN z * 4294967296 + loN z : Nat) : Int) = z % 18446744073709551616 := by unfold hiN loN; omega
  rw [h3]
  by_cases h0 : 0 ≤ z
  · rw [show z % 18446744073709551616 = z by omega]
    exact IntWalk.wrap64_in _ (by omega)
  · rw [show z % 18446744073709551616 = z + 18446744073709551616 by omega]
    have := IntKind.wrap_i64 (z + 18446744073709551616)
    unfold wrap64
    omega

theorem Num_nil (z : Int) (w : World) : Calls Tryd.prog 35 #[.pointer none, .int .i64 z] w fun e w' => e = .returned (.tuple #[]) ∧ w = w' := by
  go_enter Tryd.func35, Tryd.ntmps35
  go_wp2_with fail
  refine bodyPost_ret (v := .tuple #[]) (by simp [results, Tryd.results35, go_sem]) rfl ⟨rfl, rfl⟩
theorem Long_nil (z : Int) (w : World) : Calls Tryd.prog 36 #[.pointer none, .int .i64 z] w fun e w' => e = .returned (.tuple #[]) ∧ w = w' := by
  go_enter Tryd.func36, Tryd.ntmps36
  go_wp2_with fail
  go_end0
  exact ⟨rfl, rfl⟩
theorem Text_nil (s : ByteArray) (w : World) : Calls Tryd.prog 37 #[.pointer none, .string s] w fun e w' => e = .returned (.tuple #[]) ∧ w = w' := by
  go_enter Tryd.func37, Tryd.ntmps37
  go_wp2_with fail
  go_end0
  exact ⟨rfl, rfl⟩
theorem List_nil (w : World) : Calls Tryd.prog 38 #[.pointer none, .slice none 0 0] w fun e w' => e = .returned (.tuple #[]) ∧ w = w' := by
  go_enter Tryd.func38, Tryd.ntmps38
  go_wp2_with fail
  refine (Num_nil 0 w).mono ?_
  rintro e w1 ⟨rfl, rfl⟩
  go_wp2_with fail
  go_loop [12] (fun iv => iv = .int .i64 0) (fun _ => 0)
  case atStart => rfl
  case round =>
    obtain rfl := hrel
    go_wp2_with fail
    go_end0
    exact ⟨rfl, rfl⟩
theorem Bytes_nil (w : World) : Calls Tryd.prog 26 #[.pointer none] w fun e w' => e = .returned (.slice none 0 0) ∧ w = w' := by
  go_enter Tryd.func26, Tryd.ntmps26
  go_wp2_with fail
  go_ret
  exact ⟨rfl, rfl⟩
theorem Err_nil (w : World) : Calls Tryd.prog 27 #[.pointer none] w fun e w' => ∃ v, e = .returned v ∧ (∃ t, (Err.flt 10 0 t).At w' v) ∧ Below w.heap.size w w' := by
  go_enter Tryd.func27, Tryd.ntmps27
  go_wp2_with fail
  refine (New_err 10 0 ⟨#[119, 114, 105, 116, 101, 114]⟩ w).mono ?_
  rintro e w1 ⟨v, rfl, hv, hb⟩
  go_wp2_with fail
  go_ret
  exact ⟨v, rfl, ⟨_, hv⟩, hb⟩
theorem RNum_nil (w : World) : Calls Tryd.prog 31 #[.pointer none] w fun e w' => e = .returned (.int .i64 0) ∧ w = w' := by
  go_enter Tryd.func31, Tryd.ntmps31
  go_wp2_with fail
  go_ret
  exact ⟨rfl, rfl⟩
theorem RLong_nil (w : World) : Calls Tryd.prog 32 #[.pointer none] w fun e w' => e = .returned (.int .i64 0) ∧ w = w' := by
  go_enter Tryd.func32, Tryd.ntmps32
  go_wp2_with fail
  go_ret
  exact ⟨rfl, rfl⟩
theorem RText_nil (w : World) : Calls Tryd.prog 39 #[.pointer none] w fun e w' => e = .returned (.string ⟨#[]⟩) ∧ w = w' := by
  go_enter Tryd.func39, Tryd.ntmps39
  go_wp2_with fail
  go_ret
  exact ⟨rfl, rfl⟩
theorem RList_nil (m : Int) (w : World) : Calls Tryd.prog 41 #[.pointer none, .int .i64 m] w fun e w' => e = .returned (.slice none 0 0) ∧ w = w' := by
  go_enter Tryd.func41, Tryd.ntmps41
  go_wp2_with fail
  go_ret
  exact ⟨rfl, rfl⟩
theorem RLeft_nil (w : World) : Calls Tryd.prog 30 #[.pointer none] w fun e w' => e = .returned (.int .i64 0) ∧ w = w' := by
  go_enter Tryd.func30, Tryd.ntmps30
  go_wp2_with fail
  go_ret
  exact ⟨rfl, rfl⟩
theorem REnd_nil (w : World) : Calls Tryd.prog 33 #[.pointer none] w fun e w' => ∃ v, e = .returned v ∧ (∃ t, (Err.flt 10 0 t).At w' v) ∧ Below w.heap.size w w' := by
  go_enter Tryd.func33, Tryd.ntmps33
  go_wp2_with fail
  refine (New_err 10 0 ⟨#[114, 101, 97, 100, 101, 114]⟩ w).mono ?_
  rintro e w1 ⟨v, rfl, hv, hb⟩
  go_wp2_with fail
  go_ret
  exact ⟨v, rfl, ⟨_, hv⟩, hb⟩
end Go.Proofs.YtclbbchljiagpaaDoor
