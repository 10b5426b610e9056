/-
  Patterns: the walk of Text.
-/
import Derived.Test.YtmonepclhbappaaDoorPatE
import Derived.Test.YtmonepclhbappaaDoorPatS
import Derived.Lib.AppendIntMem
import Derived.Lib.ItoaLen
namespace Go.Proofs.YtmonepclhbappaaDoor
open Go.RowKit
attribute [local go_sem ↓] Go.wp_at_zero Go.wp_at_succ
set_option maxRecDepth 100000
set_option linter.unusedVariables false

theorem elemStr : Elem Tryd.prog 94 9 (.string ⟨#[]⟩) 1 16 := ⟨Tryd.underlying94, by kernel_rfl, rfl, by decide⟩
/-- The table that Itoa reads. -/
def TabW (w : World) : Prop := Lib.TabIs Tryd.prog w "internal/strconv.uint64pow10" .u64 Lib.pow10Tab
theorem TabW.keep {w w' : World} (h : TabW w) (hb : Below w.heap.size w w') : TabW w' := Lib.tabBelow_of_tabIs h w' hb
def i64P (x : Int) : Prop := -9223372036854775808 ≤ x ∧ x ≤ 9223372036854775807
abbrev itoaB (x : Int) : ByteArray := ⟨(Lib.itoa x).toArray⟩
theorem Itoa_any (x : Int) (w : World) (hx : i64P x) (hT : TabW w) : Calls Tryd.prog 50 #[.int .i64 x] w fun e w' => e = .returned (.string (itoaB x)) ∧ Below w.heap.size w w' :=
  (strconv_Itoa x hx.1 hx.2 w hT).mono fun e w' ⟨h1, k, os, h2⟩ => ⟨h1, by rw [h2]; exact Lib.below_grow _ w (Nat.le_refl _) k os⟩
theorem itoaB_size (x : Int) (h : i64P x) : (itoaB x).size ≤ 21 := by
  show (Lib.itoa x).toArray.size ≤ 21
  rw [List.size_toArray]
  exact Lib.itoa_length_le x h.1 h.2
def edgeB (e : Int × Int) : ByteArray := itoaB e.1 ++ ⟨#[45]⟩ ++ itoaB e.2
def strs (l : List ByteArray) : List Value := l.map Value.string

theorem edgeB_size (e : Int × Int) (h1 : i64P e.1) (h2 : i64P e.2) : (edgeB e).size ≤ 100 := by
  have a := itoaB_size _ h1
  have b := itoaB_size _ h2
  have c : (⟨#[45]⟩ : ByteArray).size = 1 := rfl
  unfold edgeB
  rw [ByteArray.size_append, ByteArray.size_append]
  omega
def joinB (S : List ByteArray) : ByteArray := ⟨(Lib.join (S.map (·.data.toList)) [44]).toArray⟩
theorem tail_len : ∀ (r : List (List UInt8)), (∀ b ∈ r, b.length ≤ 100) → (Lib.joinTail [44] r).length ≤ r.length * 101
  | [], _ => Nat.le_refl _
  | x :: r, h => by
    have h1 := tail_len r (fun b hb => h b (List.mem_cons_of_mem _ hb))
    have h2 := h x (List.mem_cons_self ..)
    unfold Lib.joinTail at h1 ⊢
    rw [List.map_cons, List.flatten_cons, List.length_append, List.length_cons, List.length_append]
    simp only [List.length_cons, List.length_nil]
    omega
theorem join_len (r : List (List UInt8)) (h : ∀ b ∈ r, b.length ≤ 100) : (Lib.join r [44]).length ≤ r.length * 101 := by
  rcases r with _ | ⟨x, r⟩
  · exact Nat.le_refl _
  · have h1 := tail_len r (fun b hb => h b (List.mem_cons_of_mem _ hb))
    have h2 := h x (List.mem_cons_self ..)
    rw [Lib.join_cons, List.length_append, List.length_cons]
    omega
theorem dataLen (b : ByteArray) : b.data.toList.length = b.size := Array.length_toList
theorem joinB_len (S : List ByteArray) (h : ∀ b ∈ S, b.size ≤ 100) : (Lib.join (S.map (·.data.toList)) [44]).length ≤ S.length * 101 := by
  have := join_len (S.map (·.data.toList)) (fun b hb => by
    obtain ⟨x, hx, rfl⟩ := List.mem_map.1 hb
    show x.data.toList.length ≤ 100
    rw [dataLen]
    exact h x hx)
  rw [List.length_map] at this
  exact this
theorem joinB_size (S : List ByteArray) (h : ∀ b ∈ S, b.size ≤ 100) : (joinB S).size ≤ S.length * 101 := by
  show (Lib.join (S.map (·.data.toList)) [44]).toArray.size ≤ _
  rw [List.size_toArray]
  exact joinB_len S h
theorem Join_any (S : List ByteArray) (A : Option Addr) (n c : Nat) (w : World) (hl : S.length = n) (hn : n ≤ 1048576) (hnc : n ≤ c) (hs : Sl w 1 A n (strs S)) (hlt : ∀ x : Addr, A = some x → x.block < w.heap.size) (hsz : ∀ b ∈ S, b.size ≤ 100) :
    Calls Tryd.prog 51 #[.slice A n c, .string ⟨#[44]⟩] w fun e w' => e = .returned (.string (joinB S)) ∧ Below w.heap.size w w' := by
  rcases Nat.eq_zero_or_pos n with h0 | h0
  · subst h0
    obtain rfl := List.eq_nil_of_length_eq_zero hl
    exact (strings_Join_none A c ⟨#[44]⟩ w).mono fun e w' ⟨h1, h2⟩ => ⟨h1, by rw [h2]; exact Below.refl _ _⟩
  · obtain ⟨b, off, rfl, hc⟩ := hs.2 h0
    subst hl
    exact strings_Join b off c S ⟨#[44]⟩ w (fun j x hx => hc j _ (by unfold strs; rw [List.getElem?_map, hx]; rfl)) (hlt _ rfl) (by omega) hnc (by
      have := joinB_len S hsz
      show (Lib.join (S.map (·.data.toList)) [44]).length ≤ _
      omega)
/-- A pattern's text. -/
def textB (L : List Int) (E : List (Int × Int)) : ByteArray := joinB (L.map itoaB) ++ ⟨#[124]⟩ ++ joinB (E.map edgeB)

set_option maxHeartbeats 8000000 in
theorem Text_any (L : List Int) (E : List (Int × Int)) (A B : Option Addr) (n c m d : Nat) (w : World) (hl : L.length = n) (hn : n ≤ 1048576) (hm : m ≤ 1048576) (hs : Sl w 1 A n (L.map (Value.int .i64))) (ht : Sl w 2 B m (Rk.cells E))
    (hL : ∀ x ∈ L, i64P x) (hE : ∀ e ∈ E, i64P e.1 ∧ i64P e.2) (hT : TabW w) :
    Calls Tryd.prog 18 #[pv A n c B m d] w fun e w' => e = .returned (.string (textB L E)) ∧ Below w.heap.size w w' := by
  have hb0 := bel_al (Below.refl w.heap.size w) (.cells #[.slice A n c, .slice B m d] 29)
  have HB0 := Lib.hid hb0
  have HK := Lib.hid (Blk.new w 29 #[.slice A n c, .slice B m d])
  have HS := Lib.hid (hs.keep hb0)
  have HTt := Lib.hid (ht.keep hb0)
  have HTb := Lib.hid (hT.keep hb0)
  have HM := Lib.hid ht.len2
  have HL := Lib.hid hl
  have HiL := Lib.hid hL
  have HiE := Lib.hid hE
  clear hb0 hs ht hl hT hL hE
  go_enter Tryd.func18, Tryd.ntmps18
  go_wp2_with fail
  generalize hw0 : w.alloc (.cells #[.slice A n c, .slice B m d] 29) = w0 at *
  clear hw0
  go_loopw [3, 12] (fun l i wr => ∃ k : Nat, k ≤ n ∧ i = .int .i64 k ∧ wr.ownsRow w0.heap.size 9 1 l k (strs ((L.take k).map itoaB)) ∧ Below w0.heap.size w0 wr) (fun _ i _ => n - (intOf i).toNat)
  case atStart => exact ⟨0, Nat.zero_le _, rfl, by simpa [strs] using World.ownsRow_nil _ _ _ _, Below.refl _ _⟩
  case round =>
    obtain ⟨k, hk, rfl, hown, hb⟩ := hrel
    have HO := Lib.hid hown
    have HB := Lib.hid hb
    have HSk := Lib.hid (HS.out.keep hb)
    clear hown hb
    by_cases hlt : k < n
    · have hlt' : (k : Int) < (n : Int) := by omega
      obtain ⟨x, hx⟩ : ∃ x, L[k]? = some x := ⟨_, List.getElem?_eq_getElem (by rw [HL.out]; exact hlt)⟩
      obtain ⟨b1, off1, rfl, _⟩ := HSk.out.at_ (show 0 < n by omega)
      have c1 := HSk.out.again hlt (show (L.map (Value.int .i64))[k]? = some (.int .i64 x) by rw [List.getElem?_map, hx]; rfl)
      have HE := Lib.hid (show strs ((L.take (k + 1)).map itoaB) = strs ((L.take k).map itoaB) ++ [.string (itoaB x)] by
        obtain ⟨h1, h2⟩ := List.getElem?_eq_some_iff.1 hx
        rw [List.take_succ_eq_append_getElem h1, h2, strs, List.map_append, List.map_append]; rfl)
      have HI := Lib.hid (Itoa_any x wr (HiL.out x (List.mem_of_getElem? hx)) (HTb.out.keep HB.out))
      clear hx
      go_wp2_with (first
        | (go_at_call 50; refine HI.out.mono ?_; rintro e w2 ⟨rfl, hb2⟩; have HB2 := Lib.hid (HB.out.trans (hb2.mono HB.out.size)); have HO2 := Lib.hid (own_below HO.out (fun g hg => (HO.out.lt g hg).2) hb2); clear hb2)
        | (at_builtin; refine wpList_push elemStr _ _ rfl rfl HO2.out HB2.out (Nat.le_refl _) rfl rfl rfl (by simp [Value.oneCell']) (by unfold lim; omega) (by unfold lim; omega) ?_; intro v' w3 hown3 hb3))
      go_roundw
      case rel => exact ⟨k + 1, by omega, by go_num, by rw [HE.out]; exact hown3, hb3⟩
      case measure => simp [intOf]; omega
    · obtain rfl : k = n := by omega
      have hlt' : ¬ (k : Int) < (k : Int) := by omega
      rw [List.take_of_length_le (by rw [HL.out]; exact Nat.le_refl _)] at HO
      have k1 := (HK.out.keep HB.out).cell 1
      simp at k1
      go_wp2_with fail
      obtain ⟨A1, q1, rfl, _⟩ := Sl.own HO.out
      have HCap := Lib.hid (own_cap HO.out)
      have HLt := Lib.hid HO.out.lt
      have HTt1 := Lib.hid (HTt.out.keep HB.out)
      have HTb1 := Lib.hid (HTb.out.keep HB.out)
      clear HTt HTb HS HSk
      obtain ⟨wo, rfl⟩ : ∃ wo, wo = wr := ⟨_, rfl⟩
      go_loopw [4, 25] (fun l i wx => ∃ j : Nat, j ≤ m ∧ i = .int .i64 j ∧ wx.ownsRow wo.heap.size 9 1 l j (strs ((E.take j).map edgeB)) ∧ Below wo.heap.size wo wx) (fun _ i _ => m - (intOf i).toNat)
      case atStart => exact ⟨0, Nat.zero_le _, rfl, by simpa [strs] using World.ownsRow_nil _ _ _ _, Below.refl _ _⟩
      case round =>
        obtain ⟨j, hj, rfl, hown, hb⟩ := hrel
        have HO2 := Lib.hid hown
        have HB2 := Lib.hid hb
        have HTx := Lib.hid (HTt1.out.keep hb)
        clear hown hb
        by_cases hlt2 : j < m
        · have hlt2' : (j : Int) < (m : Int) := by omega
          obtain ⟨⟨x, y⟩, he⟩ : ∃ e, E[j]? = some e := ⟨_, List.getElem?_eq_getElem (by rw [HM.out]; exact hlt2)⟩
          obtain ⟨b2, off2, rfl, c0, c1⟩ := HTx.out.edge hlt2 he
          simp only at c0 c1
          have HE := Lib.hid (show strs ((E.take (j + 1)).map edgeB) = strs ((E.take j).map edgeB) ++ [.string (edgeB (x, y))] by
            obtain ⟨h1, h2⟩ := List.getElem?_eq_some_iff.1 he
            rw [List.take_succ_eq_append_getElem h1, h2, strs, List.map_append, List.map_append]; rfl)
          have hxy := HiE.out _ (List.mem_of_getElem? he)
          have HIx := Lib.hid (fun W (hW : Below wr.heap.size wr W) => Itoa_any x W hxy.1 ((HTb1.out.keep HB2.out).keep hW))
          have HIy := Lib.hid (fun W (hW : Below wr.heap.size wr W) => Itoa_any y W hxy.2 ((HTb1.out.keep HB2.out).keep hW))
          have hz1 := itoaB_size x hxy.1
          have hz2 := itoaB_size y hxy.2
          have hz3 : (⟨#[45]⟩ : ByteArray).size = 1 := rfl
          have hadd1 : ∀ W, (Op.stringOp .add (itoaB x) ⟨#[45]⟩).run Tryd.prog W = .ok (.string (itoaB x ++ ⟨#[45]⟩)) W := fun W => run_string_add_sum W _ _ (by omega)
          have hadd2 : ∀ W, (Op.stringOp .add (itoaB x ++ ⟨#[45]⟩) (itoaB y)).run Tryd.prog W = .ok (.string (itoaB x ++ ⟨#[45]⟩ ++ itoaB y)) W := fun W => run_string_add_sum W _ _ (by rw [ByteArray.size_append]; omega)
          clear hz1 hz2 hz3
          have HBc := Lib.hid (bel_drewN (bel_al (Below.refl wr.heap.size wr) (.cells #[.int .i64 x, .int .i64 y] 84)) 1)
          have HKe := Lib.hid (Blk.new wr 84 #[.int .i64 x, .int .i64 y]).drew
          clear he hxy
          go_wp2_with fail
          go_region_held3 (fun w' => w'.cell? ⟨wr.heap.size, 0, none⟩ = some (.int .i64 x) ∧ w'.cell? ⟨wr.heap.size, 1, none⟩ = some (.int .i64 y)) (go_keep)
            (first
              | (go_at_call_of 50 (Value.int .i64 x); refine (HIx.out _ HBc.out).mono ?_; rintro e w2 ⟨rfl, hb2⟩; replace HKe := Lib.hid (HKe.out.keep hb2); have k0 := HKe.out.cell 0; have k1 := HKe.out.cell 1; replace HBc := Lib.hid (HBc.out.andThen hb2); simp at k0 k1; clear hb2)
              | (go_at_call_of 50 (Value.int .i64 y); refine (HIy.out _ HBc.out).mono ?_; rintro e w3 ⟨rfl, hb3⟩; replace HKe := Lib.hid (HKe.out.keep hb3); have k0 := HKe.out.cell 0; have k1 := HKe.out.cell 1; replace HBc := Lib.hid (HBc.out.andThen hb3); simp at k0 k1; clear hb3)
              | (refine step_cat_at elemStr (.tmp 29) (.tmp 38) (by rfl) (by rfl) ((own_below HO2.out (fun g hg => (HO2.out.lt g hg).2) HBc.out).alloc _) (by have := HBc.out.size; have := HB2.out.size; simp; omega) (Sl.newAt _ [_] _ 1 rfl) (by rfl) (by rfl) (by simp [Value.oneCell']) (by unfold lim; omega) (by unfold lim; omega) ?_; intro v6 w6 hown6 hgr; have k6 := hgr.blkOwn (HKe.out.alloc _) ((own_below HO2.out (fun g hg => (HO2.out.lt g hg).2) HBc.out).alloc _) (by decide); have k60 := k6.cell 0; have k61 := k6.cell 1; simp at k60 k61; clear k6))
          all_goals (
            go_wp2_with fail
            go_roundw
            case rel => exact ⟨j + 1, by omega, by go_num, by rw [HE.out]; exact hown6, (HB2.out.trans (HBc.out.mono HB2.out.size)).trans (hgr.after_alloc.belowOwn (Nat.le_trans HB2.out.size HBc.out.size) (own_below HO2.out (fun g hg => (HO2.out.lt g hg).2) HBc.out))⟩
            case measure => simp [intOf]; omega)
        · obtain rfl : j = m := by omega
          have hlt2' : ¬ (j : Int) < (j : Int) := by omega
          rw [List.take_of_length_le (by rw [HM.out]; exact Nat.le_refl _)] at HO2
          obtain ⟨A2, q2, rfl, hsl2⟩ := Sl.own HO2.out
          have HCap2 := Lib.hid (own_cap HO2.out)
          have hz1 := joinB_size (L.map itoaB) (fun b hb => by
            obtain ⟨x, hx, rfl⟩ := List.mem_map.1 hb
            have := itoaB_size x (HiL.out x hx)
            omega)
          have hz2 := joinB_size (E.map edgeB) (fun b hb => by
            obtain ⟨x, hx, rfl⟩ := List.mem_map.1 hb
            exact edgeB_size x (HiE.out x hx).1 (HiE.out x hx).2)
          rw [List.length_map, HL.out] at hz1
          rw [List.length_map, HM.out] at hz2
          have hz3 : (⟨#[124]⟩ : ByteArray).size = 1 := rfl
          have hadd1 : ∀ W, (Op.stringOp .add (joinB (L.map itoaB)) ⟨#[124]⟩).run Tryd.prog W = .ok (.string (joinB (L.map itoaB) ++ ⟨#[124]⟩)) W := fun W => run_string_add_sum W _ _ (by omega)
          have hadd2 : ∀ W, (Op.stringOp .add (joinB (L.map itoaB) ++ ⟨#[124]⟩) (joinB (E.map edgeB))).run Tryd.prog W = .ok (.string (textB L E)) W := fun W => run_string_add_sum W _ _ (by rw [ByteArray.size_append]; omega)
          have HJ1 := Lib.hid (Join_any (L.map itoaB) A1 k q1 wr (by rw [List.length_map, HL.out]) hn HCap.out.1 ((Sl.of_own HO.out).keep HB2.out) (fun x hx => by have := (HLt.out x.block (by rw [hx]; rfl)).2; have := HB2.out.size; omega) (fun b hb => by
            obtain ⟨x, hx, rfl⟩ := List.mem_map.1 hb
            have := itoaB_size x (HiL.out x hx)
            omega))
          have HJ2 := Lib.hid (fun W (hW : Below wr.heap.size wr W) => Join_any (E.map edgeB) A2 j q2 W (by rw [List.length_map, HM.out]) hm HCap2.out.1 (hsl2.keep hW) (fun x hx => by have := (HO2.out.lt x.block (by rw [hx]; rfl)).2; have := hW.size; omega) (fun b hb => by
            obtain ⟨x, hx, rfl⟩ := List.mem_map.1 hb
            exact edgeB_size x (HiE.out x hx).1 (HiE.out x hx).2))
          have HBw := Lib.hid (HB0.out.andThen (HB.out.andThen HB2.out))
          clear hz1 hz2 hz3 hsl2
          go_wp2_with (first
            | (go_at_call_of 51 (Value.slice A1 k q1); refine HJ1.out.mono ?_; rintro e w2 ⟨rfl, hb2⟩; have HBj := Lib.hid hb2; clear hb2)
            | (go_at_call_of 51 (Value.slice A2 j q2); refine (HJ2.out _ HBj.out).mono ?_; rintro e w3 ⟨rfl, hb3⟩; have HBk := Lib.hid hb3; clear hb3))
          go_ret
          exact ⟨rfl, HBw.out.andThen (HBj.out.andThen HBk.out)⟩
end Go.Proofs.YtmonepclhbappaaDoor
