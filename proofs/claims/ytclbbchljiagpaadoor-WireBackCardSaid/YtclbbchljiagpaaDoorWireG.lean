/-
  Contracts of wire.Writer: Long, Text, List, Bytes, Err; bytes.Clone.
-/
import Derived.Test.YtclbbchljiagpaaDoorWireF
import Derived.WalkSpells
namespace Go.Proofs.YtclbbchljiagpaaDoor
open Go.RowKit
set_option maxRecDepth 100000
set_option linter.unusedVariables false

/-- A text's bytes. -/
def sB (s : ByteArray) : List Int := s.data.toList.map fun b : UInt8 => (b.toNat : Int)
theorem sB_len (s : ByteArray) : (sB s).length = s.size := by rw [sB, List.length_map, Array.length_toList]; rfl
theorem sB_cells (s : ByteArray) : Lib.strCells s = (sB s).map (Value.int .u8) := by rw [sB, List.map_map]; rfl
theorem sB_bys (s : ByteArray) : Bys (sB s) := by
  intro x hx
  obtain ⟨b, _, rfl⟩ := List.mem_map.1 hx
  have := b.toNat_lt
  omega
def hiN (z : Int) : Nat := (z % 18446744073709551616 / 4294967296).toNat
def loN (z : Int) : Nat := (z % 4294967296).toNat
theorem hiN_lt (z : Int) : hiN z < 4294967296 := by unfold hiN; omega
theorem loN_lt (z : Int) : loN z < 4294967296 := by unfold loN; omega
def pLong (z : Int) (st : St) : St := (st.1 ++ wordL (hiN z) ++ wordL (loN z), st.2)
def pText (s : ByteArray) (st : St) : St := ((pNum s.size st).1 ++ sB s, (pNum s.size st).2)
def pNums : List Int → St → St
  | [], st => st
  | z :: l, st => pNums l (pNum z st)
def pList (l : List Int) (st : St) : St := pNums l (pNum l.length st)
theorem pNums_snoc : ∀ (l : List Int) (z : Int) (st : St), pNums (l ++ [z]) st = pNum z (pNums l st)
  | [], _, _ => rfl
  | x :: l, z, st => by rw [List.cons_append, pNums, pNums_snoc l, pNums]
theorem pNums_len : ∀ (l : List Int) (st : St), (pNums l st).1.length = st.1.length + 4 * l.length
  | [], st => by simp [pNums]
  | x :: l, st => by rw [pNums, pNums_len l, pNum_len, List.length_cons]; omega

section
variable {P : Program} {ops : Array Oper} {rest : List Oper} {o : Oper} {a : Act} {Q : Exit → Act → World → Prop}
/-- append(b, s...) of a string. -/
theorem wpList_str_lies {t u e : TypeId} (E : Elem P t e (.int .u8 0) 1 1) (hu : P.underlying u = some .string) {B : Nat} {W : World} (y x : Operand)
    (hgd : o.guard = none) (ho : o.op = .call { callee := .builtin .append, args := #[y, x], argTypes := #[t, u] })
    {v : Value} {n : Nat} {l : List Int} (hown : W.ownsRow B e 1 v n (l.map (Value.int .u8))) (hB : B ≤ W.heap.size) {s : ByteArray} (h0 : 0 < n + s.size)
    (hs : a.eval y = v) (hx : a.eval x = .string s) (hlim : n + s.size ≤ lim)
    (h : ∀ g cap w', w'.ownsRow B e 1 (.slice (some ⟨g, 0, none⟩) (n + s.size) cap) (n + s.size) ((l ++ sB s).map (Value.int .u8)) → W.grownBy w' v.ownBlock → wpList P ops Q rest (a.put o.dst (.slice (some ⟨g, 0, none⟩) (n + s.size) cap)) w') : wpList P ops Q (o :: rest) a W := by
  obtain ⟨i, hi, hz, hsize, hby⟩ := info_parts E.hi
  unfold lim at hlim
  refine Lib.wpList_append_own_string W hgd y x t u ho B e i E.ht hu hi hz hsize hby v n _ hs hown s hx (by unfold maxLen; omega) hlim hB ?_
  intro v' w' h2 h3 _
  rw [sB_cells, ← List.map_append] at h2
  rcases h2.2 with ⟨_, h4⟩ | ⟨g, cap, cur, rfl, _⟩
  · omega
  · exact h g cap w' h2 h3
end

set_option maxHeartbeats 2000000 in
theorem Long_any (z : Int) (hz : -9223372036854775808 ≤ z ∧ z ≤ 9223372036854775807) (g B : Nat) (st : St) (w : World) (hW : Wr w B g st.1 st.2) (hl : st.1.length ≤ 1099511627) :
    Calls Tryd.prog 36 #[.pointer (some ⟨g, 0, none⟩), .int .i64 z] w fun e w' => e = .returned (.tuple #[]) ∧ Wr w' B g (pLong z st).1 (pLong z st).2 ∧ Below B w w' := by
  obtain ⟨bs, E⟩ := st
  obtain ⟨hBg, hE, bv, ev, hb, hown, he⟩ := hW
  simp only at hl hown hE he
  have hBw : B ≤ w.heap.size := Nat.le_trans hBg (Nat.le_of_lt hb.lt)
  have hc0 := hb.cell 0
  simp at hc0
  have HW := Lib.hid (word_own (hiN z) (hiN_lt z) bs bv bs.length B w rfl hown hBw (by omega))
  have HBk := Lib.hid hb
  have HO := Lib.hid hown
  have HE := Lib.hid he
  clear hb hown he
  have hh : z % 18446744073709551616 / 4294967296 = (hiN z : Int) := by unfold hiN; omega
  have hu : IntKind.u64.wrap z = z % 18446744073709551616 := IntKind.wrap_u64 z
  have hlo : z % 4294967296 = (loN z : Int) := by unfold loN; omega
  go_enter Tryd.func36, Tryd.ntmps36
  go_wp2_with fail
  refine HW.out.mono ?_
  rintro e w1 ⟨v1, rfl, hown1, hgr⟩
  have HW2 := Lib.hid (word_own (loN z) (loN_lt z) (bs ++ wordL (hiN z)) v1 (bs.length + 4) B w1 (by rw [List.length_append, wordL_len]) hown1 (Nat.le_trans hBw hgr.size) (by omega))
  have HGR := Lib.hid hgr
  clear hown1 hgr HW
  go_wp2_with fail
  refine HW2.out.mono ?_
  rintro e w2 ⟨v', rfl, hown2, hgr2⟩
  obtain ⟨g1, c1, rfl, _⟩ := own_form hown2 (by omega)
  have hgr := HGR.out.trans hgr2
  have hb1 := hgr.blkOwn HBk.out HO.out (by decide)
  have hcell := hb1.cell 0
  simp at hcell
  have hfr := hb1.frozen 0
  have HT := Lib.hid (Wr.turn (bs' := bs ++ wordL (hiN z) ++ wordL (loN z)) hBg hE HBk.out HO.out HE.out hgr.g (by rw [List.length_append, List.length_append, wordL_len, wordL_len]; exact hown2))
  have HB1 := Lib.hid (hgr.belowOwn hBw HO.out)
  clear hown2 hgr hgr2 hb1 HW2 HGR
  go_wp2_with fail
  go_end0
  exact ⟨rfl, HT.out, HB1.out.setCell (p := ⟨g, 0, none⟩) hBg _⟩

set_option maxHeartbeats 2000000 in
theorem Text_any (s : ByteArray) (hs : s.size ≤ 1099511627) (g B : Nat) (st : St) (w : World) (hW : Wr w B g st.1 st.2) (hl : st.1.length ≤ 1099511627) :
    Calls Tryd.prog 37 #[.pointer (some ⟨g, 0, none⟩), .string s] w fun e w' => e = .returned (.tuple #[]) ∧ Wr w' B g (pText s st).1 (pText s st).2 ∧ Below B w w' := by
  have HN := Lib.hid (Num_any s.size (by omega) g B st w hW (by omega))
  have hBg := hW.1
  clear hW
  go_enter Tryd.func37, Tryd.ntmps37
  go_wp2_with fail
  refine HN.out.mono ?_
  rintro e w1 ⟨rfl, ⟨_, hE, bv, ev, hb, hown, he⟩, hb1⟩
  have hln := pNum_len s.size st
  have hBw : B ≤ w1.heap.size := Nat.le_trans hBg (Nat.le_of_lt hb.lt)
  have hc0 := hb.cell 0
  simp at hc0
  have HBk := Lib.hid hb
  have HO := Lib.hid hown
  have HE := Lib.hid he
  have HB1 := Lib.hid hb1
  have HLN := Lib.hid hln
  clear hb hown he hb1 hln HN
  generalize hps : pNum s.size st = st1 at *
  go_wp2_with (at_builtin; refine wpList_str_lies elemByte Tryd.underlying9 _ _ rfl rfl HO.out hBw (s := s) (by have := HLN.out; omega) rfl rfl (by have := HLN.out; unfold lim; omega) ?_; intro g2 c2 w2 hown2 hgr2; have hb2 := HBk.out.others HO.out hgr2 (by decide); have hc2 := hb2.cell 0; simp at hc2; have hf2 := hb2.frozen 0; have HT := Lib.hid (Wr.turn (bs' := st1.1 ++ sB s) hBg hE HBk.out HO.out HE.out hgr2 (by rw [List.length_append, sB_len]; exact hown2)); have HB2 := Lib.hid (HB1.out.grown hgr2 hBw (fun k hk => (HO.out.lt k hk).1)); clear hown2 hgr2 hb2)
  go_end0
  exact ⟨rfl, by rw [pText, hps]; exact HT.out, HB2.out.setCell (p := ⟨g, 0, none⟩) hBg _⟩

set_option maxHeartbeats 2000000 in
theorem List_any (l : List Int) (hr : ∀ x ∈ l, -9223372036854775808 ≤ x ∧ x ≤ 9223372036854775807) (A : Option Addr) (n c : Nat) (hn : n ≤ 268435456) (hln : l.length = n) (g B : Nat) (st : St) (w : World)
    (hsB : ∀ w', Below B w w' → Sl w' 1 A n (l.map (Value.int .i64))) (hW : Wr w B g st.1 st.2) (hl : st.1.length ≤ 1099511627) :
    Calls Tryd.prog 38 #[.pointer (some ⟨g, 0, none⟩), .slice A n c] w fun e w' => e = .returned (.tuple #[]) ∧ Wr w' B g (pList l st).1 (pList l st).2 ∧ Below B w w' := by
  have HN := Lib.hid (Num_any n (by omega) g B st w hW (by omega))
  have HSB := Lib.hid hsB
  have HR := Lib.hid hr
  clear hW hsB hr
  go_enter Tryd.func38, Tryd.ntmps38
  go_wp2_with fail
  refine HN.out.mono ?_
  rintro e w1 ⟨rfl, hW1, hb1⟩
  have HW1 := Lib.hid hW1
  have HB1 := Lib.hid hb1
  have hpl := pNum_len n st
  have HPL := Lib.hid hpl
  clear hW1 hb1 HN hpl
  generalize hst : pNum n st = st1 at *
  go_wp2_with fail
  go_loopw [12] (fun iv wr => ∃ i : Nat, i ≤ n ∧ iv = .int .i64 i ∧ Wr wr B g (pNums (l.take i) st1).1 (pNums (l.take i) st1).2 ∧ Below B w wr) (fun iv _ => n - (intOf iv).toNat)
  case atStart => exact ⟨0, Nat.zero_le _, rfl, HW1.out, HB1.out⟩
  case round =>
    obtain ⟨i, hi, rfl, hWr, hb⟩ := hrel
    by_cases hlt : i < n
    · have hj : i < l.length := by omega
      obtain ⟨b, off, u, rfl, e1, c1⟩ := (HSB.out wr hb).one hlt
      rw [List.getElem?_map, List.getElem?_eq_getElem hj] at e1
      obtain rfl := Option.some.inj e1
      have HT := Lib.hid (List.take_succ_eq_append_getElem hj)
      have hz := HR.out _ (List.getElem_mem hj)
      have hlen := pNums_len (l.take i) st1
      rw [List.length_take, Nat.min_eq_left (by omega)] at hlen
      generalize l[i] = z at *
      have HZ := Lib.hid (Num_any z hz g B (pNums (l.take i) st1) wr hWr (by have := HPL.out; omega))
      have HBw := Lib.hid hb
      clear e1 hWr hb hlen
      go_wp2_with fail
      refine HZ.out.mono ?_
      rintro e w2 ⟨rfl, hW2, hb2⟩
      have HW2 := Lib.hid hW2
      have HB2 := Lib.hid (HBw.out.trans hb2)
      clear hW2 hb2 HZ
      go_wp2_with fail
      go_roundw
      case rel => exact ⟨i + 1, by omega, by go_num, by rw [HT.out, pNums_snoc]; exact HW2.out, HB2.out⟩
      case measure => simp [intOf]; omega
    · obtain rfl : i = n := by omega
      rw [List.take_of_length_le (by omega)] at hWr
      have HWr := Lib.hid hWr
      clear hWr
      go_wp2_with fail
      go_end0
      exact ⟨rfl, by rw [pList, hln, hst]; exact HWr.out, hb⟩

set_option maxHeartbeats 2000000 in
theorem Clone_any (l : List Int) (A : Option Addr) (n c : Nat) (w : World) (hl : l.length = n) (hn : n ≤ 1099511627776) (hs : Sl w 1 A n (l.map (Value.int .u8))) :
    Calls Tryd.prog 69 #[.slice A n c] w fun e w' => ∃ C k, e = .returned (.slice C n k) ∧ Sl w' 1 C n (l.map (Value.int .u8)) ∧ (n ≤ k ∧ k ≤ 9223372036854775807) ∧ Below w.heap.size w w' := by
  have nn := fun (w : World) (a : Option Addr) (n c : Nat) => Lib.run_eql_slice_nil (P := Tryd.prog) w 22 5 a n c 0 0 Tryd.underlying22
  have HS := Lib.hid hs
  go_enter Tryd.func69, Tryd.ntmps69
  rcases A with _ | A
  · have hn0 : n = 0 := by
      rcases Nat.eq_zero_or_pos n with h | h
      · exact h
      · obtain ⟨_, _, h, _⟩ := hs.2 h; cases h
    subst hn0
    clear hs
    go_wp2_with fail
    go_ret
    exact ⟨none, 0, rfl, HS.out, by omega, Below.refl _ _⟩
  · have hbA := bel_al (Below.refl w.heap.size w) (.cells #[] 5)
    have HOE := Lib.hid (World.ownsRow_made (e := 5) (size := 1) w #[] 0 (Nat.le_refl _) (Nat.zero_le _) rfl)
    have HBA := Lib.hid hbA
    have SPA := Lib.hid (HS.out.keep hbA)
    clear hs hbA
    go_wp2_with (at_builtin; refine wpList_cat_at elemByte _ _ rfl rfl HOE.out HBA.out.size SPA.out rfl rfl (one_u8 _) (by unfold lim; omega) (by unfold lim; omega) ?_; intro v8 w8 hown8 hg8; have HO8 := Lib.hid hown8; have HB8 := Lib.hid (HBA.out.trans (hg8.belowOwn HBA.out.size HOE.out)); clear hown8 hg8 HOE HBA SPA)
    go_ret
    have hown := HO8.out
    rw [List.nil_append, Nat.zero_add] at hown
    obtain ⟨C, k, rfl, hsl⟩ := Sl.own hown
    exact ⟨C, k, rfl, hsl, own_cap hown, HB8.out⟩

theorem Bytes_any (g B : Nat) (st : St) (w : World) (hW : Wr w B g st.1 st.2) (hl : st.1.length ≤ 1099511627776) :
    Calls Tryd.prog 26 #[.pointer (some ⟨g, 0, none⟩)] w fun e w' => ∃ C k, e = .returned (.slice C st.1.length k) ∧ Sl w' 1 C st.1.length (st.1.map (Value.int .u8)) ∧ (st.1.length ≤ k ∧ k ≤ 9223372036854775807) ∧ Below w.heap.size w w' := by
  obtain ⟨hBg, hE, bv, ev, hb, hown, he⟩ := hW
  have hc0 := hb.cell 0
  simp at hc0
  obtain ⟨A0, n0, rfl, hsl0⟩ := Sl.own hown
  have HC := Lib.hid (Clone_any st.1 A0 st.1.length n0 w rfl hl hsl0)
  clear hb hown he hsl0
  go_enter Tryd.func26, Tryd.ntmps26
  go_wp2_with fail
  refine HC.out.mono ?_
  rintro e w1 ⟨C, k, rfl, hs1, hk1, hb1⟩
  have HS1 := Lib.hid hs1
  clear hs1 HC
  go_wp2_with fail
  go_ret
  exact ⟨_, _, rfl, HS1.out, hk1, hb1⟩

theorem Err_any (g B : Nat) (st : St) (w : World) (hW : Wr w B g st.1 st.2) :
    Calls Tryd.prog 27 #[.pointer (some ⟨g, 0, none⟩)] w fun e w' => ∃ v, e = .returned v ∧ st.2.At w v ∧ w = w' := by
  obtain ⟨hBg, hE, bv, ev, hb, hown, he⟩ := hW
  have hc1 := hb.cell 1
  simp at hc1
  have HE := Lib.hid he
  clear hb hown he
  go_enter Tryd.func27, Tryd.ntmps27
  go_wp2_with fail
  go_ret
  exact ⟨_, rfl, HE.out, rfl⟩
end Go.Proofs.YtclbbchljiagpaaDoor
