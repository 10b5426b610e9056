/-
  Part 6 of the proof of LoadBytes: WireD, First, WireE, WireJ, PermA, PermB.
-/
import Derived.Test.YtbbmgcdocolakaaGreatDoorLoadBytesM5
import Derived.Test.YtbbmgcdocolakaaGreatDoorLoadBytesM4
import Derived.Lib.AppendStr
import Derived.Deep.RegionWith
import Derived.WalkSpells
import Derived.Test.YtbbmgcdocolakaaGreatDoorLoadBytesM1
import Derived.Test.YtbbmgcdocolakaaGreatDoorLoadBytesM2
import Derived.Deep.DeepCutAuto
import Derived.BigQuiet
import Derived.Deep.QuietTactic
set_option linter.unusedVariables false
/-
  The document's Parcel; chapter 03's alive.
-/
namespace Go.Proofs.YtbbmgcdocolakaaGreatDoor
open Go.RowKit
set_option maxRecDepth 100000

theorem unK_pack (kd : Int) (l : List Int) (h : l.length < 4294967296) : unK (packL kd l) = kd := by
  rw [unK, if_pos (unW_pack kd l h), List.getD_eq_getElem?_getD, (packL_parts kd l).2.2.2.2.1]; rfl
theorem unB_pack (kd : Int) (l : List Int) (h : l.length < 4294967296) : unB (packL kd l) = l := by
  rw [unB, if_pos (unW_pack kd l h), (packL_parts kd l).2.1, wordN_of h, (packL_parts kd l).2.2.2.2.2]
theorem unE_pack (kd : Int) (l : List Int) (h : l.length < 4294967296) : unE (packL kd l) = .nil := by rw [unE, unW_pack kd l h]; rfl
theorem unE_nil {l : List Int} (h : unE l = .nil) : unW l = 0 := by
  unfold unE at h
  split at h
  · assumption
  all_goals cases h
theorem unE_bad {l : List Int} (h : unW l ≠ 0) : unE l ≠ .nil := fun e => h (unE_nil e)

set_option maxHeartbeats 2000000 in
theorem Parcel_any (kd : Int) (l : List Int) (A : Option Addr) (n c : Nat) (w : World) (hk : 0 ≤ kd ∧ kd ≤ 255) (hl : l.length = n) (hn : n ≤ 4000000000) (hb : Bys l) (hs : Sl w 1 A n (l.map (Value.int .u8))) :
    Calls Tryz.prog 22 #[.int .u8 kd, .slice A n c] w fun e w' => ∃ C k, e = .returned (.slice C (n + 13) k) ∧ Sl w' 1 C (n + 13) ((packL kd l).map (Value.int .u8)) ∧ Below w.heap.size w w' := by
  have kc := fun (w : World) (C : Array Value) (n c : Nat) => Lib.run_convert_bytes_const (P := Tryz.prog) w 42 5 C n c Tryz.underlying42 Tryz.underlying5
  have HS := Lib.hid hs
  have HB := Lib.hid hb
  clear hs hb
  go_enter Tryz.func22, Tryz.ntmps22
  have h1 := (Sl.newMark w [.int .u8 70, .int .u8 87, .int .u8 82, .int .u8 75] 5 (4, 5) 4 rfl).alloc (.cells #[.int .u8 kd] 5)
  have h2 := Sl.newAt (w.alloc (.cells #[.int .u8 70, .int .u8 87, .int .u8 82, .int .u8 75] 5 (4, 5))) [.int .u8 kd] 5 1 rfl
  rw [World.size_alloc] at h2
  have H1 := Lib.hid h1
  have H2 := Lib.hid h2
  have hb1 := bel_al (bel_al (Below.refl w.heap.size w) (.cells #[.int .u8 70, .int .u8 87, .int .u8 82, .int .u8 75] 5 (4, 5))) (.cells #[.int .u8 kd] 5)
  have HB1 := Lib.hid hb1
  clear h1 h2 hb1
  go_wp2_with (at_builtin; refine wpList_full elemByte _ _ rfl rfl H1.out (by omega) H2.out (by omega) rfl rfl (by simp [Value.oneCell']) (by unfold lim; omega) (by unfold lim; omega) ?_; intro v' w5 hown1 hb5)
  have HB5 := Lib.hid (HB1.out.andThen hb5)
  have HO1 := Lib.hid (own_mono hown1 (show w.heap.size ≤ _ by simp; omega))
  clear hown1 hb5 H1 H2 HB1
  refine (RefWord_any n (by omega) w5).mono ?_
  rintro e w6 ⟨A6, c6, rfl, hs6, hb6⟩
  have HB6 := Lib.hid (HB5.out.andThen hb6)
  have HO6 := Lib.hid (own_below HO1.out (fun g hg => (HO1.out.lt g hg).2) hb6)
  have HW6 := Lib.hid hs6
  clear hs6 hb6 HB5 HO1
  go_wp2_with (first
    | (at_builtin; refine wpList_cat_at elemByte _ _ rfl rfl HO6.out HB6.out.size HW6.out rfl rfl (one_u8 _) (by unfold lim; omega) (by unfold lim; omega) ?_; intro v7 w7 hown7 hg7; have HB7 := Lib.hid (HB6.out.trans (hg7.belowOwn HB6.out.size HO6.out)); have HO7 := Lib.hid hown7; have HS7 := Lib.hid (HS.out.keep HB7.out); clear hown7 hg7 HO6 HB6 HW6 HS)
    | (at_builtin; refine wpList_cat_at elemByte _ _ rfl rfl HO7.out HB7.out.size HS7.out rfl rfl (one_u8 _) (by unfold lim; omega) (by unfold lim; omega) ?_; intro v8 w8 hown8 hg8; have HB8 := Lib.hid (HB7.out.trans (hg8.belowOwn HB7.out.size HO7.out)); have HO8 := Lib.hid hown8; clear hown8 hg8 HO7 HB7 HS7))
  obtain ⟨g8, c8, rfl, _⟩ := own_form HO8.out (by omega)
  have hpre : [Value.int .u8 70, .int .u8 87, .int .u8 82, .int .u8 75] ++ [Value.int .u8 kd] ++ (wordL n).map (Value.int .u8) ++ l.map (Value.int .u8) = (preL kd l).map (Value.int .u8) := by
    rw [preL, hl]; simp [fwrk]
  rw [hpre] at HO8
  have hpl : (preL kd l).length = 4 + 1 + 4 + n := by rw [preL_len, hl]; omega
  have HP := Lib.hid (RefSum_any (preL kd l) _ _ c8 w8 hpl (by omega) (preL_bys hk HB.out) (Sl.of_own HO8.out))
  clear hpre
  refine HP.out.mono ?_
  rintro e w9 ⟨rfl, rfl⟩
  clear HP
  have hsl := sumL_lt (preL kd l)
  go_wp2_with fail
  refine (RefWord_any (sumL (preL kd l)) hsl w8).mono ?_
  rintro e w9 ⟨A9, c9, rfl, hs9, hb9⟩
  have HB9 := Lib.hid (HB8.out.andThen hb9)
  have HO9 := Lib.hid (own_below HO8.out (fun g hg => (HO8.out.lt g hg).2) hb9)
  have HW9 := Lib.hid hs9
  clear hs9 hb9 HB8 HO8
  go_wp2_with (at_builtin; refine wpList_cat_at elemByte _ _ rfl rfl HO9.out HB9.out.size HW9.out rfl rfl (one_u8 _) (by unfold lim; omega) (by unfold lim; omega) ?_; intro v10 w10 hown10 hg10)
  have hb10 := HB9.out.trans (hg10.belowOwn HB9.out.size HO9.out)
  rw [← List.map_append, show 4 + 1 + 4 + n + 4 = n + 13 by omega] at hown10
  obtain ⟨C, k, rfl, hsl10⟩ := Sl.own hown10
  have HX := Lib.hid hsl10
  clear hsl10 hown10 hg10
  go_wp2_with fail
  go_ret
  exact ⟨_, _, rfl, HX.out, hb10⟩

theorem Unpack_pack (kd : Int) (l : List Int) (A : Option Addr) (n c : Nat) (w : World) (hk : 0 ≤ kd ∧ kd ≤ 255) (hnc : n + 13 ≤ c) (hc9 : c ≤ 9223372036854775807) (hn : n ≤ 4000000000) (hl : l.length = n) (hb : Bys l) (hs : Sl w 1 A (n + 13) ((packL kd l).map (Value.int .u8))) :
    Calls Tryz.prog 69 #[.slice A (n + 13) c] w fun e w' => ∃ D k, e = .returned (.tuple #[.int .u8 kd, .slice D n k, .nilIface]) ∧ Sl w' 1 D n (l.map (Value.int .u8)) ∧ (n ≤ k ∧ k ≤ 9223372036854775807) ∧ Below w.heap.size w w' := by
  refine (Unpack_any (packL kd l) A (n + 13) c w hnc hc9 (by omega) (by rw [packL_len, hl]) (packL_bys hk hb) hs).mono ?_
  rintro e w3 ⟨D, k3, ev, rfl, hev, hs3, hk3, hb3⟩
  have hl2 : l.length < 4294967296 := by omega
  rw [unE_pack _ _ hl2] at hev
  obtain rfl : ev = .nilIface := hev
  rw [unB_pack _ _ hl2, hl] at hs3 hk3
  exact ⟨D, k3, by rw [unK_pack _ _ hl2, unB_pack _ _ hl2, hl], hs3, hk3, hb3⟩

end Go.Proofs.YtbbmgcdocolakaaGreatDoor
/-
  Errors and their values, one by one; contract of fault.First.
-/
namespace Go.Proofs.YtbbmgcdocolakaaGreatDoor
open Go.RowKit

def Err.first : List Err → Err
  | [] => .nil
  | .nil :: l => Err.first l
  | e :: _ => e
theorem Err.first_cons {E : Err} (h : E ≠ .nil) (l : List Err) : Err.first (E :: l) = E := by cases E <;> first | exact absurd rfl h | rfl

/-- Errors and their values, one by one. -/
def Err.AtAll (w : World) : List Err → List Value → Prop
  | [], vs => vs = []
  | E :: Es, vs => ∃ v vs', vs = v :: vs' ∧ E.At w v ∧ Err.AtAll w Es vs'
theorem Err.AtAll.len {w : World} : ∀ {Es : List Err} {vs : List Value}, Err.AtAll w Es vs → vs.length = Es.length
  | [], _, h => by rw [show _ = [] from h]; rfl
  | _ :: _, _, ⟨_, _, h1, _, h3⟩ => by rw [h1, List.length_cons, List.length_cons, h3.len]
theorem Err.AtAll.at_ {w : World} : ∀ {Es : List Err} {vs : List Value}, Err.AtAll w Es vs → ∀ (k : Nat) (E : Err), Es[k]? = some E → ∃ v, vs[k]? = some v ∧ E.At w v
  | [], _, _, k, E, h => by simp at h
  | _ :: _, _, ⟨v, _, h1, h2, _⟩, 0, E, h => by
    simp at h
    subst h
    exact ⟨v, by rw [h1]; rfl, h2⟩
  | _ :: _, _, ⟨_, _, h1, _, h3⟩, k + 1, E, h => by
    obtain ⟨v, hv, hE⟩ := h3.at_ k E (by simpa using h)
    exact ⟨v, by rw [h1]; simpa using hv, hE⟩
theorem Err.AtAll.keep {w w' : World} (hb : Below w.heap.size w w') : ∀ {Es : List Err} {vs : List Value}, Err.AtAll w Es vs → Err.AtAll w' Es vs
  | [], _, h => h
  | _ :: _, _, ⟨v, vs', h1, h2, h3⟩ => ⟨v, vs', h1, h2.keep hb, h3.keep hb⟩

set_option maxHeartbeats 1000000 in
theorem First_any (Es : List Err) (vs : List Value) (A : Option Addr) (n c : Nat) (w : World) (hn : n ≤ 4294967296) (hl : Es.length = n) (hE : Err.AtAll w Es vs) (hs : Sl w 1 A n vs) :
    Calls Tryz.prog 97 #[.slice A n c] w fun e w' => ∃ v', e = .returned v' ∧ (Err.first Es).At w v' ∧ w = w' := by
  go_enter Tryz.func97, Tryz.ntmps97
  go_wp2
  go_loop [7] (fun i => ∃ k : Nat, k ≤ n ∧ i = .int .i64 k ∧ Hid (Err.first Es = Err.first (Es.drop k))) (fun i => n - (intOf i).toNat)
  case atStart => exact ⟨0, Nat.zero_le _, rfl, rfl⟩
  case round =>
    obtain ⟨k, hk, rfl, HF⟩ := hrel
    by_cases hlt : k < n
    · have hl' : k < Es.length := by omega
      obtain ⟨b, off, u, rfl, e1, c1⟩ := hs.one hlt
      obtain ⟨v, e2, hv⟩ := hE.at_ k Es[k] (List.getElem?_eq_getElem hl')
      obtain rfl : u = v := Option.some.inj (e1.symm.trans e2)
      have HD := Lib.hid (List.drop_eq_getElem_cons hl')
      have HV := Lib.hid hv
      clear e1 e2 hE hs hl
      by_cases hz : Es[k] = .nil
      · rw [hz] at hv
        obtain rfl : u = .nilIface := hv
        have HZ := Lib.hid hz
        clear hz
        go_wp2
        go_round
        case rel => exact ⟨k + 1, by omega, by go_num, by show _ = _; rw [HF.out, HD.out, HZ.out]; rfl⟩
        case measure => simp [intOf]; omega
      · obtain ⟨T, x, rfl⟩ := Err.At.iface_ hv hz
        have HZ := Lib.hid hz
        clear hv hz
        go_wp2
        go_ret
        exact ⟨_, rfl, by rw [HF.out, HD.out, Err.first_cons HZ.out]; exact HV.out, rfl⟩
    · have HD := Lib.hid (show Es.drop k = [] from List.drop_eq_nil_of_le (by omega))
      clear hl hE hs
      go_wp2
      go_ret
      exact ⟨_, rfl, by rw [HF.out, HD.out]; rfl, rfl⟩
end Go.Proofs.YtbbmgcdocolakaaGreatDoor
/-
  Contracts of wire.Writer: Num, Long, Text, List, Bytes, Err.
-/
namespace Go.Proofs.YtbbmgcdocolakaaGreatDoor
open Go.RowKit
set_option maxRecDepth 100000
set_option linter.unusedVariables false

/-- An error without steps. -/
def Err.flat : Err → Prop
  | .nil => True
  | .flt _ _ _ => True
  | _ => False
theorem Err.At.far {w w' : World} : ∀ {E : Err} {v : Value}, E.flat → E.At w v → (∀ g cs, Blk w g 81 cs → Blk w' g 81 cs) → E.At w' v
  | .nil, _, _, h, _ => h
  | .flt _ _ _, _, _, ⟨g, h1, h2⟩, hk => ⟨g, h1, hk g _ h2⟩
  | .step _ _, _, hf, _, _ => hf.elim
  | .txt _, _, hf, _, _ => hf.elim
theorem Err.first2_flat {c a : Int} {s : ByteArray} : ∀ {E : Err}, E.flat → (Err.first [E, .flt c a s]).flat
  | .nil, _ => trivial
  | .flt _ _ _, _ => trivial
  | .step _ _, h => h.elim
  | .txt _, h => h.elim

theorem Err.first2_ne {c a : Int} {s : ByteArray} : ∀ {E : Err}, Err.first [E, .flt c a s] ≠ .nil
  | .nil => fun h => by cases h
  | .flt _ _ _ => fun h => by cases h
  | .step _ _ => fun h => by cases h
  | .txt _ => fun h => by cases h

def txtNumber : ByteArray := ⟨#[110, 117, 109, 98, 101, 114]⟩
/-- A writer at block g: what it has put, and its first error; its bytes lie in a row of the caller's own. -/
def Wr (w : World) (B g : Nat) (bs : List Int) (E : Err) : Prop :=
  B ≤ g ∧ E.flat ∧ ∃ bv ev, Blk w g 90 #[bv, ev] ∧ w.ownsRow B 5 1 bv bs.length (bs.map (Value.int .u8)) ∧ E.At w ev
theorem own_farBlk {w : World} {B g size n i : Nat} {t e : TypeId} {cs : Array Value} {v : Value} {xs : List Value} (h : w.ownsRow B e size v n xs) (hb : Blk w g t cs) (hne : t ≠ e) (u : Value) : (w.setCell ⟨g, i, none⟩ u).ownsRow B e size v n xs :=
  own_block h fun g' hg' => heap_setCell_other w ⟨g, i, none⟩ g' u (fun e' => own_notBlk h hb hne (by rw [hg', e']))
theorem blk_farBlk {w : World} {g g' i : Nat} {t t' : TypeId} {cs cs' : Array Value} (h : Blk w g' t' cs') (hb : Blk w g t cs) (hne : t ≠ t') (u : Value) : Blk (w.setCell ⟨g, i, none⟩ u) g' t' cs' :=
  h.far (p := ⟨g, i, none⟩) (fun e => by
    have e : g' = g := e
    subst e
    unfold Blk at h hb
    rw [h] at hb
    injection hb with hb
    injection hb with _ h3
    exact hne h3.symm) u
/-- The row is turned into another one that grew out of it. -/
theorem Wr.turn {w w' : World} {B g : Nat} {bs bs' : List Int} {E : Err} {bv bv' ev : Value} (hB : B ≤ g) (hE : E.flat) (hb : Blk w g 90 #[bv, ev]) (hown : w.ownsRow B 5 1 bv bs.length (bs.map (Value.int .u8))) (he : E.At w ev)
    (hg : w.grownBy w' bv.ownBlock) (hown' : w'.ownsRow B 5 1 bv' bs'.length (bs'.map (Value.int .u8))) : Wr (w'.setCell ⟨g, 0, none⟩ bv') B g bs' E := by
  have hb' : Blk w' g 90 #[bv, ev] := hb.others hown hg (by decide)
  refine ⟨hB, hE, bv', ev, ?_, own_farBlk hown' hb' (by decide) _, he.far hE fun g' cs h => blk_farBlk (h.others hown hg (by decide)) hb' (by decide) _⟩
  have := hb'.set_ 0 bv'
  simpa using this
theorem Wr.keep {w w' : World} {B g : Nat} {bs : List Int} {E : Err} (h : Wr w B g bs E) (hb : Below w.heap.size w w') : Wr w' B g bs E := by
  obtain ⟨h1, h2, bv, ev, h3, h4, h5⟩ := h
  exact ⟨h1, h2, bv, ev, h3.keep hb, own_below h4 (fun g hg => (h4.lt g hg).2) hb, h5.keep hb⟩

/-- What is put, and the first error. -/
abbrev St := List Int × Err
def fits (z : Int) : Prop := 0 ≤ z ∧ z ≤ 4294967295
instance (z : Int) : Decidable (fits z) := by unfold fits; exact inferInstance
def pNum (z : Int) (st : St) : St := if fits z then (st.1 ++ wordL z.toNat, st.2) else (st.1 ++ wordL 0, Err.first [st.2, .flt 3 st.1.length txtNumber])
theorem pNum_len (z : Int) (st : St) : (pNum z st).1.length = st.1.length + 4 := by unfold pNum; split <;> simp [wordL]
theorem pNum_flat (z : Int) {st : St} (h : st.2.flat) : (pNum z st).2.flat := by
  unfold pNum; split
  · exact h
  · exact Err.first2_flat h

set_option maxHeartbeats 2000000 in
theorem Num_fits (k : Nat) (hk : k < 4294967296) (g B : Nat) (bs : List Int) (E : Err) (w : World) (hW : Wr w B g bs E) (hl : bs.length ≤ 1099511627776) :
    Calls Tryz.prog 76 #[.pointer (some ⟨g, 0, none⟩), .int .i64 k] w fun e w' => e = .returned (.tuple #[]) ∧ Wr w' B g (bs ++ wordL k) E ∧ Below B w w' := by
  obtain ⟨hBg, hE, bv, ev, hb, hown, he⟩ := hW
  have hBw : B ≤ w.heap.size := Nat.le_trans hBg (Nat.le_of_lt hb.lt)
  have hc0 := hb.cell 0
  simp at hc0
  have HW := Lib.hid (word_own k hk bs bv bs.length B w rfl hown hBw hl)
  have HBk := Lib.hid hb
  have HO := Lib.hid hown
  have HE := Lib.hid he
  clear hb hown he
  go_enter Tryz.func76, Tryz.ntmps76
  go_wp2_with fail
  refine HW.out.mono ?_
  rintro e w1 ⟨v', rfl, hown1, hgr⟩
  obtain ⟨g1, c1, rfl, _⟩ := own_form hown1 (by omega)
  have hb1 := hgr.blkOwn HBk.out HO.out (by decide)
  have hcell := hb1.cell 0
  simp at hcell
  have hfr := hb1.frozen 0
  have HT := Lib.hid (Wr.turn (bs' := bs ++ wordL k) hBg hE HBk.out HO.out HE.out hgr.g (by rw [List.length_append, wordL_len]; exact hown1))
  have HB1 := Lib.hid (hgr.belowOwn hBw HO.out)
  clear hown1 hgr hb1 HW
  go_wp2_with fail
  go_end0
  exact ⟨rfl, HT.out, HB1.out.setCell (p := ⟨g, 0, none⟩) hBg _⟩

end Go.Proofs.YtbbmgcdocolakaaGreatDoor
/-
  Contracts of wire.Reader: NewReader, take, num, Num, Long, Left, End; what nobody answers.
-/
namespace Go.Proofs.YtbbmgcdocolakaaGreatDoor
open Go.RowKit
set_option maxRecDepth 100000
set_option linter.unusedVariables false

def txtBytes : ByteArray := ⟨#[98, 121, 116, 101, 115]⟩
def txtList : ByteArray := ⟨#[108, 105, 115, 116]⟩
/-- A reader at block g, of the bytes at A; how many are taken; its first error. -/
def Rd (w : World) (B g : Nat) (A : Option Addr) (n c a : Nat) (E : Err) : Prop :=
  B ≤ g ∧ E.flat ∧ a ≤ n ∧ ∃ ev, Blk w g 159 #[.slice A n c, .int .i64 a, ev] ∧ E.At w ev
theorem Rd.keep {w w' : World} {B g : Nat} {A : Option Addr} {n c a : Nat} {E : Err} (h : Rd w B g A n c a E) (hb : Below w.heap.size w w') : Rd w' B g A n c a E := by
  obtain ⟨h1, h2, h3, ev, h4, h5⟩ := h
  exact ⟨h1, h2, h3, ev, h4.keep hb, h5.keep hb⟩

/-- Of what was there nothing but block g has turned. -/
def Asd (g : Nat) (w w' : World) : Prop := w.heap.size ≤ w'.heap.size ∧ ∀ k, k ≠ g → k < w.heap.size → w'.heap[k]? = w.heap[k]?
theorem Asd.of {g : Nat} {w w' : World} (h : Below w.heap.size w w') : Asd g w w' := ⟨h.size, fun k _ hk => h.block k hk⟩
theorem Asd.trans {g : Nat} {a b c : World} (h : Asd g a b) (k : Asd g b c) : Asd g a c := ⟨Nat.le_trans h.1 k.1, fun i hi hl => (k.2 i hi (Nat.lt_of_lt_of_le hl h.1)).trans (h.2 i hi hl)⟩
theorem Asd.setCell {g : Nat} {a w : World} (h : Asd g a w) (i : Nat) (u : Value) : Asd g a (w.setCell ⟨g, i, none⟩ u) :=
  h.trans ⟨by simp [World.setCell], fun k hk _ => Below.heap_setCell _ _ _ _ hk⟩
theorem Asd.cell {g : Nat} {w w' : World} (h : Asd g w w') {p : Addr} {v : Value} (hp : w.cell? p = some v) (hg : p.block ≠ g) : w'.cell? p = some v :=
  (World.cell?_of_block (w := w) (h.2 p.block hg (World.block_lt_of_cell? w _ hp))).trans hp
theorem Asd.froz {g : Nat} {w w' : World} (h : Asd g w w') {p : Addr} {b : Bool} (hl : p.block < w.heap.size) (hp : w.frozen? p = b) (hg : p.block ≠ g) : w'.frozen? p = b :=
  (World.frozen?_of_block (w := w) (h.2 p.block hg hl)).trans hp
theorem NewReader_any (A : Option Addr) (n c : Nat) (w : World) :
    Calls Tryz.prog 70 #[.slice A n c] w fun e w' => ∃ g, e = .returned (.pointer (some ⟨g, 0, none⟩)) ∧ Rd w' w.heap.size g A n c 0 .nil ∧ Below w.heap.size w w' := by
  go_enter Tryz.func70, Tryz.ntmps70
  go_wp2_with fail
  go_ret
  exact ⟨w.heap.size, rfl, ⟨Nat.le_refl _, trivial, Nat.zero_le _, _, Blk.new _ _ _, rfl⟩, bel_al (Below.refl _ _) _⟩

set_option maxHeartbeats 2000000 in
theorem take_err (g B : Nat) (A : Option Addr) (n c a : Nat) (E : Err) (m from_ : Int) (w : World) (hR : Rd w B g A n c a E) (hE : E ≠ .nil) :
    Calls Tryz.prog 95 #[.pointer (some ⟨g, 0, none⟩), .int .i64 m, .int .i64 from_] w fun e w' => e = .returned (.slice none 0 0) ∧ w = w' := by
  obtain ⟨_, hf, _, ev, hb, he⟩ := hR
  obtain ⟨T, x, rfl⟩ := Err.At.iface_ he hE
  have hc2 := hb.cell 2
  simp at hc2
  clear hb he hE
  go_enter Tryz.func95, Tryz.ntmps95
  go_wp2_with fail
  go_ret
  exact ⟨rfl, rfl⟩

set_option maxHeartbeats 4000000 in
theorem take_short (g B : Nat) (A : Option Addr) (n c a m : Nat) (from_ : Nat) (w : World) (hR : Rd w B g A n c a .nil) (hm : n < a + m) (hn : n ≤ 1099511627776) (hm2 : m ≤ 1099511627776) (hfr : from_ ≤ n) :
    Calls Tryz.prog 95 #[.pointer (some ⟨g, 0, none⟩), .int .i64 m, .int .i64 from_] w fun e w' => e = .returned (.slice none 0 0) ∧ Rd w' B g A n c from_ (.flt 9 from_ txtBytes) ∧ Below B w w' := by
  obtain ⟨hBg, hf, han, ev, hb, he⟩ := hR
  obtain rfl : ev = .nilIface := he
  have hc0 := hb.cell 0
  have hc1 := hb.cell 1
  have hc2 := hb.cell 2
  simp at hc0 hc1 hc2
  have HBk := Lib.hid hb
  have hBw : B ≤ w.heap.size := Nat.le_trans hBg (Nat.le_of_lt hb.lt)
  clear hb
  have hd : decide ((n : Int) - (a : Int) < (m : Int)) = true := decide_eq_true (by omega)
  go_enter Tryz.func95, Tryz.ntmps95
  go_wp2_with fail
  go_quiet (fail)
  obtain ⟨w1, hw1⟩ : ∃ w1, w1 = w.drewN nq := ⟨_, rfl⟩
  rw [← hw1]
  have hbw := drew_bel ⟨nq, hw1⟩
  have HBk1 := Lib.hid (HBk.out.keep hbw)
  have HBw := Lib.hid hbw
  clear hw1 hbw hc0 hc1 hc2
  go_wp2_with fail
  refine (New_err 9 from_ txtBytes w1).mono ?_
  rintro e w2 ⟨v, rfl, ⟨gv, rfl, hv⟩, hb2⟩
  have hbk2 := HBk1.out.keep hb2
  have hd1 := hbk2.cell 1
  have hd2 := hbk2.cell 2
  have hf1 := hbk2.frozen 1
  have hf2 := hbk2.frozen 2
  simp at hd1 hd2
  have hgne : gv ≠ g := fun e => by
    subst e
    unfold Blk at hv hbk2
    rw [hv] at hbk2
    injection hbk2 with hbk2
    injection hbk2 with _ h3
    exact absurd h3 (by decide)
  have HT := Lib.hid (show Rd ((w2.setCell ⟨g, 1, none⟩ (.int .i64 from_)).setCell ⟨g, 2, none⟩ (.iface 78 (.pointer (some ⟨gv, 0, none⟩)))) B g A n c from_ (.flt 9 from_ txtBytes) by
    refine ⟨hBg, trivial, hfr, _, ?_, ⟨gv, rfl, ?_⟩⟩
    · have := (hbk2.set_ 1 (.int .i64 from_)).set_ 2 (.iface 78 (.pointer (some ⟨gv, 0, none⟩)))
      simpa using this
    · exact ((hv.far (p := ⟨g, 1, none⟩) hgne _).far (p := ⟨g, 2, none⟩) hgne _))
  have HB2 := Lib.hid (HBw.out.andThen hb2)
  clear hv hbk2 hgne hb2
  go_wp2_with fail
  go_ret
  exact ⟨rfl, HT.out, ((HB2.out.mono hBw).setCell (p := ⟨g, 1, none⟩) hBg _).setCell (p := ⟨g, 2, none⟩) hBg _⟩

set_option maxHeartbeats 4000000 in
theorem take_ok (g B : Nat) (A : Option Addr) (n c a m : Nat) (from_ : Int) (l : List Int) (w : World) (hR : Rd w B g A n c a .nil) (hm : a + m ≤ n) (h0 : 0 < m) (hn : n ≤ 1099511627776) (hnc : n ≤ c) (hc9 : c ≤ 9223372036854775807) (hs : Sl w 1 A n (l.map (Value.int .u8))) (hB : ∀ w', Below B w w' → Sl w' 1 A n (l.map (Value.int .u8))) :
    Calls Tryz.prog 95 #[.pointer (some ⟨g, 0, none⟩), .int .i64 m, .int .i64 from_] w fun e w' => ∃ C k, e = .returned (.slice (some C) m k) ∧ (m ≤ k ∧ k ≤ 9223372036854775807) ∧ (∀ w2, Below B w w2 → Sl w2 1 (some C) m (((l.drop a).take m).map (Value.int .u8))) ∧ Rd w' B g A n c (a + m) .nil ∧ Below B w w' ∧ Asd g w w' := by
  obtain ⟨hBg, hf, han, ev, hb, he⟩ := hR
  obtain rfl : ev = .nilIface := he
  obtain ⟨b, off, rfl, _⟩ := hs.2 (by omega)
  have hc0 := hb.cell 0
  have hc1 := hb.cell 1
  have hc2 := hb.cell 2
  simp at hc0 hc1 hc2
  have HBk := Lib.hid hb
  have hBw : B ≤ w.heap.size := Nat.le_trans hBg (Nat.le_of_lt hb.lt)
  have HX := Lib.hid (fun w2 (h : Below B w w2) => (by
    have h1 := ((hB w2 h).drop (k := a) han).take (k := m) (by omega)
    rwa [← List.map_drop, ← List.map_take] at h1 : Sl w2 1 (some ⟨b, off + a, none⟩) m (((l.drop a).take m).map (Value.int .u8))))
  clear hb hs hB
  have hfr1 := HBk.out.frozen 1
  have hd : decide ((n : Int) - (a : Int) < (m : Int)) = false := decide_eq_false (by omega)
  go_enter Tryz.func95, Tryz.ntmps95
  go_wp2_with fail
  go_quiet (fail)
  have e1 : (0 : Int) ≤ a := by omega
  have e2 : (a : Int) ≤ (a : Int) + (m : Int) := by omega
  have e3 : (a : Int) + (m : Int) ≤ (c : Int) := by omega
  have e4 : ((a : Int) + (m : Int)).toNat = a + m := by omega
  have e5 : ¬ c = a := by omega
  have e6 : a + m - a = m := by omega
  go_wp2_with fail
  go_quiet (fail)
  go_wp2_with fail
  go_ret
  have hcast : ((a + m : Nat) : Int) = (a : Int) + (m : Int) := by omega
  refine ⟨⟨b, off + a, none⟩, c - a, rfl, ⟨by omega, by omega⟩, HX.out, ⟨hBg, trivial, hm, .nilIface, ?_, rfl⟩, ?_, ?_⟩
  · rw [hcast]
    have := fun q => (HBk.out.drewN q).set_ 1 (.int .i64 ((a : Int) + (m : Int)))
    simpa using this _
  · exact ((bel_drewN (Below.refl _ _) _).mono hBw).setCell (p := ⟨g, 1, none⟩) hBg _
  · exact (Asd.of (bel_drewN (Below.refl _ _) _)).setCell _ _

theorem rd_cells {w : World} {B g : Nat} {A : Option Addr} {n c a : Nat} {E : Err} (h : Rd w B g A n c a E) : w.cell? ⟨g, 0, none⟩ = some (.slice A n c) ∧ w.cell? ⟨g, 1, none⟩ = some (.int .i64 a) := by
  obtain ⟨_, _, _, ev, hb, _⟩ := h
  have hc0 := hb.cell 0
  have hc1 := hb.cell 1
  simp at hc0 hc1
  exact ⟨hc0, hc1⟩
theorem nilEq (w : World) (A : Option Addr) (n c : Nat) : (binOp .eql 42 (.slice A n c) (.slice none 0 0)).run Tryz.prog w = .ok (.bool A.isNone) w := Lib.run_eql_slice_nil w _ _ A n c 0 0 Tryz.underlying42

set_option maxHeartbeats 2000000 in
theorem num_err (g B : Nat) (A : Option Addr) (n c a : Nat) (E : Err) (from_ : Int) (w : World) (hR : Rd w B g A n c a E) (hE : E ≠ .nil) :
    Calls Tryz.prog 94 #[.pointer (some ⟨g, 0, none⟩), .int .i64 from_] w fun e w' => e = .returned (.int .i64 0) ∧ w = w' := by
  have HT := Lib.hid (take_err g B A n c a E 4 from_ w hR hE)
  have nn := fun w => nilEq w none 0 0
  clear hR hE
  go_enter Tryz.func94, Tryz.ntmps94
  go_wp2_with fail
  refine HT.out.mono ?_
  rintro e w1 ⟨rfl, rfl⟩
  go_wp2_with fail
  go_ret
  exact ⟨rfl, rfl⟩
theorem List_err (g B : Nat) (A : Option Addr) (n c a : Nat) (E : Err) (most : Int) (w : World) (hR : Rd w B g A n c a E) (hE : E ≠ .nil) :
    Calls Tryz.prog 71 #[.pointer (some ⟨g, 0, none⟩), .int .i64 most] w fun e w' => e = .returned (.slice none 0 0) ∧ w = w' := by
  obtain ⟨hc0, hc1⟩ := rd_cells hR
  have HN := Lib.hid (num_err g B A n c a E a w hR hE)
  obtain ⟨_, hf, _, ev, hb, he⟩ := hR
  obtain ⟨T, x, rfl⟩ := Err.At.iface_ he hE
  have hc2 := hb.cell 2
  simp at hc2
  clear hb he hE
  go_enter Tryz.func71, Tryz.ntmps71
  go_wp2_with fail
  refine HN.out.mono ?_
  rintro e w1 ⟨rfl, rfl⟩
  go_wp2_with fail
  go_ret
  exact ⟨rfl, rfl⟩
theorem Left_any (g B : Nat) (A : Option Addr) (n c a : Nat) (E : Err) (w : World) (hR : Rd w B g A n c a E) (hn : n ≤ 1099511627776) :
    Calls Tryz.prog 96 #[.pointer (some ⟨g, 0, none⟩)] w fun e w' => e = .returned (.int .i64 ((n - a : Nat) : Int)) ∧ Below w.heap.size w w' := by
  obtain ⟨hc0, hc1⟩ := rd_cells hR
  have ha := hR.2.2.1
  have hd : (n : Int) - (a : Int) = ((n - a : Nat) : Int) := by omega
  clear hR
  go_enter Tryz.func96, Tryz.ntmps96
  go_wp2_with fail
  go_quiet (fail)
  go_wp2_with fail
  go_ret
  exact ⟨by first | rfl | (rw [hd]), bel_drewN (Below.refl _ _) _⟩
theorem End_err (g B : Nat) (A : Option Addr) (n c a : Nat) (E : Err) (w : World) (hR : Rd w B g A n c a E) (hE : E ≠ .nil) :
    Calls Tryz.prog 72 #[.pointer (some ⟨g, 0, none⟩)] w fun e w' => ∃ T x, e = .returned (.iface T x) ∧ E.At w (.iface T x) ∧ w = w' := by
  obtain ⟨_, hf, _, ev, hb, he⟩ := hR
  obtain ⟨T, x, rfl⟩ := Err.At.iface_ he hE
  have hc2 := hb.cell 2
  simp at hc2
  have HE := Lib.hid he
  clear hb he hE
  go_enter Tryz.func72, Tryz.ntmps72
  go_wp2_with fail
  go_ret
  exact ⟨T, x, rfl, HE.out, rfl⟩
theorem End_ok (g B : Nat) (A : Option Addr) (n c : Nat) (w : World) (hR : Rd w B g A n c n .nil) (hn : n ≤ 1099511627776) :
    Calls Tryz.prog 72 #[.pointer (some ⟨g, 0, none⟩)] w fun e w' => e = .returned .nilIface ∧ Below w.heap.size w w' := by
  have HL := Lib.hid (Left_any g B A n c n .nil w hR hn)
  obtain ⟨_, hf, _, ev, hb, he⟩ := hR
  obtain rfl : ev = .nilIface := he
  have hc2 := hb.cell 2
  simp at hc2
  clear hb
  go_enter Tryz.func72, Tryz.ntmps72
  go_wp2_with fail
  refine HL.out.mono ?_
  rintro e w1 ⟨rfl, hb⟩
  rw [Nat.sub_self]
  go_wp2_with fail
  go_ret
  exact ⟨rfl, hb⟩

set_option maxHeartbeats 2000000 in
theorem num_ok (g B : Nat) (A : Option Addr) (n c a : Nat) (from_ : Int) (l : List Int) (w : World) (hR : Rd w B g A n c a .nil) (hm : a + 4 ≤ n) (hn : n ≤ 1099511627776) (hnc : n ≤ c) (hc9 : c ≤ 9223372036854775807) (hl : l.length = n) (hb : Bys l) (hB : ∀ w', Below B w w' → Sl w' 1 A n (l.map (Value.int .u8))) :
    Calls Tryz.prog 94 #[.pointer (some ⟨g, 0, none⟩), .int .i64 from_] w fun e w' => e = .returned (.int .i64 (wordN (l.drop a) : Nat)) ∧ Rd w' B g A n c (a + 4) .nil ∧ Below B w w' ∧ Asd g w w' := by
  have HT := Lib.hid (take_ok g B A n c a 4 from_ l w hR hm (by omega) hn hnc hc9 (hB w (Below.refl _ _)) hB)
  have nn := fun w (C : Addr) k => nilEq w (some C) 4 k
  have hw : wordN ((l.drop a).take 4) = wordN (l.drop a) := wordN_take (by rw [List.length_drop]; omega)
  have hlt := wordN_lt (hb.drop a)
  have HWL := Lib.hid (fun W (C : Addr) k (h : Sl W 1 (some C) 4 (((l.drop a).take 4).map (Value.int .u8))) => wordAt_any ((l.drop a).take 4) (some C) 4 k W (by rw [List.length_take, List.length_drop]; omega) (by omega) ((hb.drop a).take 4) h)
  rw [hw] at HWL
  clear hR hB hb hw
  generalize wordN (l.drop a) = N at *
  go_enter Tryz.func94, Tryz.ntmps94
  go_wp2_with fail
  refine HT.out.mono ?_
  rintro e w1 ⟨C, k, rfl, hk, hs1, hR1, hb1, ha1⟩
  have HA := Lib.hid (HWL.out w1 C k (hs1 w1 hb1))
  have HR1 := Lib.hid hR1
  have HB1 := Lib.hid hb1
  have HA1 := Lib.hid ha1
  clear hs1 hR1 hb1 ha1 HT
  go_wp2_with fail
  refine HA.out.mono ?_
  rintro e w2 ⟨rfl, hq⟩
  have HQ := Lib.hid (drew_bel hq)
  clear hq
  go_wp2_with fail
  go_ret
  exact ⟨rfl, HR1.out.keep HQ.out, HB1.out.trans (HQ.out.mono (Nat.le_trans HR1.out.1 (Nat.le_of_lt (by obtain ⟨_, _, _, _, h, _⟩ := HR1.out; exact h.lt)))), HA1.out.trans (Asd.of HQ.out)⟩
end Go.Proofs.YtbbmgcdocolakaaGreatDoor
/-
  Orders, plainly: no program in sight.
-/
namespace Go.Proofs.YtbbmgcdocolakaaGreatDoor

/-- A list that is an order. -/
def Ord (p : List Int) : Prop := p.length ≤ 8 ∧ (∀ x ∈ p, 0 ≤ x ∧ x < p.length) ∧ p.Nodup
instance (p : List Int) : Decidable (Ord p) := by unfold Ord; exact inferInstance
/-- 0, 1, .. -/
def ids (n : Nat) : List Int := (List.range n).map fun i : Nat => (i : Int)
theorem ids_len (n : Nat) : (ids n).length = n := by simp [ids]
theorem ids_succ (n : Nat) : ids (n + 1) = ids n ++ [(n : Int)] := by simp [ids, List.range_succ]
theorem ids_mem {n : Nat} {x : Int} : x ∈ ids n ↔ 0 ≤ x ∧ x < n := by
  simp only [ids, List.mem_map, List.mem_range]
  constructor
  · rintro ⟨i, hi, rfl⟩; omega
  · rintro ⟨h1, h2⟩; exact ⟨x.toNat, by omega, by omega⟩
theorem ids_nodup (n : Nat) : (ids n).Nodup := by
  unfold ids
  rw [List.nodup_iff_pairwise_ne, List.pairwise_map]
  exact List.Pairwise.imp (fun h => by omega) (List.pairwise_lt_range)
theorem ids_get (n i : Nat) (h : i < n) : (ids n)[i]? = some (i : Int) := by simp [ids, h]
theorem ids_ord {n : Nat} (h : n ≤ 8) : Ord (ids n) := ⟨by rw [ids_len]; exact h, fun x hx => by rw [ids_len]; exact ids_mem.1 hx, ids_nodup n⟩

/-- l's things at p's places, one by one. -/
def scat : List Int → List Int → List Int → List Int
  | x :: p, y :: l, out => scat p l (out.set x.toNat y)
  | _, _, out => out
theorem scat_len : ∀ p l out, (scat p l out).length = out.length
  | x :: p, y :: l, out => by rw [scat, scat_len p l]; simp
  | [], _, _ => rfl
  | _ :: _, [], _ => rfl
theorem scat_snoc (x y : Int) : ∀ (p l out : List Int), p.length = l.length → scat (p ++ [x]) (l ++ [y]) out = (scat p l out).set x.toNat y
  | [], [], _, _ => rfl
  | a :: p, b :: l, out, h => by
    rw [List.cons_append, List.cons_append, scat, scat_snoc x y p l _ (by simpa using h), scat]
theorem scat_other : ∀ (p l out : List Int) (j : Nat), (∀ x ∈ p, x.toNat ≠ j) → (scat p l out)[j]? = out[j]?
  | x :: p, y :: l, out, j, h => by
    rw [scat, scat_other p l _ j (fun z hz => h z (List.mem_cons_of_mem _ hz)), List.getElem?_set_ne (h x (List.mem_cons_self ..))]
  | [], _, _, _, _ => by simp [scat]
  | _ :: _, [], _, _, _ => by simp [scat]
theorem scat_at : ∀ (p l out : List Int) (i : Nat) (x y : Int), p.Nodup → (∀ z ∈ p, 0 ≤ z ∧ z < out.length) → p[i]? = some x → l[i]? = some y → (scat p l out)[x.toNat]? = some y
  | a :: p, b :: l, out, 0, x, y, hn, hr, hx, hy => by
    simp only [List.getElem?_cons_zero, Option.some.injEq] at hx hy
    subst hx hy
    have hna := (List.nodup_cons.1 hn).1
    have hra := hr a (List.mem_cons_self ..)
    rw [scat, scat_other]
    · rw [List.getElem?_set_self (by omega)]
    · intro z hz e
      have := hr z (List.mem_cons_of_mem _ hz)
      exact hna (by rwa [show a = z by omega])
  | a :: p, b :: l, out, i + 1, x, y, hn, hr, hx, hy => by
    rw [scat]
    exact scat_at p l _ i x y (List.nodup_cons.1 hn).2 (fun z hz => by rw [List.length_set]; exact hr z (List.mem_cons_of_mem _ hz)) (by simpa using hx) (by simpa using hy)
  | [], _, _, _, _, _, _, _, hx, _ => by simp at hx
  | _ :: _, [], _, _, _, _, _, _, _, hy => by simp at hy

/-- No more things than places. -/
theorem pig : ∀ (n : Nat) (l : List Int), l.Nodup → (∀ x ∈ l, 0 ≤ x ∧ x < n) → l.length ≤ n
  | 0, [], _, _ => Nat.le_refl _
  | 0, x :: _, _, h => by have := h x (List.mem_cons_self ..); omega
  | n + 1, l, hn, h => by
    have h1 := pig n (l.erase (n : Int)) (hn.erase _) (fun x hx => by
      have hm := List.mem_of_mem_erase hx
      have := h x hm
      have hne : x ≠ (n : Int) := fun e => (hn.not_mem_erase (a := (n : Int))) (e ▸ hx)
      omega)
    rw [List.length_erase] at h1
    split at h1 <;> omega
theorem Ord.mem {p : List Int} (h : Ord p) {j : Int} (h0 : 0 ≤ j) (h1 : j < p.length) : j ∈ p := by
  refine Decidable.byContradiction fun hn => ?_
  have := pig p.length (j :: p) (List.nodup_cons.2 ⟨hn, h.2.2⟩) (fun x hx => by
    rcases List.mem_cons.1 hx with rfl | hx
    · exact ⟨h0, h1⟩
    · exact h.2.1 x hx)
  rw [List.length_cons] at this
  omega
theorem Ord.at_ {p : List Int} (h : Ord p) {j : Nat} (h1 : j < p.length) : ∃ i, i < p.length ∧ p[i]? = some (j : Int) := by
  obtain ⟨i, hi, e⟩ := List.getElem_of_mem (h.mem (j := j) (by omega) (by omega))
  exact ⟨i, hi, by rw [List.getElem?_eq_getElem hi, e]⟩
theorem Ord.get {p : List Int} (h : Ord p) {i : Nat} (hi : i < p.length) : ∃ j : Nat, j < p.length ∧ p[i]? = some (j : Int) := by
  have hm := h.2.1 _ (List.getElem_mem hi)
  exact ⟨p[i].toNat, by omega, by rw [List.getElem?_eq_getElem hi]; congr 1; omega⟩
theorem Ord.inj {p : List Int} (h : Ord p) {i j : Nat} {x : Int} (hi : p[i]? = some x) (hj : p[j]? = some x) : i = j := by
  have h1 : i < p.length := (List.getElem?_eq_some_iff.1 hi).1
  exact (List.getElem?_inj h1 h.2.2).1 (hi.trans hj.symm)

/-- The list put. -/
def putL (p l : List Int) : List Int := if Ord p ∧ p.length = l.length then scat p l (List.replicate p.length 0) else []
/-- The order that leads back. -/
def backL (p : List Int) : List Int := if Ord p then scat p (ids p.length) (List.replicate p.length 0) else []
/-- One, then the other. -/
def thenL (p q : List Int) : List Int := if Ord p ∧ Ord q ∧ p.length = q.length then p.map fun x => q.getD x.toNat 0 else []
theorem putL_len {p l : List Int} (h : Ord p) (hl : p.length = l.length) : (putL p l).length = p.length := by rw [putL, if_pos ⟨h, hl⟩, scat_len]; simp
theorem putL_at {p l : List Int} (h : Ord p) (hl : p.length = l.length) {i : Nat} {x y : Int} (hx : p[i]? = some x) (hy : l[i]? = some y) : (putL p l)[x.toNat]? = some y := by
  rw [putL, if_pos ⟨h, hl⟩]
  exact scat_at _ _ _ i x y h.2.2 (by simpa using h.2.1) hx hy
theorem backL_eq {p : List Int} (h : Ord p) : backL p = putL p (ids p.length) := by rw [backL, putL, if_pos h, if_pos ⟨h, by rw [ids_len]⟩]
theorem backL_len {p : List Int} (h : Ord p) : (backL p).length = p.length := by rw [backL_eq h, putL_len h (by rw [ids_len])]
theorem backL_at {p : List Int} (h : Ord p) {i : Nat} {x : Int} (hx : p[i]? = some x) : (backL p)[x.toNat]? = some (i : Int) := by
  rw [backL_eq h]
  exact putL_at h (by rw [ids_len]) hx (ids_get _ _ (List.getElem?_eq_some_iff.1 hx).1)
/-- Back the other way. -/
theorem backL_of {p : List Int} (h : Ord p) {j : Nat} {y : Int} (hy : (backL p)[j]? = some y) : ∃ i : Nat, y = i ∧ p[i]? = some (j : Int) := by
  have hj : j < p.length := by rw [← backL_len h]; exact (List.getElem?_eq_some_iff.1 hy).1
  obtain ⟨i, _, hi⟩ := h.at_ hj
  have := backL_at h hi
  rw [Int.toNat_natCast, hy] at this
  exact ⟨i, by simpa using this, hi⟩
theorem backL_ord {p : List Int} (h : Ord p) : Ord (backL p) := by
  refine ⟨by rw [backL_len h]; exact h.1, fun x hx => ?_, ?_⟩
  · obtain ⟨j, hj, e⟩ := List.getElem_of_mem hx
    obtain ⟨i, rfl, hi⟩ := backL_of h (by rw [List.getElem?_eq_getElem hj, e])
    rw [backL_len h]
    have := (List.getElem?_eq_some_iff.1 hi).1
    omega
  · rw [List.nodup_iff_pairwise_ne, List.pairwise_iff_getElem]
    intro i j hi hj hlt e
    obtain ⟨a, ha, pa⟩ := backL_of h (List.getElem?_eq_getElem hi)
    obtain ⟨b, hb, pb⟩ := backL_of h (List.getElem?_eq_getElem hj)
    have hab : a = b := by have : (a : Int) = b := by rw [← ha, ← hb, e]
                           omega
    rw [hab, pb] at pa
    have : (j : Int) = i := by simpa using pa
    omega

/-- Put and put back. -/
theorem put_back {p l : List Int} (h : Ord p) (hl : p.length = l.length) : putL (backL p) (putL p l) = l := by
  have hb := backL_ord h
  have e1 := putL_len h hl
  have e2 := backL_len h
  have e3 := putL_len hb (e2.trans e1.symm)
  apply List.ext_getElem?
  intro i
  by_cases hi : i < p.length
  · obtain ⟨j, hj, hx⟩ := h.get hi
    have hi' : i < l.length := by omega
    have h1 := putL_at h hl hx (List.getElem?_eq_getElem hi')
    have h2 := backL_at h hx
    have h3 := putL_at hb (e2.trans e1.symm) h2 h1
    rw [Int.toNat_natCast] at h3
    rw [h3, List.getElem?_eq_getElem hi']
  · rw [List.getElem?_eq_none (by omega), List.getElem?_eq_none (by omega)]

/-- n times all below. -/
def fac : Nat → Nat
  | 0 => 1
  | n + 1 => (n + 1) * fac n
theorem fac_pos : ∀ n, 0 < fac n
  | 0 => by decide
  | n + 1 => Nat.mul_pos (by omega) (fac_pos n)
theorem fac_le {n : Nat} (h : n ≤ 8) : fac n ≤ 40320 := by
  have : ∀ n : Fin 9, fac n ≤ 40320 := by decide
  exact this ⟨n, by omega⟩
/-- What is picked of what is left, by a rank. -/
def ofR : Nat → Nat → List Int → List Int
  | 0, _, _ => []
  | k + 1, r, left => left.getD (r / fac k) 0 :: ofR k (r % fac k) (left.eraseIdx (r / fac k))
theorem ofR_perm : ∀ (k r : Nat) (left : List Int), left.length = k → r < fac k → List.Perm (ofR k r left) left
  | 0, _, left, h, _ => by rw [List.eq_nil_of_length_eq_zero h]; exact List.Perm.refl _
  | k + 1, r, left, h, hr => by
    have hp := fac_pos k
    have hlt : r / fac k < left.length := by rw [h]; exact Nat.div_lt_of_lt_mul (by rw [Nat.mul_comm]; exact hr)
    have h1 := ofR_perm k (r % fac k) (left.eraseIdx (r / fac k)) (by rw [List.length_eraseIdx, if_pos hlt, h]; rfl) (Nat.mod_lt _ hp)
    rw [ofR, List.getD_eq_getElem?_getD, List.getElem?_eq_getElem hlt]
    refine (h1.cons _).trans ?_
    rw [List.eraseIdx_eq_take_drop_succ]
    refine List.perm_middle.symm.trans ?_
    show List.Perm (left.take (r / fac k) ++ left[r / fac k] :: left.drop (r / fac k + 1)) left
    rw [← List.drop_eq_getElem_cons hlt, List.take_append_drop]
theorem ord_of_perm {n : Nat} {p : List Int} (hn : n ≤ 8) (h : List.Perm p (ids n)) : Ord p := by
  have hl : p.length = n := by rw [h.length_eq, ids_len]
  refine ⟨by omega, fun x hx => ?_, h.nodup_iff.2 (ids_nodup n)⟩
  rw [hl]
  exact ids_mem.1 (h.mem_iff.1 hx)
theorem ofR_ord {n r : Nat} (hn : n ≤ 8) (hr : r < fac n) : Ord (ofR n r (ids n)) := ord_of_perm hn (ofR_perm n r _ (ids_len n) hr)
theorem ofR_len {n r : Nat} (hr : r < fac n) : (ofR n r (ids n)).length = n := by rw [(ofR_perm n r _ (ids_len n) hr).length_eq, ids_len]
end Go.Proofs.YtbbmgcdocolakaaGreatDoor
/-
  Contracts: perm.Right, perm.Id, perm.with, perm.Put, perm.Back, perm.Then, perm.times; the document's SameInts.
-/
namespace Go.Proofs.YtbbmgcdocolakaaGreatDoor
open Go.RowKit
set_option maxRecDepth 100000

theorem bits_and_nat (a b : Nat) (ha : a < 2^63) (hb : b < 2^63) : bits .and .i64 a b = ((a &&& b : Nat) : Int) := by
  have h1 : (BitVec.ofInt 64 (a : Int) &&& BitVec.ofInt 64 (b : Int)).toNat = a &&& b := by
    rw [BitVec.toNat_and, BitVec.ofInt_natCast, BitVec.ofInt_natCast, BitVec.toNat_ofNat, BitVec.toNat_ofNat, Nat.mod_eq_of_lt (by omega), Nat.mod_eq_of_lt (by omega)]
  have h2 : a &&& b < 2^63 := Nat.lt_of_le_of_lt Nat.and_le_left ha
  show IntKind.i64.wrap (((BitVec.ofInt 64 (a : Int) &&& BitVec.ofInt 64 (b : Int)).toNat : Nat) : Int) = _
  rw [h1]
  exact IntWalk.i64_in _ (by omega)
theorem bits_or_nat (a b : Nat) (ha : a < 2^63) (hb : b < 2^63) : bits .or .i64 a b = ((a ||| b : Nat) : Int) := by
  have h1 : (BitVec.ofInt 64 (a : Int) ||| BitVec.ofInt 64 (b : Int)).toNat = a ||| b := by
    rw [BitVec.toNat_or, BitVec.ofInt_natCast, BitVec.ofInt_natCast, BitVec.toNat_ofNat, BitVec.toNat_ofNat, Nat.mod_eq_of_lt (by omega), Nat.mod_eq_of_lt (by omega)]
  have h2 : a ||| b < 2^63 := Nat.or_lt_two_pow ha hb
  show IntKind.i64.wrap (((BitVec.ofInt 64 (a : Int) ||| BitVec.ofInt 64 (b : Int)).toNat : Nat) : Int) = _
  rw [h1]
  exact IntWalk.i64_in _ (by omega)
theorem bit_test (m y : Nat) (hm : m < 256) : (bits .and .i64 ((m : Int) / 2 ^ y) 1 == 1) = m.testBit y := by
  have h0 : ((m : Int) / 2 ^ y) = ((m >>> y : Nat) : Int) := by rw [Nat.shiftRight_eq_div_pow]; push_cast; rfl
  have h1 : m >>> y ≤ m := by rw [Nat.shiftRight_eq_div_pow]; exact Nat.div_le_self _ _
  rw [h0, show (1 : Int) = ((1 : Nat) : Int) from rfl, bits_and_nat _ _ (by omega) (by omega), Nat.testBit, Nat.and_comm]
  generalize hq : (1 &&& m >>> y) = q
  have hq2 : q < 2 := by rw [← hq, Nat.one_and_eq_mod_two]; omega
  match q, hq2 with
  | 0, _ => rfl
  | 1, _ => rfl
theorem bit_set (m y : Nat) (hm : m < 256) (hy : y < 8) : bits .or .i64 (m : Int) (wrap64 (2 ^ y)) = ((m ||| 2 ^ y : Nat) : Int) ∧ (m ||| 2 ^ y) < 256 ∧ ∀ x, (m ||| 2 ^ y).testBit x = (m.testBit x || decide (y = x)) := by
  have hp : 2 ^ y < 256 := by
    have : 2 ^ y < 2 ^ 8 := Nat.pow_lt_pow_right (by omega) hy
    omega
  have hw : wrap64 (2 ^ y) = ((2 ^ y : Nat) : Int) := by
    have : ((2 : Int) ^ y) = ((2 ^ y : Nat) : Int) := by push_cast; rfl
    rw [this]
    generalize 2 ^ y = q at hp
    exact IntWalk.wrap64_in (q : Int) (by omega)
  refine ⟨by rw [hw]; exact bits_or_nat _ _ (by omega) (by omega), Nat.or_lt_two_pow (n := 8) hm hp, fun x => ?_⟩
  rw [Nat.testBit_or, Nat.testBit_two_pow]

def order : ByteArray := ⟨#[111, 114, 100, 101, 114]⟩
def putE (p l : List Int) : Err := if Ord p then if p.length = l.length then .nil else .flt 1 1 order else .flt 1 0 order
end Go.Proofs.YtbbmgcdocolakaaGreatDoor
