/-
  Contracts of wire.Writer: Num, Long, Text, List, Bytes, Err.
-/
import Derived.Test.YtclbbchljiagpaaDoorWireD
import Derived.Test.YtclbbchljiagpaaDoorFirst
import Derived.Lib.AppendStr
import Derived.Deep.RegionWith
namespace Go.Proofs.YtclbbchljiagpaaDoor
open Go.RowKit
set_option maxRecDepth 100000
set_option linter.unusedVariables false

/-- An error without steps. -/
def Err.flat : Err → Prop
  | .nil => True
  | .flt _ _ _ => True
  | _ => False
theorem Err.At.far {w w' : World} : ∀ {E : Err} {v : Value}, E.flat → E.At w v → (∀ g cs, Blk w g 103 cs → Blk w' g 103 cs) → E.At w' v
  | .nil, _, _, h, _ => h
  | .flt _ _ _, _, _, ⟨g, h1, h2⟩, hk => ⟨g, h1, hk g _ h2⟩
  | .step _ _, _, hf, _, _ => hf.elim
  | .txt _, _, hf, _, _ => hf.elim
theorem Err.first2_flat {c a : Int} {s : ByteArray} : ∀ {E : Err}, E.flat → (Err.first [E, .flt c a s]).flat
  | .nil, _ => trivial
  | .flt _ _ _, _ => trivial
  | .step _ _, h => h.elim
  | .txt _, h => h.elim

theorem Err.first2_ne {c a : Int} {s : ByteArray} : ∀ {E : Err}, Err.first [E, .flt c a s] ≠ .nil
  | .nil => fun h => by cases h
  | .flt _ _ _ => fun h => by cases h
  | .step _ _ => fun h => by cases h
  | .txt _ => fun h => by cases h

def txtNumber : ByteArray := ⟨#[110, 117, 109, 98, 101, 114]⟩
/-- A writer at block g: what it has put, and its first error; its bytes lie in a row of the caller's own. -/
def Wr (w : World) (B g : Nat) (bs : List Int) (E : Err) : Prop :=
  B ≤ g ∧ E.flat ∧ ∃ bv ev, Blk w g 54 #[bv, ev] ∧ w.ownsRow B 5 1 bv bs.length (bs.map (Value.int .u8)) ∧ E.At w ev
theorem own_farBlk {w : World} {B g size n i : Nat} {t e : TypeId} {cs : Array Value} {v : Value} {xs : List Value} (h : w.ownsRow B e size v n xs) (hb : Blk w g t cs) (hne : t ≠ e) (u : Value) : (w.setCell ⟨g, i, none⟩ u).ownsRow B e size v n xs :=
  own_block h fun g' hg' => heap_setCell_other w ⟨g, i, none⟩ g' u (fun e' => own_notBlk h hb hne (by rw [hg', e']))
theorem blk_farBlk {w : World} {g g' i : Nat} {t t' : TypeId} {cs cs' : Array Value} (h : Blk w g' t' cs') (hb : Blk w g t cs) (hne : t ≠ t') (u : Value) : Blk (w.setCell ⟨g, i, none⟩ u) g' t' cs' :=
  h.far (p := ⟨g, i, none⟩) (fun e => by
    have e : g' = g := e
    subst e
    unfold Blk at h hb
    rw [h] at hb
    injection hb with hb
    injection hb with _ h3
    exact hne h3.symm) u
/-- The row is turned into another one that grew out of it. -/
theorem Wr.turn {w w' : World} {B g : Nat} {bs bs' : List Int} {E : Err} {bv bv' ev : Value} (hB : B ≤ g) (hE : E.flat) (hb : Blk w g 54 #[bv, ev]) (hown : w.ownsRow B 5 1 bv bs.length (bs.map (Value.int .u8))) (he : E.At w ev)
    (hg : w.grownBy w' bv.ownBlock) (hown' : w'.ownsRow B 5 1 bv' bs'.length (bs'.map (Value.int .u8))) : Wr (w'.setCell ⟨g, 0, none⟩ bv') B g bs' E := by
  have hb' : Blk w' g 54 #[bv, ev] := hb.others hown hg (by decide)
  refine ⟨hB, hE, bv', ev, ?_, own_farBlk hown' hb' (by decide) _, he.far hE fun g' cs h => blk_farBlk (h.others hown hg (by decide)) hb' (by decide) _⟩
  have := hb'.set_ 0 bv'
  simpa using this
theorem Wr.keep {w w' : World} {B g : Nat} {bs : List Int} {E : Err} (h : Wr w B g bs E) (hb : Below w.heap.size w w') : Wr w' B g bs E := by
  obtain ⟨h1, h2, bv, ev, h3, h4, h5⟩ := h
  exact ⟨h1, h2, bv, ev, h3.keep hb, own_below h4 (fun g hg => (h4.lt g hg).2) hb, h5.keep hb⟩

/-- What is put, and the first error. -/
abbrev St := List Int × Err
def fits (z : Int) : Prop := 0 ≤ z ∧ z ≤ 4294967295
instance (z : Int) : Decidable (fits z) := by unfold fits; exact inferInstance
def pNum (z : Int) (st : St) : St := if fits z then (st.1 ++ wordL z.toNat, st.2) else (st.1 ++ wordL 0, Err.first [st.2, .flt 3 st.1.length txtNumber])
theorem pNum_len (z : Int) (st : St) : (pNum z st).1.length = st.1.length + 4 := by unfold pNum; split <;> simp [wordL]
theorem pNum_flat (z : Int) {st : St} (h : st.2.flat) : (pNum z st).2.flat := by
  unfold pNum; split
  · exact h
  · exact Err.first2_flat h

set_option maxHeartbeats 2000000 in
theorem Num_fits (k : Nat) (hk : k < 4294967296) (g B : Nat) (bs : List Int) (E : Err) (w : World) (hW : Wr w B g bs E) (hl : bs.length ≤ 1099511627776) :
    Calls Tryd.prog 35 #[.pointer (some ⟨g, 0, none⟩), .int .i64 k] w fun e w' => e = .returned (.tuple #[]) ∧ Wr w' B g (bs ++ wordL k) E ∧ Below B w w' := by
  obtain ⟨hBg, hE, bv, ev, hb, hown, he⟩ := hW
  have hBw : B ≤ w.heap.size := Nat.le_trans hBg (Nat.le_of_lt hb.lt)
  have hc0 := hb.cell 0
  simp at hc0
  have HW := Lib.hid (word_own k hk bs bv bs.length B w rfl hown hBw hl)
  have HBk := Lib.hid hb
  have HO := Lib.hid hown
  have HE := Lib.hid he
  clear hb hown he
  go_enter Tryd.func35, Tryd.ntmps35
  go_wp2_with fail
  refine HW.out.mono ?_
  rintro e w1 ⟨v', rfl, hown1, hgr⟩
  obtain ⟨g1, c1, rfl, _⟩ := own_form hown1 (by omega)
  have hb1 := hgr.blkOwn HBk.out HO.out (by decide)
  have hcell := hb1.cell 0
  simp at hcell
  have hfr := hb1.frozen 0
  have HT := Lib.hid (Wr.turn (bs' := bs ++ wordL k) hBg hE HBk.out HO.out HE.out hgr.g (by rw [List.length_append, wordL_len]; exact hown1))
  have HB1 := Lib.hid (hgr.belowOwn hBw HO.out)
  clear hown1 hgr hb1 HW
  go_wp2_with fail
  go_end0
  exact ⟨rfl, HT.out, HB1.out.setCell (p := ⟨g, 0, none⟩) hBg _⟩

end Go.Proofs.YtclbbchljiagpaaDoor
