/-
  Part 14 of the proof of PatTexts: ErrIn, RdE, PatU.
-/
import Derived.Test.YtddedghnnkcnhaaGreatDoorPatTextsM7
import Derived.BigQuiet
import Derived.Test.YtddedghnnkcnhaaGreatDoorPatTextsM12
import Derived.Test.YtddedghnnkcnhaaGreatDoorPatTextsM6
import Derived.Deep.RegionHeld3
import Derived.Deep.DeepCutAuto
import Derived.Test.YtddedghnnkcnhaaGreatDoorPatTextsM13
/-
  fault.In by its contract.
-/
namespace Go.Proofs.YtddedghnnkcnhaaGreatDoor
open Go.RowKit Go.Extern.Stop Go.Stop Go.Extern
set_option maxRecDepth 100000

def Err.in_ (word : ByteArray) : Err → Err
  | .nil => .nil
  | e => .step word e
theorem Err.in_of {E : Err} (h : E ≠ .nil) (word : ByteArray) : E.in_ word = .step word E := by cases E <;> first | exact absurd rfl h | rfl

theorem In_any (word : ByteArray) (E : Err) (v : Value) (w : World) (hE : E.At w v) :
    Calls Tryz.prog 97 #[.string word, v] w fun e w' => ∃ v', e = .returned v' ∧ (E.in_ word).At w' v' ∧ Below w.heap.size w w' := by
  by_cases hne : E = .nil
  · subst hne
    obtain rfl : v = .nilIface := hE
    go_enter Tryz.func97, Tryz.ntmps97
    go_wp2
    go_ret
    exact ⟨_, rfl, rfl, Below.refl _ _⟩
  · have HE := Lib.hid hE
    have HN := Lib.hid hne
    obtain ⟨T, x, rfl⟩ := Err.At.iface_ hE hne
    clear hE hne
    go_enter Tryz.func97, Tryz.ntmps97
    go_wp2
    go_ret
    have hb := bel_al (Below.refl w.heap.size w) (.cells #[.string word, .iface T x] 215)
    refine ⟨_, rfl, ?_, hb⟩
    rw [Err.in_of HN.out]
    exact ⟨_, _, rfl, Blk.new _ _ _, HE.out.keep hb, HN.out⟩
end Go.Proofs.YtddedghnnkcnhaaGreatDoor
/-
  Contracts of wire.Reader: Num where it fails, End whatever there is.
-/
namespace Go.Proofs.YtddedghnnkcnhaaGreatDoor
open Go.RowKit
set_option maxRecDepth 100000
set_option linter.unusedVariables false

set_option maxHeartbeats 2000000 in
theorem End_left (g B : Nat) (A : Option Addr) (n c a : Nat) (w : World) (hR : Rd w B g A n c a .nil) (hn : n ≤ 1099511627776) (ha : a < n) :
    Calls Tryz.prog 96 #[.pointer (some ⟨g, 0, none⟩)] w fun e w' => ∃ ev, e = .returned ev ∧ (Err.flt 2 a txtBytes).At w' ev ∧ Below w.heap.size w w' := by
  have HL := Lib.hid (Left_any g B A n c a .nil w hR hn)
  have HRd := Lib.hid hR
  obtain ⟨_, hf, _, ev, hb, he⟩ := hR
  obtain rfl : ev = .nilIface := he
  have hc2 := hb.cell 2
  simp at hc2
  clear hb
  have hpos : (0 : Int) < ((n - a : Nat) : Int) := by omega
  generalize hd : n - a = dd at *
  clear hd
  go_enter Tryz.func96, Tryz.ntmps96
  go_wp2_with fail
  refine HL.out.mono ?_
  rintro e w1 ⟨rfl, hb⟩
  obtain ⟨hc0, hc1⟩ := rd_cells (HRd.out.keep hb)
  have HB := Lib.hid hb
  clear hb
  go_wp2_with fail
  refine (New_err 2 a txtBytes w1).mono ?_
  rintro e w2 ⟨v, rfl, hv, hb2⟩
  have HV := Lib.hid hv
  have HB2 := Lib.hid hb2
  clear hv hb2
  go_wp2_with fail
  go_ret
  exact ⟨_, rfl, HV.out, HB.out.andThen HB2.out⟩
/-- End, whatever there is. -/
theorem End_gen (g B : Nat) (A : Option Addr) (n c a : Nat) (E : Err) (w : World) (hR : Rd w B g A n c a E) (hE : E = .nil ∨ rdBad E) (hn : n ≤ 1099511627776) :
    Calls Tryz.prog 96 #[.pointer (some ⟨g, 0, none⟩)] w fun e w' => ∃ ev, e = .returned ev ∧ Below w.heap.size w w' ∧ ((E = .nil ∧ a = n ∧ ev = .nilIface) ∨ ∃ (E' : Err) (T : TypeId) (x : Value), E'.At w' ev ∧ ev = .iface T x ∧ E' ≠ .nil ∧ (E'.code = 2 ∨ E'.code = 6 ∨ E'.code = 9) ∧ (E = .nil → a < n)) := by
  have han := hR.2.2.1
  rcases hE with rfl | hE
  · by_cases h : a = n
    · subst h
      exact (End_ok g B A a c w hR hn).mono fun e w' ⟨h1, h2⟩ => ⟨_, h1, h2, .inl ⟨rfl, rfl, rfl⟩⟩
    · refine (End_left g B A n c a w hR hn (by omega)).mono fun e w' ⟨ev, h1, h2, h3⟩ => ⟨ev, h1, h3, .inr ?_⟩
      have hne : Err.flt 2 (a : Int) txtBytes ≠ .nil := fun e => by cases e
      obtain ⟨T, x, rfl⟩ := Err.At.iface_ h2 hne
      exact ⟨_, T, x, h2, rfl, hne, .inl rfl, fun _ => by omega⟩
  · refine (End_err g B A n c a E w hR hE.ne).mono fun e w' ⟨T, x, h1, h2, h3⟩ => ?_
    subst h3
    refine ⟨_, h1, Below.refl _ _, .inr ⟨E, T, x, h2, rfl, hE.ne, ?_, fun e => absurd e hE.ne⟩⟩
    obtain ⟨a', s, rfl | rfl⟩ := hE
    · exact .inr (.inr rfl)
    · exact .inr (.inl rfl)
theorem in_code {E : Err} {s : ByteArray} : (E.in_ s).code = E.code := by cases E <;> rfl
theorem in_ne {E : Err} {s : ByteArray} (h : E ≠ .nil) : E.in_ s ≠ .nil := by rw [Err.in_of h]; intro e; cases e
end Go.Proofs.YtddedghnnkcnhaaGreatDoor
/-
  pat.Of: of any bytes.
-/
namespace Go.Proofs.YtddedghnnkcnhaaGreatDoor
open Go.RowKit
set_option maxRecDepth 100000
set_option linter.unusedVariables false

/-- List, whatever the bytes are, in one word. -/
theorem List_uni (g B : Nat) (A : Option Addr) (n c a most : Nat) (E : Err) (l : List Int) (w : World) (hR : Rd w B g A n c a E) (hE : E = .nil ∨ rdBad E) (hn : n ≤ 1099511627776) (hnc : n ≤ c) (hc9 : c ≤ 9223372036854775807) (hl : l.length = n) (hb : Bys l) (hB : ∀ w', Below B w w' → Sl w' 1 A n (l.map (Value.int .u8))) :
    Calls Tryz.prog 95 #[.pointer (some ⟨g, 0, none⟩), .int .i64 (most : Int)] w fun e w' => ∃ v xs a' E', e = .returned v ∧ w'.ownsRow w.heap.size 3 1 v xs.length (xs.map (Value.int .i64)) ∧ Below B w w' ∧ Asd g w w' ∧ Rd w' B g A n c a' E' ∧ (E' = .nil ∨ rdBad E') ∧ (E' = .nil → E = .nil ∧ okAt l a most ∧ xs = lst l a ∧ a' = nxtA l a) ∧ (E = .nil → okAt l a most → E' = .nil) := by
  refine (List_rd g B A n c a most E l w hR hE hn hnc hc9 hl hb hB).mono fun e w' ⟨v, xs, h1, h2, h3, h4, h5⟩ => ?_
  rcases h5 with ⟨k1, k2, k3, k4⟩ | ⟨k1, k2, a', E', k3, k4⟩
  · exact ⟨v, xs, _, .nil, h1, h2, h3, h4, k4, .inl rfl, fun _ => ⟨k1, k2, k3, rfl⟩, fun _ _ => rfl⟩
  · exact ⟨v, xs, a', E', h1, h2, h3, h4, k4, .inr k3, fun e => absurd e k3.ne, fun e1 e2 => absurd e2 (k2 e1)⟩
theorem lst_fits {l : List Int} (hb : Bys l) (a : Nat) : ∀ x ∈ lst l a, fits x := by
  unfold lst
  generalize wordN (l.drop a) = N
  have hb2 := hb.drop (a + 4)
  generalize l.drop (a + 4) = r at hb2 ⊢
  induction N with
  | zero => intro x hx; simp [wordsL] at hx
  | succ N ih =>
    intro x hx
    rw [wordsL] at hx
    rcases List.mem_append.1 hx with h | h
    · exact ih x h
    · rw [List.mem_singleton.1 h]
      have := wordN_lt (hb2.drop (4 * N))
      unfold fits
      omega
theorem pairs_take {xs : List Int} {j : Nat} {x y : Int} (hx : xs[2 * j]? = some x) (hy : xs[2 * j + 1]? = some y) : (pairsL xs)[j]? = some (x, y) := by
  induction j generalizing xs with
  | zero =>
    match xs, hx, hy with
    | a :: b :: r, hx, hy =>
      cases hx
      cases hy
      rfl
  | succ j ih =>
    match xs, hx, hy with
    | a :: b :: r, hx, hy =>
      rw [pairsL, List.getElem?_cons_succ]
      refine ih ?_ ?_
      · rw [show 2 * (j + 1) = 2 * j + 1 + 1 by omega] at hx
        simpa using hx
      · rw [show 2 * (j + 1) + 1 = 2 * j + 1 + 1 + 1 by omega] at hy
        simpa using hy
theorem Sl.newE (w : World) (x y : Value) (e : TypeId) : Sl (w.alloc (.cells #[x, y] e)) 2 (some ⟨w.heap.size, 0, none⟩) 1 [x, y] :=
  ⟨rfl, fun _ => ⟨_, _, rfl, fun j u hu => by rw [Nat.zero_add, World.cell?_alloc_new]; simpa using hu⟩⟩
section
variable {w w' : World} {R : Nat} {cs : Array Value}
theorem Blk.off {g : Nat} {t : TypeId} {cs' : Array Value} (hR : Blk w R 31 cs) (hw : ∀ g, g ≠ R → w'.heap[g]? = w.heap[g]?) (h : Blk w g t cs') (hne : t ≠ 31) : Blk w' g t cs' :=
  (hw g fun e => by
    subst e
    unfold Blk at h hR
    rw [h] at hR
    injection hR with hR
    injection hR with _ h3
    exact hne h3).trans h
/-- An error stays while a pattern's block is written. -/
theorem Err.At.off (hR : Blk w R 31 cs) (hw : ∀ g, g ≠ R → w'.heap[g]? = w.heap[g]?) : ∀ {E : Err} {v : Value}, E.At w v → E.At w' v
  | .nil, _, h => h
  | .flt _ _ _, _, ⟨g, h1, h2⟩ => ⟨g, h1, Blk.off hR hw h2 (by decide)⟩
  | .step _ _, _, ⟨g, v', h1, h2, h3, h4⟩ => ⟨g, v', h1, Blk.off hR hw h2 (by decide), Err.At.off hR hw h3, h4⟩
  | .txt _, _, ⟨g, h1, h2⟩ => ⟨g, h1, Blk.off hR hw h2 (by decide)⟩
end
/-- What Of answers. -/
def OfRes (l : List Int) (w : World) (e : Ending) (w' : World) : Prop :=
  Below w.heap.size w w' ∧ ((∃ (A : Option Addr) (n c : Nat) (B : Option Addr) (m d : Nat) (L : List Int) (E : List (Int × Int)), e = .returned (.tuple #[pv A n c B m d, .nilIface]) ∧ rightP L E ∧ L.length = n ∧ Sl w' 1 A n (L.map (Value.int .i64)) ∧ Sl w' 2 B m (Rk.cells E) ∧ bytesP L E = l ∧ n ≤ c ∧ c ≤ 9223372036854775807) ∨
    (∃ (Er : Err) (T : TypeId) (x : Value), e = .returned (.tuple #[pv none 0 0 none 0 0, .iface T x]) ∧ Er.At w' (.iface T x) ∧ 0 < Er.code ∧ ∀ L E, rightP L E → bytesP L E ≠ l))

set_option maxHeartbeats 16000000 in
theorem PatOf_any (l : List Int) (A : Option Addr) (n c : Nat) (w : World) (hn : n ≤ 100000) (hnc : n ≤ c) (hc9 : c ≤ 9223372036854775807) (hl : l.length = n) (hb : Bys l) (hs : Sl w 1 A n (l.map (Value.int .u8))) :
    Calls Tryz.prog 25 #[.slice A n c] w (OfRes l w) := by
  have HS := Lib.hid hs
  have HBt := Lib.hid hb
  have HL := Lib.hid hl
  have HKR0 := Lib.hid (Blk.new w 31 #[.slice none 0 0, .slice none 0 0])
  have HBk := Lib.hid (show ∀ L E, rightP L E → bytesP L E = l → okAt l 0 n ∧ lst l 0 = L ∧ okAt l (nxtA l 0) n ∧ lst l (nxtA l 0) = endsL E ∧ nxtA l (nxtA l 0) = n from fun L E hr he => by
    have hf := right_fits hr
    have := bytesP_back he.symm hf.1 hf.2.1 (by have := hr.1.1; omega) (by have := right_few hr; omega)
    rwa [hl] at this)
  clear hs hb hl
  go_enter Tryz.func25, Tryz.ntmps25
  go_upto_region 1 with (fail)
  obtain ⟨w0, hw0⟩ : ∃ w0, w0 = w.alloc (.cells #[.slice none 0 0, .slice none 0 0] 31) := ⟨_, rfl⟩
  have hb0 : Below w.heap.size w w0 := by rw [hw0]; exact bel_al (Below.refl _ _) _
  have hsz0 : w0.heap.size = w.heap.size + 1 := by rw [hw0]; simp
  rw [← hw0] at HKR0 ⊢
  have HB0 := Lib.hid hb0
  have HSz0 := Lib.hid hsz0
  clear hw0 hb0 hsz0
  go_upto_region 2 with (go_at_call 94; refine (NewReader_any A n c w0).mono ?_; rintro e w1 ⟨g, rfl, hr, hb1⟩; have HR1 := Lib.hid hr; have HB1 := Lib.hid hb1; clear hr hb1)
  have HLi1 := Lib.hid (List_uni g w0.heap.size A n c 0 n .nil l w1 HR1.out (.inl rfl) (by omega) hnc hc9 HL.out HBt.out (fun W hW => HS.out.keep (HB0.out.andThen (HB1.out.trans hW))))
  have HG1 := Lib.hid (show g < w1.heap.size from by obtain ⟨_, _, _, _, h, _⟩ := HR1.out; exact h.lt)
  go_upto_region 3 with (go_at_call 95; refine HLi1.out.mono ?_; clear HLi1; rintro e w2 ⟨v1, xs1, a1, E1, rfl, hown, hb2, ha2, hr, hE1, hk1, hk2⟩; obtain ⟨A1, c1, rfl, _⟩ := Sl.own hown; have HO1 := Lib.hid hown; have HB2 := Lib.hid (HB1.out.trans hb2); have HA2 := Lib.hid ha2; have HR2 := Lib.hid hr; have HE1 := Lib.hid hE1; have HF1 := Lib.hid (And.intro hk1 hk2); clear hown hb2 ha2 hr hE1 hk1 hk2)
  obtain ⟨z1, hz1⟩ : ∃ z1, z1 = xs1.length := ⟨_, rfl⟩
  have HZ1 := Lib.hid hz1.symm
  rw [← hz1] at HO1 ⊢
  clear hz1
  obtain ⟨w2', hw2'⟩ : ∃ W, W = w2.alloc (.cells #[.slice A1 z1 c1, .slice none 0 0] 31) := ⟨_, rfl⟩
  have hb2' : Below w2.heap.size w2 w2' := by rw [hw2']; exact bel_al (Below.refl _ _) _
  have hsz2 : w2'.heap.size = w2.heap.size + 1 := by rw [hw2']; simp
  have hkp : Blk w2' w2.heap.size 31 #[.slice A1 z1 c1, .slice none 0 0] := by rw [hw2']; exact Blk.new _ _ _
  rw [← hw2']
  have HB2' := Lib.hid hb2'
  have HSz2 := Lib.hid hsz2
  have HKp2 := Lib.hid hkp
  clear hw2' hb2' hsz2 hkp
  have HLi2 := Lib.hid (List_uni g w0.heap.size A n c a1 n E1 l w2' (HR2.out.keep HB2'.out) HE1.out (by omega) hnc hc9 HL.out HBt.out (fun W hW => HS.out.keep (HB0.out.andThen ((HB2.out.trans (HB2'.out.mono HB2.out.size)).trans hW))))
  go_upto_region 4 with (go_at_call 95; refine HLi2.out.mono ?_; clear HLi2; rintro e w3 ⟨v2, xs2, a2, E2, rfl, hown, hb3, ha3, hr, hE2, hk1, hk2⟩; obtain ⟨A2, c2, rfl, _⟩ := Sl.own hown; have HO2 := Lib.hid hown; have HB3 := Lib.hid ((HB2.out.trans (HB2'.out.mono HB2.out.size)).trans hb3); have HA3 := Lib.hid ha3; have HR3 := Lib.hid hr; have HE2 := Lib.hid hE2; have HF2 := Lib.hid (And.intro hk1 hk2); clear hown hb3 ha3 hr hE2 hk1 hk2)
  obtain ⟨z2, hz2⟩ : ∃ z2, z2 = xs2.length := ⟨_, rfl⟩
  have HZ2 := Lib.hid hz2.symm
  rw [← hz2] at HO2 ⊢
  clear hz2
  have HP := Lib.hid (show g < w2.heap.size from Nat.lt_of_lt_of_le HG1.out HA2.out.1)
  have HKp3 := Lib.hid (show Blk w3 w2.heap.size 31 #[.slice A1 z1 c1, .slice none 0 0] from (HA3.out.2 _ (by have := HP.out; omega) HKp2.out.lt).trans HKp2.out)
  have HO13 := Lib.hid (show w3.ownsRow w1.heap.size 3 1 (.slice A1 z1 c1) z1 (xs1.map (Value.int .i64)) from own_block (own_block HO1.out fun g' hg' => HB2'.out.block g' (HO1.out.lt g' hg').2) fun g' hg' => by
    have h1 := HO1.out.lt g' hg'
    have h2 := HG1.out
    have h3 := HSz2.out
    exact HA3.out.2 g' (by omega) (by omega))
  have HEn := Lib.hid (End_gen g w0.heap.size A n c a2 E2 w3 HR3.out HE2.out (by omega))
  go_upto_region 5 with (go_at_call 96; refine HEn.out.mono ?_; clear HEn; rintro e w4 ⟨ev4, rfl, hb4, hd4⟩; have HB4 := Lib.hid hb4; have HD4 := Lib.hid hd4; clear hb4 hd4)
  have HKR := Lib.hid (show Blk w4 w.heap.size 31 #[.slice none 0 0, .slice none 0 0] from (HKR0.out.below HB3.out (by have := HSz0.out; omega)).keep HB4.out)
  have HB4a := Lib.hid (show Below w0.heap.size w0 w4 from HB3.out.andThen HB4.out)
  rcases HD4.out with ⟨rfl, ha2n, rfl⟩ | ⟨E', T, x, he5, rfl, hne5, hc5, hlt5⟩
  · have HOk := Lib.hid (show okAt l 0 n ∧ xs1 = lst l 0 ∧ okAt l (nxtA l 0) n ∧ xs2 = lst l (nxtA l 0) ∧ nxtA l (nxtA l 0) = n from by
      obtain ⟨h1, h2, h3, h4⟩ := HF2.out.1 rfl
      subst h1
      obtain ⟨_, k2, k3, k4⟩ := HF1.out.1 rfl
      subst k4
      exact ⟨k2, k3, h2, h3, by rw [← h4]; exact ha2n⟩)
    clear HD4 ha2n
    by_cases hodd : z2 % 2 = 1
    · have hod1 : (z2 : Int) % 2 = 1 := by omega
      have hod2 : Int.tmod (z2 : Int) 2 = 1 := by rw [Int.tmod_eq_emod_of_nonneg (by omega)]; omega
      have HNo := Lib.hid (show ∀ L E, rightP L E → bytesP L E ≠ l from fun L E hr he => by
        have h := (HBk.out L E hr he).2.2.2.1
        rw [← HOk.out.2.2.2.1] at h
        have h2 := congrArg List.length h
        rw [HZ2.out, endsL_len] at h2
        omega)
      have kr0 := HKR.out.cell 0
      have kr1 := HKR.out.cell 1
      simp at kr0 kr1
      go_wp2_with (go_at_call 98; refine (New_err _ _ _ _).mono ?_; rintro e w5 ⟨v5, rfl, hv5, hb5⟩; obtain ⟨g5, rfl, hk5⟩ := hv5; have HB5 := Lib.hid hb5; have HK5 := Lib.hid hk5; have HKR5 := Lib.hid (HKR.out.keep hb5); have f0 := HKR5.out.frozen 0; have f1 := HKR5.out.frozen 1; have r0 := HKR5.out.cell 0; have r1 := HKR5.out.cell 1; simp at r0 r1; clear hb5 hk5)
      have hx := (HKR5.out.set_ 0 (.slice none 0 0)).set_ 1 (.slice none 0 0)
      have x00 := hx.cell 0
      have x01 := hx.cell 1
      simp at x00 x01
      refine bodyPost_ret (v := .tuple #[pv none 0 0 none 0 0, .iface 145 (.pointer (some ⟨g5, 0, none⟩))]) (by simp [results, Tryz.results25, go_sem, x00, x01]) rfl ?_
      have hne : g5 ≠ w.heap.size := fun e => by
        have h1 := HKR5.out
        have h2 := HK5.out
        rw [e] at h2
        unfold Blk at h1 h2
        rw [h1] at h2
        injection h2 with h2
        injection h2 with _ h3
        exact absurd h3 (by decide)
      exact ⟨((HB0.out.andThen (HB4a.out.andThen HB5.out)).setCell (p := ⟨w.heap.size, 0, none⟩) (Nat.le_refl _) _).setCell (p := ⟨w.heap.size, 1, none⟩) (Nat.le_refl _) _, .inr ⟨.flt 2 0 ⟨#[101, 100, 103, 101, 115]⟩, _, _, rfl, ⟨g5, rfl, (HK5.out.far (p := ⟨w.heap.size, 0, none⟩) hne _).far (p := ⟨w.heap.size, 1, none⟩) hne _⟩, (show (0 : Int) < 2 by decide), HNo.out⟩⟩
    · have hod1 : (z2 : Int) % 2 = 0 := by omega
      have hod2 : Int.tmod (z2 : Int) 2 = 0 := by rw [Int.tmod_eq_emod_of_nonneg (by omega)]; omega
      obtain ⟨K, hK⟩ : ∃ K, z2 = 2 * K := ⟨z2 / 2, by omega⟩
      have HKz := Lib.hid hK
      have HPl := Lib.hid (show (pairsL xs2).length = K from by rw [pairs_len, HZ2.out, hK]; omega)
      have hKb : K ≤ 100000 := by
        have h := (HOk.out.2.2.1).2.1
        have h2 := HOk.out.2.2.2.1
        have h3 := congrArg List.length h2
        unfold lst at h3
        rw [wordsL_len, HZ2.out] at h3
        omega
      have HCap := Lib.hid (own_cap HO2.out)
      have HSl2 := Lib.hid (Sl.of_own HO2.out)
      have HLo2 := Lib.hid (show ∀ b off, A2 = some ⟨b, off, none⟩ → w2.heap.size < b ∧ b < w3.heap.size from fun b off h => by
        subst h
        rcases HO2.out.2 with ⟨h, _⟩ | ⟨g', cap, cur, hv, hg, hh, _⟩
        · cases h
        · injection hv with h1
          injection h1 with h1
          injection h1 with h1
          subst h1
          have := HSz2.out
          refine ⟨by omega, ?_⟩
          rcases Nat.lt_or_ge b w3.heap.size with h | h
          · exact h
          · rw [Array.getElem?_eq_none h] at hh; cases hh)
      have HKp4 := Lib.hid (HKp3.out.keep HB4.out)
      clear hodd hK
      go_wp2_with fail
      go_loopw [6] (fun ev wr => ∃ (j k' : Nat) (Aj : Option Addr) (fv : Value), j ≤ K ∧ ev = .slice Aj (z2 - 2 * j) k' ∧ Hid (j < K → ∃ b off, A2 = some ⟨b, off, none⟩ ∧ Aj = some ⟨b, off + 2 * j, none⟩) ∧ (z2 - 2 * j ≤ k' ∧ k' ≤ 9223372036854775807) ∧ Hid (wr.ownsRow w4.heap.size 121 2 fv j (Rk.cells ((pairsL xs2).take j))) ∧ Hid (Blk wr w2.heap.size 31 #[.slice A1 z1 c1, fv]) ∧ Hid (Asd w2.heap.size w4 wr) ∧ Hid (Below w0.heap.size w0 wr)) (fun ev _ => lenV ev)
      case atStart =>
        refine ⟨0, c2, A2, .slice none 0 0, Nat.zero_le _, by rw [Nat.mul_zero, Nat.sub_zero], Lib.hid fun h => ?_, by rw [Nat.mul_zero, Nat.sub_zero]; exact HCap.out, Lib.hid (World.ownsRow_nil _ _ _ _), HKp4, Lib.hid (Asd.of (Below.refl _ _)), HB4a⟩
        obtain ⟨b, off, hA, _⟩ := HSl2.out.at_ (show 0 < z2 by have := HKz.out; omega)
        exact ⟨b, off, hA, by rw [hA, Nat.mul_zero, Nat.add_zero]⟩
      case round =>
        obtain ⟨j, k', Aj, fv, hj, rfl, HAj, hk', HO, HKp, HAs, HBr⟩ := hrel
        obtain ⟨D, dq, rfl, _⟩ := Sl.own HO.out
        by_cases hlt : j < K
        · obtain ⟨b, off, hA2, rfl⟩ := HAj.out hlt
          have hbb := HLo2.out b off hA2
          have hx2 : 2 * j < xs2.length := by have := HKz.out; rw [HZ2.out]; omega
          have hy2 : 2 * j + 1 < xs2.length := by have := HKz.out; rw [HZ2.out]; omega
          obtain ⟨x, hx⟩ : ∃ x, xs2[2 * j]? = some x := ⟨_, List.getElem?_eq_getElem hx2⟩
          obtain ⟨y, hy⟩ : ∃ y, xs2[2 * j + 1]? = some y := ⟨_, List.getElem?_eq_getElem hy2⟩
          have HPr := Lib.hid (show (pairsL xs2).take (j + 1) = (pairsL xs2).take j ++ [(x, y)] from by
            have h := pairs_take hx hy
            obtain ⟨h1, h2⟩ := List.getElem?_eq_some_iff.1 h
            rw [List.take_succ_eq_append_getElem h1, h2])
          have HC4 := Lib.hid (show w4.cell? ⟨b, off + 2 * j, none⟩ = some (.int .i64 x) ∧ w4.cell? ⟨b, off + 2 * j + 1, none⟩ = some (.int .i64 y) from by
            obtain ⟨b', off', hA', hcc⟩ := (HSl2.out.keep HB4.out).2 (show 0 < z2 by have := HKz.out; omega)
            rw [hA2] at hA'
            cases hA'
            exact ⟨hcc (2 * j) _ (by rw [List.getElem?_map, hx]; rfl), hcc (2 * j + 1) _ (by rw [List.getElem?_map, hy]; rfl)⟩)
          have HSzA := Lib.hid (show w4.heap.size ≤ wr.heap.size from HAs.out.1)
          have HAll := Lib.hid (show ∀ V, Below w4.heap.size wr V → V.cell? ⟨w2.heap.size, 1, none⟩ = some (.slice D j dq) ∧ V.cell? ⟨b, off + 2 * j, none⟩ = some (.int .i64 x) ∧ V.cell? ⟨b, off + 2 * j + 1, none⟩ = some (.int .i64 y) ∧ V.frozen? ⟨w2.heap.size, 1, none⟩ = false ∧ Blk V w2.heap.size 31 #[.slice A1 z1 c1, .slice D j dq] from fun V hV => by
            have hkV := HKp.out.below hV (HKp4.out.lt)
            have k1 := hkV.cell 1
            simp at k1
            have h3 : b < w4.heap.size := Nat.lt_of_lt_of_le hbb.2 HB4.out.size
            exact ⟨k1, (hV.cell (p := ⟨b, off + 2 * j, none⟩) h3).trans (HAs.out.cell HC4.out.1 (by simp; omega)), (hV.cell (p := ⟨b, off + 2 * j + 1, none⟩) h3).trans (HAs.out.cell HC4.out.2 (by simp; omega)), hkV.frozen 1, hkV⟩)
          have hbd := (bel_drewN (Below.refl wr.heap.size wr) 1).mono HSzA.out
          have HBd := Lib.hid hbd
          have HOd := Lib.hid (own_block HO.out (w' := wr.drewN 1) fun g hg => (bel_drewN (Below.refl wr.heap.size wr) 1).block g (HO.out.lt g hg).2)
          have HBs := Lib.hid (show w4.heap.size ≤ (wr.drewN 1).heap.size from HSzA.out)
          obtain ⟨q0, q1, q2, q3, _⟩ := HAll.out wr (Below.refl _ _)
          obtain ⟨p0, p1, p2, p3, _⟩ := HAll.out (wr.alloc (.cells #[.int .i64 x, .int .i64 y] 121)) ((Below.refl _ _).alloc HSzA.out _)
          have h00 : (0 : Int) < ((z2 - 2 * j : Nat) : Int) := by have := HKz.out; omega
          have h01 : (1 : Int) < ((z2 - 2 * j : Nat) : Int) := by have := HKz.out; omega
          have hge2 : (2 : Int) ≤ ((z2 - 2 * j : Nat) : Int) := by have := HKz.out; omega
          have hsub : z2 - 2 * j - 2 = z2 - 2 * (j + 1) := by omega
          have HP4 := Lib.hid (show w2.heap.size < w4.heap.size from HKp4.out.lt)
          generalize hmm : z2 - 2 * j = mm at *
          have HMm := Lib.hid hmm
          have HAj2 := Lib.hid hA2
          clear hx hy hmm hbd hbb hA2
          go_wp2_with fail
          go_region_law
            ((refine step_cat_at elemEdge (.tmp 39) (.tmp 47) (by rfl) (by rfl) (HOd.out.alloc _) (by have := HBs.out; simp at this ⊢; omega) (Sl.newE _ _ _ _) (by rfl) (by rfl) (by simp [Value.oneCell']) (by unfold lim; omega) (by unfold lim; omega) ?_; intro v6 w6 hown6 hgr; obtain ⟨D6, d6, rfl, _⟩ := Sl.own hown6; have HO6 := Lib.hid hown6; have HB6 := Lib.hid ((HBd.out.alloc HBs.out _).trans (hgr.belowOwn (by have := HBs.out; simp at this ⊢; omega) (HOd.out.alloc _))); obtain ⟨q0, q1, q2, q3, hk6⟩ := HAll.out _ HB6.out; have HK6 := Lib.hid hk6; clear hown6 hgr hk6))
          all_goals (
            have HKn := Lib.hid (show Blk (w6.setCell ⟨w2.heap.size, 1, none⟩ (.slice D6 (j + 1) d6)) w2.heap.size 31 #[.slice A1 z1 c1, .slice D6 (j + 1) d6] from by have h := HK6.out.set_ 1 (.slice D6 (j + 1) d6); simpa using h)
            have HOn := Lib.hid (show (w6.setCell ⟨w2.heap.size, 1, none⟩ (.slice D6 (j + 1) d6)).ownsRow w4.heap.size 121 2 (.slice D6 (j + 1) d6) (j + 1) (Rk.cells ((pairsL xs2).take (j + 1))) from by
              rw [HPr.out, Rk.cells_snoc]
              exact own_far2 HO6.out HP4.out _)
            have HAn := Lib.hid (show Asd w2.heap.size w4 (w6.setCell ⟨w2.heap.size, 1, none⟩ (.slice D6 (j + 1) d6)) from Asd.setCell ⟨Nat.le_trans HAs.out.1 HB6.out.size, fun k hk hkl => (HB6.out.block k hkl).trans (HAs.out.2 k hk hkl)⟩ 1 _)
            have HBn := Lib.hid (show Below w0.heap.size w0 (w6.setCell ⟨w2.heap.size, 1, none⟩ (.slice D6 (j + 1) d6)) from (HBr.out.trans (HB6.out.mono HB4a.out.size)).setCell (p := ⟨w2.heap.size, 1, none⟩) HB2.out.size _)
            clear q0 q1 q2 q3 p0 p1 p2 p3
            by_cases hk2 : k' = 2
            · subst hk2
              go_wp2_with fail
              go_roundw
              case rel => exact ⟨j + 1, _, _, _, by omega, rfl, Lib.hid fun h => by have := HMm.out; have := HKz.out; omega, by omega, HOn, HKn, HAn, HBn⟩
              case measure => simp [lenV]; omega
            · go_wp2_with fail
              go_roundw
              case rel => exact ⟨j + 1, _, _, _, by omega, rfl, Lib.hid fun h => ⟨b, off, HAj2.out, by rw [show off + 2 * (j + 1) = off + 2 * j + 2 by omega]⟩, by omega, HOn, HKn, HAn, HBn⟩
              case measure => simp [lenV]; omega)
        · obtain rfl : j = K := by omega
          have hz0 : z2 - 2 * j = 0 := by have := HKz.out; omega
          rw [hz0]
          have hpk := HKp.out.cell 0
          have hpk1 := HKp.out.cell 1
          simp at hpk hpk1
          rw [List.take_of_length_le (by rw [HPl.out]; exact Nat.le_refl _)] at HO
          have hz1 : z1 ≤ 100000 := by
            have h := (HOk.out.1).2.1
            have h2 := congrArg List.length HOk.out.2.1
            unfold lst at h2
            rw [wordsL_len, HZ1.out] at h2
            omega
          have HPR := Lib.hid (show w.heap.size < w2.heap.size from by have h1 := HSz0.out; have h2 := HB2.out.size; omega)
          have HOl := Lib.hid (show wr.ownsRow w1.heap.size 3 1 (.slice A1 z1 c1) z1 (xs1.map (Value.int .i64)) from by
            have h4 := own_block HO13.out (w' := w4) fun g' hg' => HB4.out.block g' (HO13.out.lt g' hg').2
            exact own_block h4 fun g' hg' => HAs.out.2 g' (by have := (HO1.out.lt g' hg').2; omega) (h4.lt g' hg').2)
          have HRt := Lib.hid (PatRight_any xs1 (pairsL xs2) A1 D z1 c1 j dq wr HZ1.out (by omega) (by omega) (Sl.of_own HOl.out) (Sl.of_own HO.out))
          have HKRr := Lib.hid (show Blk wr w.heap.size 31 #[.slice none 0 0, .slice none 0 0] from (HAs.out.2 _ (by have := HPR.out; omega) HKR.out.lt).trans HKR.out)
          have HCap1 := Lib.hid (own_cap HO1.out)
          have HBw := Lib.hid (HB0.out.andThen HBr.out)
          have HRw := Lib.hid (show w.heap.size < w1.heap.size ∧ w.heap.size < w4.heap.size from by have h1 := HSz0.out; have h2 := HB1.out.size; have h3 := HB4a.out.size; omega)
          clear hz1 hz0
          by_cases hR : rightP xs1 (pairsL xs2)
          · have HRn := Lib.hid (right_nil hR HRt.out)
            have HR := Lib.hid hR
            have HBy := Lib.hid (show bytesP xs1 (pairsL xs2) = l from by
              obtain ⟨o1, o2, o3, o4, o5⟩ := HOk.out
              have hev : (lst l (nxtA l 0)).length % 2 = 0 := by rw [← o4, HZ2.out, HKz.out]; omega
              have h := bytesP_read HBt.out o1 o3 (by rw [HL.out]; exact o5) hev
              rw [← o2, ← o4] at h
              exact h)
            clear hR HRt
            go_wp2_with (go_at_call 30; refine HRn.out.mono ?_; clear HRn; rintro e w5 ⟨rfl, hb5⟩; have HB5 := Lib.hid hb5; have HKR5 := Lib.hid (HKRr.out.keep hb5); have f0 := HKR5.out.frozen 0; have f1 := HKR5.out.frozen 1; have r0 := HKR5.out.cell 0; have r1 := HKR5.out.cell 1; have hkp5 := HKp.out.keep hb5; have s0 := hkp5.cell 0; have s1 := hkp5.cell 1; simp at r0 r1 s0 s1; clear hb5 hkp5)
            have hx := (HKR5.out.set_ 0 (.slice A1 z1 c1)).set_ 1 (.slice D j dq)
            have x00 := hx.cell 0
            have x01 := hx.cell 1
            simp at x00 x01
            refine bodyPost_ret (v := .tuple #[pv A1 z1 c1 D j dq, .nilIface]) (by simp [results, Tryz.results25, go_sem, x00, x01]) rfl ?_
            exact ⟨((HBw.out.andThen HB5.out).setCell (p := ⟨w.heap.size, 0, none⟩) (Nat.le_refl _) _).setCell (p := ⟨w.heap.size, 1, none⟩) (Nat.le_refl _) _, .inl ⟨A1, z1, c1, D, j, dq, xs1, pairsL xs2, rfl, HR.out, HZ1.out,
              Sl.of_own (own_far2 (own_far2 (own_block HOl.out fun g' hg' => HB5.out.block g' (HOl.out.lt g' hg').2) HRw.out.1 _) HRw.out.1 _),
              Sl.of_own (own_far2 (own_far2 (own_block HO.out fun g' hg' => HB5.out.block g' (HO.out.lt g' hg').2) HRw.out.2 _) HRw.out.2 _), HBy.out, HCap1.out.1, HCap1.out.2⟩⟩
          · have HRn := Lib.hid (right_bad hR HRt.out)
            have HNo := Lib.hid (show ∀ L E, rightP L E → bytesP L E ≠ l from fun L E hr he => by
              obtain ⟨_, b2, _, b4, _⟩ := HBk.out L E hr he
              obtain ⟨_, o2, _, o4, _⟩ := HOk.out
              rw [← o2] at b2
              rw [← o4] at b4
              rw [b2, b4, pairs_ends] at hR
              exact hR hr)
            clear HRt
            go_wp2_with (go_at_call 30; refine HRn.out.mono ?_; clear HRn; rintro e w5 ⟨g5, cc, at5, s5, rfl, ⟨g6, he6, hk5⟩, hb5, hcc⟩; cases he6; have HB5 := Lib.hid hb5; have HK5 := Lib.hid hk5; have HCc := Lib.hid hcc; have HKR5 := Lib.hid (HKRr.out.keep hb5); have f0 := HKR5.out.frozen 0; have f1 := HKR5.out.frozen 1; have r0 := HKR5.out.cell 0; have r1 := HKR5.out.cell 1; simp at r0 r1; clear hb5 hk5 hcc)
            have hx := (HKR5.out.set_ 0 (.slice none 0 0)).set_ 1 (.slice none 0 0)
            have x00 := hx.cell 0
            have x01 := hx.cell 1
            simp at x00 x01
            refine bodyPost_ret (v := .tuple #[pv none 0 0 none 0 0, .iface 145 (.pointer (some ⟨g5, 0, none⟩))]) (by simp [results, Tryz.results25, go_sem, x00, x01]) rfl ?_
            have hne : g5 ≠ w.heap.size := fun e => by
              have h1 := HKR5.out
              have h2 := HK5.out
              rw [e] at h2
              unfold Blk at h1 h2
              rw [h1] at h2
              injection h2 with h2
              injection h2 with _ h3
              exact absurd h3 (by decide)
            exact ⟨((HBw.out.andThen HB5.out).setCell (p := ⟨w.heap.size, 0, none⟩) (Nat.le_refl _) _).setCell (p := ⟨w.heap.size, 1, none⟩) (Nat.le_refl _) _, .inr ⟨.flt cc at5 s5, _, _, rfl, ⟨g5, rfl, (HK5.out.far (p := ⟨w.heap.size, 0, none⟩) hne _).far (p := ⟨w.heap.size, 1, none⟩) hne _⟩, HCc.out, HNo.out⟩⟩
  · have HIn := Lib.hid (In_any ⟨#[112, 97, 116, 116, 101, 114, 110]⟩ E' _ w4 he5)
    have HNo := Lib.hid (show ∀ L E, rightP L E → bytesP L E ≠ l from fun L E hr he => by
      obtain ⟨b1, b2, b3, b4, b5⟩ := HBk.out L E hr he
      have e1 := HF1.out.2 (by first | rfl | trivial) b1
      obtain ⟨_, _, _, k4⟩ := HF1.out.1 e1
      have e2 := HF2.out.2 e1 (by rw [k4]; exact b3)
      obtain ⟨_, _, _, m4⟩ := HF2.out.1 e2
      have h := hlt5 e2
      rw [m4, k4, b5] at h
      omega)
    have HC5 := Lib.hid (show 0 < (E'.in_ ⟨#[112, 97, 116, 116, 101, 114, 110]⟩).code from by rw [in_code]; rcases hc5 with h | h | h <;> omega)
    have HNe := Lib.hid hne5
    have kr0 := HKR.out.cell 0
    have kr1 := HKR.out.cell 1
    simp at kr0 kr1
    clear he5 hne5 hc5 hlt5
    go_wp2_with (go_at_call 97; refine HIn.out.mono ?_; clear HIn; rintro e w5 ⟨v5, rfl, hv5, hb5⟩; have HV5 := Lib.hid hv5; have HB5 := Lib.hid hb5; have HKR5 := Lib.hid (HKR.out.keep hb5); have f0 := HKR5.out.frozen 0; have f1 := HKR5.out.frozen 1; have r0 := HKR5.out.cell 0; have r1 := HKR5.out.cell 1; simp at r0 r1; clear hb5 hv5)
    obtain ⟨T', x', rfl⟩ := Err.At.iface_ HV5.out (in_ne HNe.out)
    have hx := (HKR5.out.set_ 0 (.slice none 0 0)).set_ 1 (.slice none 0 0)
    have x00 := hx.cell 0
    have x01 := hx.cell 1
    simp at x00 x01
    go_wp2_with fail
    refine bodyPost_ret (v := .tuple #[pv none 0 0 none 0 0, .iface T' x']) (by simp [results, Tryz.results25, go_sem, x00, x01]) rfl ?_
    exact ⟨((HB0.out.andThen (HB4a.out.andThen HB5.out)).setCell (p := ⟨w.heap.size, 0, none⟩) (Nat.le_refl _) _).setCell (p := ⟨w.heap.size, 1, none⟩) (Nat.le_refl _) _, .inr ⟨_, _, _, rfl, Err.At.off HKR5.out (fun g hg => (heap_setCell_other _ ⟨w.heap.size, 1, none⟩ g _ hg).trans (heap_setCell_other _ ⟨w.heap.size, 0, none⟩ g _ hg)) HV5.out, HC5.out, HNo.out⟩⟩
end Go.Proofs.YtddedghnnkcnhaaGreatDoor
