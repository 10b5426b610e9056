/-
  Part 9 of the proof of RankSteps: RankO, RankT, RankQ, RankAt0, RankAt1, RankI.
-/
import Derived.Test.YtmonepclhbappaaDoorRankStepsM8
import Derived.Deep.RegionHeld3
import Derived.Test.YtmonepclhbappaaDoorRankStepsM2
/-
  Ranks: the contract of Of.
-/
namespace Go.Proofs.YtmonepclhbappaaDoor
open Go.RowKit Go.Maps
set_option maxRecDepth 100000
set_option linter.unusedVariables false

def Nums (od : List Rw) : Prop := ∀ r ∈ od, ∀ q ∈ r, numOK q.1 ∧ ∀ b ∈ q.2, numOK b
theorem numOK.ok {x : Int} (h : numOK x) : i64ok x := ⟨by have := h.1; omega, by have := h.2; omega⟩
theorem getD_memO {od : List Rw} {i : Nat} (h : i < od.length) : od.getD i [] ∈ od := by rw [List.getD_eq_getElem?_getD, List.getElem?_eq_getElem h]; exact List.getElem_mem h
theorem Nums.key {od : List Rw} (h : Nums od) {i : Nat} (hi : i < od.length) {a : Int} (ha : a ∈ (od.getD i []).map (·.1)) : i64ok a := by
  obtain ⟨q, hq, rfl⟩ := List.mem_map.1 ha
  exact (h _ (getD_memO hi) q hq).1.ok
theorem Nums.link {od : List Rw} (h : Nums od) {i : Nat} (hi : i < od.length) {a b : Int} (hb : b ∈ lkR (od.getD i []) a) : i64ok b := by
  obtain ⟨q, hq, _, hb⟩ := lkR_mem hb
  exact ((h _ (getD_memO hi) q hq).2 b hb).ok
theorem Closed.link {od : List Rw} (h : Closed od) {i : Nat} (hi : i + 1 < od.length) {a b : Int} (hb : b ∈ lkR (od.getD i []) a) : b ∈ (od.getD (i + 1) []).map (·.1) := by
  obtain ⟨q, hq, _, hb⟩ := lkR_mem hb
  exact h i hi q hq b hb
theorem fit_nn {z : Int} (h0 : 0 ≤ z) (h1 : z ≤ 4611686018427387904) : fitB z = true := by
  unfold fitB
  simp
  omega
theorem keysAt_in {od : List Rw} {i : Nat} (h : i < od.length) : keysAt od (i : Int) = (od.getD i []).map (·.1) := if_pos (by omega)
theorem linksAt_in {od : List Rw} {i : Nat} (h : i < od.length) (a : Int) : linksAt od (i : Int) a = lkR (od.getD i []) a := if_pos (by omega)

/-- Rows behind i are done, of row i the first k numbers. -/
def Don (od : List Rw) (f : Int → Int → Int) (i k : Nat) : Prop :=
  (∀ (j : Nat) (a : Int), i < j → j < od.length → a ∈ (od.getD j []).map (·.1) → f j a = cnt od j a) ∧ ∀ a ∈ ((od.getD i []).map (·.1)).take k, f i a = cnt od i a
theorem Don.step {od : List Rw} {f : Int → Int → Int} {i k : Nat} {a : Int} (h : Don od f i k) (ha : ((od.getD i []).map (·.1))[k]? = some a) : Don od (updF f i a (cnt od i a)) i (k + 1) := by
  refine ⟨fun j b hj hn hb => ?_, fun b hb => ?_⟩
  · unfold updF
    rw [if_neg (by omega)]
    exact h.1 j b hj hn hb
  · unfold updF
    by_cases hba : b = a
    · subst hba
      rw [if_pos ⟨rfl, rfl⟩]
    · rw [if_neg (fun e => hba e.2)]
      refine h.2 b ?_
      obtain ⟨e1, e2⟩ := List.getElem?_eq_some_iff.1 ha
      rw [List.take_succ_eq_append_getElem e1, e2] at hb
      rcases List.mem_append.1 hb with hb | hb
      · exact hb
      · exact absurd (List.mem_singleton.1 hb) hba
def DonR (od : List Rw) (f : Int → Int → Int) (t : Nat) : Prop := ∀ (j : Nat) (a : Int), t ≤ j → j < od.length → a ∈ (od.getD j []).map (·.1) → f j a = cnt od j a
theorem DonR.don {od : List Rw} {f : Int → Int → Int} {i : Nat} (h : DonR od f (i + 1)) : Don od f i 0 := ⟨fun j a hj => h j a hj, fun a ha => by cases ha⟩
theorem Don.donR {od : List Rw} {f : Int → Int → Int} {i k : Nat} (h : Don od f i k) (hk : ((od.getD i []).map (·.1)).length ≤ k) : DonR od f i := fun j a hj hn ha => by
  by_cases e : i = j
  · subst e
    exact h.2 a (by rw [List.take_of_length_le hk]; exact ha)
  · exact h.1 j a (by omega) hn ha

/-- What Of holds while it counts. -/
def RkW (w0 w : World) (q p mb K : Nat) (f : Int → Int → Int) : Prop :=
  Blk w q 121 #[.pointer (some ⟨p, 0, none⟩), .map (some mb), .int .i64 0] ∧ w0.heap.size ≤ mb ∧ w0.heap.size ≤ q ∧ Below w0.heap.size w0 w ∧ ∃ m, m ≤ K ∧ OnMap w mb m f
theorem RkW.keep {w0 w w' : World} {q p mb K : Nat} {f : Int → Int → Int} (h : RkW w0 w q p mb K f) (hb : Below w.heap.size w w') : RkW w0 w' q p mb K f := by
  obtain ⟨h1, h2, h3, h4, m, h5, h6⟩ := h
  exact ⟨h1.keep hb, h2, h3, h4.andThen hb, m, h5, h6.keep hb⟩
theorem RkW.put {w0 w w' : World} {q p mb K m : Nat} {f f' : Int → Int → Int} (h : RkW w0 w q p mb K f) (hM : NC w mb) (hg : w.grownBy w' (some mb)) (hm : m ≤ K) (ho : OnMap w' mb (m + 1) f') : RkW w0 w' q p mb (K + 1) f' := by
  obtain ⟨h1, h2, h3, h4, _⟩ := h
  exact ⟨h1.turned hM hg, h2, h3, bel_turn h4 hg h2 h4.size, m + 1, by omega, ho⟩

theorem RkW.mono {w0 w : World} {q p mb K K' : Nat} {f : Int → Int → Int} (h : RkW w0 w q p mb K f) (hK : K ≤ K') : RkW w0 w q p mb K' f := by
  obtain ⟨h1, h2, h3, h4, m, h5, h6⟩ := h
  exact ⟨h1, h2, h3, h4, m, Nat.le_trans h5 hK, h6⟩
theorem OnMap.other {w w' : World} {b b' n : Nat} {f : Int → Int → Int} (h : OnMap w b n f) (hg : w.grownBy w' (some b')) (hne : b ≠ b') : OnMap w' b n f := by
  obtain ⟨D, h1, h2⟩ := h
  exact ⟨D, World.ownsMap.kept h1 hg (fun e => hne (Option.some.inj e)), h2⟩
/-- The sum of numbers whose ways are known. -/
theorem Sum_known {q mb m : Nat} {pv tv : Value} {f : Int → Int → Int} {row : Int} {l : List Int} {z : Int} (hrow : i64ok row) (hx : ∀ x ∈ l, i64ok x) (hf : ∀ x ∈ l, i64ok (f row x)) (hl : l.length ≤ 1000000) (hz : sumZ (l.map (f row)) = z) (hfit : fitB z = true)
    (A : Option Addr) (c : Nat) (w : World) (hq : Blk w q 121 #[pv, .map (some mb), tv]) (hm : OnMap w mb m f) (hs : Sl w 1 A l.length (l.map (Value.int .i64))) :
    Calls Tryd.prog 67 #[.pointer (some ⟨q, 0, none⟩), .int .i64 row, .slice A l.length c] w fun e w' => e = .returned (.tuple #[.int .i64 z, .nilIface]) ∧ Below w.heap.size w w' :=
  (RankSum_any q pv tv mb m f row l A l.length c w hq hm rfl hl hs hrow hx hf).mono fun e w' ⟨ev, h1, h2, h3⟩ => by
    rw [hz, te_fit hfit] at h2
    rw [hz, tn_fit hfit] at h1
    have h4 : ev = .nilIface := h2
    rw [h4] at h1
    exact ⟨h1, h3⟩

set_option maxHeartbeats 16000000 in
theorem RankOf_any (p n : Nat) (od : List Rw) (w : World) (h : OdM w p od) (hB : OdB 60000 od) (hn : od.length = n) (h1 : 1 ≤ n) (h8 : n ≤ 8) (hN : Nums od) (hC : Closed od) (hF : Fits od) :
    Calls Tryd.prog 30 #[.pointer (some ⟨p, 0, none⟩)] w fun e w' => ∃ q, e = .returned (.tuple #[.pointer (some ⟨q, 0, none⟩), .nilIface]) ∧ RkM w' q p od ∧ Below w.heap.size w w' := by
  have hmm := @run_makeMap Tryd.prog
  have HOd := Lib.hid h
  have HLen := Lib.hid hn
  have HN := Lib.hid hN
  have HC := Lib.hid hC
  have HF := Lib.hid hF
  have HLn := Lib.hid (fun (W : World) (hb : Below w.heap.size w W) => by have := OdLen_any p od W (h.keep hb); rw [hn] at this; exact this)
  have HRow := Lib.hid (fun (i : Nat) (W : World) (hb : Below w.heap.size w W) => OdRow_any p od (i : Int) W (h.keep hb) (fun r hr => (hB r hr).mono (by omega)) (by omega))
  have HLk := Lib.hid (fun (i : Nat) (a : Int) (W : World) (hb : Below w.heap.size w W) (ha : i64ok a) => OdLinks_any p od (i : Int) a W (h.keep hb) (fun r hr => (hB r hr).mono (by omega)) (by omega) ha)
  have HB := Lib.hid (show ∀ i, i < n → ((od.getD i []).map (·.1)).length ≤ 60000 ∧ ∀ a, (lkR (od.getD i []) a).length ≤ 60000 from fun i hi => by
    have := hB _ (getD_memO (show i < od.length by omega))
    exact ⟨by rw [List.length_map]; exact this.1, fun a => lkR_B this a⟩)
  have hw0 : IntKind.i64.wrap ((n : Int) - 1) = (n : Int) - 1 := by rw [IntKind.wrap_i64]; omega
  clear h hB hn hN hC hF
  obtain ⟨mb, hmb⟩ : ∃ mb, mb = w.heap.size := ⟨_, rfl⟩
  obtain ⟨q, hq⟩ : ∃ q, q = mb + 1 := ⟨_, rfl⟩
  have HI := Lib.hid (show RkW w ((w.alloc (.map #[] 0)).alloc (.cells #[.pointer (some ⟨p, 0, none⟩), .map (some mb), .int .i64 0] 121)) q p mb 0 (fun _ _ => 0) from by
    subst hmb hq
    refine ⟨?_, Nat.le_refl _, by omega, bel_al (bel_al (Below.refl _ _) _) _, 0, Nat.le_refl _, (OnMap.made w).keep (bel_al (Below.refl _ _) _)⟩
    have := Blk.new (w.alloc (.map #[] 0)) 121 #[.pointer (some ⟨p, 0, none⟩), .map (some w.heap.size), .int .i64 0]
    rw [World.size_alloc] at this
    exact this)
  go_enter Tryd.func30, Tryd.ntmps30
  go_wp2_with (go_at_call 52; refine (HLn.out _ (bel_al (bel_al (Below.refl _ _) _) _)).mono ?_; rintro e w' ⟨rfl, rfl⟩)
  rw [← hmb, ← hq]
  clear hmb hq hmm hw0
  go_loopw [5] (fun iv wr => ∃ (t : Nat) (f : Int → Int → Int), t ≤ n ∧ (∃ z : Int, z = (t : Int) - 1 ∧ iv = .int .i64 z) ∧ Hid (RkW w wr q p mb ((n - t) * 1000000) f) ∧ Hid (DonR od f t)) (fun iv _ => (intOf iv + 1).toNat)
  case atStart => exact ⟨n, _, Nat.le_refl _, ⟨_, rfl, rfl⟩, by rw [Nat.sub_self, Nat.zero_mul]; exact HI, Lib.hid fun j a h1 h2 => by have := HLen.out; omega⟩
  case round =>
    obtain ⟨t, f, ht, ⟨z, hz, rfl⟩, HR, HD⟩ := hrel
    clear HI
    rcases Nat.eq_zero_or_pos t with h0 | h0
    · subst h0
      obtain rfl : z = -1 := by omega
      clear hz
      have hb := HR.out.2.2.2.1
      have HRw := Lib.hid (HRow.out 0 wr hb)
      rw [keysAt_in (by rw [HLen.out]; omega)] at HRw
      have HRw' := Lib.hid (show Calls Tryd.prog 62 #[.pointer (some ⟨p, 0, none⟩), .int .i64 0] wr _ from HRw.out)
      have hkl := (HB.out 0 (by omega)).1
      have HKn := Lib.hid (fun a ha => HN.out.key (i := 0) (a := a) (by rw [HLen.out]; omega) ha)
      have HFb := Lib.hid (show ∀ b ∈ (od.getD 0 []).map (·.1), f 0 b = cnt od 0 b from fun b hb => HD.out 0 b (Nat.zero_le _) (by rw [HLen.out]; omega) hb)
      have HSum := Lib.hid (show sumZ (((od.getD 0 []).map (·.1)).map (f 0)) = totP od from by rw [totP_sum, List.map_congr_left HFb.out])
      have HFit := Lib.hid (fit_nn (Int.natCast_nonneg _) HF.out.2)
      have HFo := Lib.hid (show ∀ b ∈ (od.getD 0 []).map (·.1), i64ok (f 0 b) from fun b hb => by
        rw [HFb.out b hb]
        have h1 := cnt_nn od 0 b
        have h2 := HF.out.1 0 b (by rw [HLen.out]; omega)
        exact ⟨by omega, by omega⟩)
      have HBl := Lib.hid HR.out.1
      have HQ := Lib.hid HR.out.2.2.1
      have HBe := Lib.hid hb
      obtain ⟨m, hm, hon⟩ := HR.out.2.2.2.2
      have HOn := Lib.hid hon
      obtain ⟨ks, hks⟩ : ∃ ks, ks = (od.getD 0 []).map (·.1) := ⟨_, rfl⟩
      rw [← hks] at HRw' hkl HKn HFb HSum HFo
      have HSm := Lib.hid (Sum_known (q := q) (mb := mb) (m := m) (pv := .pointer (some ⟨p, 0, none⟩)) (tv := .int .i64 0) ⟨by omega, by omega⟩ HKn.out HFo.out (Nat.le_trans hkl (by decide)) HSum.out HFit.out)
      clear HRw hks hb hon hm hkl
      go_wp2_with (first
        | (go_at_call 62; refine HRw'.out.mono ?_; rintro e w2 ⟨v, rfl, hown, hb1⟩; obtain ⟨R2, c2, rfl, hsl⟩ := Sl.own hown; have HS2 := Lib.hid hsl; have HB2 := Lib.hid hb1; clear hown hsl hb1)
        | (go_at_call 67; refine (HSm.out R2 c2 w2 (HBl.out.keep HB2.out) (HOn.out.keep HB2.out) HS2.out).mono ?_; rintro e w3 ⟨rfl, hb⟩; have HB3 := Lib.hid (HB2.out.andThen hb); have fq := (HBl.out.keep HB3.out).frozen 2; have cq := (HBl.out.keep HB3.out).cell 2; simp at cq; clear hb))
      go_ret2
      have h3 := HBl.out.keep HB3.out
      have hne : mb ≠ q := fun e => by
        obtain ⟨o, h4, h5⟩ := (HOn.out.keep HB3.out).isMap
        subst e
        unfold Blk at h3
        rw [h3] at h4
        cases h4
        cases h5
      have hbl := (HBe.out.andThen HB3.out).setCell (p := ⟨q, 2, none⟩) HQ.out (.int .i64 (totP od))
      exact ⟨q, rfl, ⟨mb, m, f, h3.set_ 2 _, (HOn.out.keep HB3.out).other (gb_set _) hne, HOd.out.keep hbl, fun i a hi ha => HD.out i a (Nat.zero_le _) hi ha⟩, hbl⟩
    · obtain ⟨i, rfl⟩ : ∃ i, t = i + 1 := ⟨t - 1, by omega⟩
      obtain rfl : z = (i : Int) := by omega
      clear hz
      have hb := HR.out.2.2.2.1
      have HRw := Lib.hid (HRow.out i wr hb)
      rw [keysAt_in (by rw [HLen.out]; omega)] at HRw
      have hkl := (HB.out i (by omega)).1
      have HKn := Lib.hid (fun a ha => HN.out.key (i := i) (a := a) (by rw [HLen.out]; omega) ha)
      have HDo := Lib.hid HD.out.don
      obtain ⟨ks, hks⟩ : ∃ ks, ks = (od.getD i []).map (·.1) := ⟨_, rfl⟩
      have HKs := Lib.hid hks
      rw [← hks] at HRw hkl HKn
      clear hb hks HD
      have hi0 : (0 : Int) ≤ (i : Int) := by omega
      go_wp2_with (go_at_call 62; refine HRw.out.mono ?_; rintro e w1 ⟨v, rfl, hown, hb1⟩; obtain ⟨R, c, rfl, hsl⟩ := Sl.own hown; have HS := Lib.hid hsl; have HB1 := Lib.hid hb1; clear hown hsl hb1)
      have HR1 := Lib.hid (HR.out.keep HB1.out)
      clear HR HB1 HRw
      go_loopw [30] (fun iv wr => ∃ (k : Nat) (f : Int → Int → Int), k ≤ ks.length ∧ iv = .int .i64 k ∧ Hid (RkW w wr q p mb ((n - (i + 1)) * 1000000 + k) f) ∧ Hid (Don od f i k) ∧ Hid (Sl wr 1 R ks.length (ks.map (Value.int .i64)))) (fun iv _ => ks.length - (intOf iv).toNat)
      case atStart => exact ⟨0, f, Nat.zero_le _, rfl, by rw [Nat.add_zero]; exact HR1, HDo, HS⟩
      case round =>
        clear HR1 HDo HS
        obtain ⟨k, f, hk, rfl, HR, HD, HS⟩ := hrel
        by_cases hlt : k < ks.length
        · have hlt' : (k : Int) < (ks.length : Int) := by omega
          obtain ⟨a, hak⟩ : ∃ a, ks[k]? = some a := ⟨_, List.getElem?_eq_getElem hlt⟩
          have ham : a ∈ ks := List.mem_of_getElem? hak
          have HAo := Lib.hid (HKn.out a ham)
          have HMem := Lib.hid (show a ∈ (od.getD i []).map (·.1) from HKs.out ▸ ham)
          obtain ⟨rb, ro, rfl, hcell⟩ := HS.out.i64 rfl hlt
          have hE : ks[k] = a := (List.getElem?_eq_some_iff.1 hak).2
          rw [hE] at hcell
          have HStep := Lib.hid (HD.out.step (HKs.out ▸ hak))
          have HBl := Lib.hid HR.out.1
          have HBe := Lib.hid HR.out.2.2.2.1
          obtain ⟨m, hm, hon⟩ := HR.out.2.2.2.2
          have HM := Lib.hid hm
          have HOn := Lib.hid hon
          clear hak ham hm hon hE
          by_cases hin : i + 1 < n
          · have g1 : (i : Int) + 1 < (n : Int) := by omega
            have g2 : IntKind.i64.wrap ((i : Int) + 1) = (i : Int) + 1 := by rw [IntKind.wrap_i64]; omega
            have HCl := Lib.hid (fun b hb => HC.out.link (i := i) (a := a) (b := b) (by rw [HLen.out]; exact hin) hb)
            have HNl := Lib.hid (fun b hb => HN.out.link (i := i) (a := a) (b := b) (by rw [HLen.out]; omega) hb)
            have HFb := Lib.hid (show ∀ b ∈ lkR (od.getD i []) a, f ((i : Int) + 1) b = cnt od (i + 1) b from fun b hb => HD.out.1 (i + 1) b (by omega) (by rw [HLen.out]; exact hin) (HCl.out b hb))
            have HSum := Lib.hid (show sumZ ((lkR (od.getD i []) a).map (f ((i : Int) + 1))) = cnt od i a from by rw [cnt_step (by rw [HLen.out]; exact hin), List.map_congr_left HFb.out])
            have HFit := Lib.hid (fit_nn (cnt_nn od i a) (HF.out.1 i a (by rw [HLen.out]; omega)))
            have HFo := Lib.hid (show ∀ b ∈ lkR (od.getD i []) a, i64ok (f ((i : Int) + 1) b) from fun b hb => by
              rw [HFb.out b hb]
              have h1 := cnt_nn od (i + 1) b
              have h2 := HF.out.1 (i + 1) b (by rw [HLen.out]; exact hin)
              exact ⟨by omega, by omega⟩)
            have HLb := Lib.hid (Nat.le_trans ((HB.out i (by omega)).2 a) (show 60000 ≤ 1000000 by decide))
            have HLi := Lib.hid (HLk.out i a wr HBe.out HAo.out)
            rw [linksAt_in (by rw [HLen.out]; omega)] at HLi
            obtain ⟨l, hl⟩ : ∃ l, l = lkR (od.getD i []) a := ⟨_, rfl⟩
            rw [← hl] at HLi HLb HFo HSum HFb HNl HCl
            have HSm := Lib.hid (Sum_known (q := q) (mb := mb) (m := m) (pv := .pointer (some ⟨p, 0, none⟩)) (tv := .int .i64 0) ⟨by omega, by omega⟩ HNl.out HFo.out HLb.out HSum.out HFit.out)
            clear hl HCl HFb
            go_wp2_with (first
              | (go_at_call 52; refine (HLn.out _ HBe.out).mono ?_; rintro e w' ⟨rfl, rfl⟩)
              | (go_at_call 68; refine HLi.out.mono ?_; rintro e w2 ⟨v, rfl, hown, hb1⟩; obtain ⟨R2, c2, rfl, hsl⟩ := Sl.own hown; have HS2 := Lib.hid hsl; have HB2 := Lib.hid hb1; clear hown hsl hb1)
              | (go_at_call 67; refine (HSm.out R2 c2 w2 (HBl.out.keep HB2.out) (HOn.out.keep HB2.out) HS2.out).mono ?_; rintro e w3 ⟨rfl, hb⟩; have HB3 := Lib.hid (HB2.out.andThen hb); have cq := (HBl.out.keep HB3.out).cell 1; simp at cq; clear hb)
              | (at_mapUpdate; refine wpList_putS _ rfl _ _ _ rfl mb m f rfl (HOn.out.keep HB3.out) (by have := HM.out; unfold maxLen; omega) i a (cnt od i a) rfl rfl ⟨by omega, by omega⟩ HAo.out ?_; intro w4 hM hg; have HM4 := Lib.hid hM; have HG4 := Lib.hid hg; clear hM hg))
            go_roundw
            case rel => exact ⟨k + 1, _, by omega, by go_num, by rw [← Nat.add_assoc]; exact Lib.hid ((HR.out.keep HB3.out).put (HOn.out.keep HB3.out).isMap HG4.out HM.out HM4.out), HStep, Lib.hid ((HS.out.keep HB3.out).turned (HOn.out.keep HB3.out).isMap HG4.out)⟩
            case measure => simp [intOf]; omega
          · have hi : i + 1 = n := by omega
            have g1 : ¬ (i : Int) + 1 < (n : Int) := by omega
            have g2 : IntKind.i64.wrap ((i : Int) + 1) = (i : Int) + 1 := by rw [IntKind.wrap_i64]; omega
            rw [cnt_last (by rw [HLen.out]; exact hi) a] at HStep
            have cq := HBl.out.cell 1
            simp at cq
            clear hi
            go_wp2_with (first
              | (go_at_call 52; refine (HLn.out _ HBe.out).mono ?_; rintro e w' ⟨rfl, rfl⟩)
              | (at_mapUpdate; refine wpList_putS _ rfl _ _ _ rfl mb m f rfl HOn.out (by have := HM.out; unfold maxLen; omega) i a 1 rfl rfl ⟨by omega, by omega⟩ HAo.out ?_; intro w4 hM hg; have HM4 := Lib.hid hM; have HG4 := Lib.hid hg; clear hM hg))
            go_roundw
            case rel => exact ⟨k + 1, _, by omega, by go_num, by rw [← Nat.add_assoc]; exact Lib.hid (HR.out.put HOn.out.isMap HG4.out HM.out HM4.out), HStep, Lib.hid (HS.out.turned HOn.out.isMap HG4.out)⟩
            case measure => simp [intOf]; omega
        · obtain rfl : k = ks.length := by omega
          have hlt' : ¬ (ks.length : Int) < (ks.length : Int) := by omega
          have g2 : IntKind.i64.wrap ((i : Int) - 1) = (i : Int) - 1 := by rw [IntKind.wrap_i64]; omega
          have HDn := Lib.hid (HD.out.donR (by rw [← HKs.out]; exact Nat.le_refl _))
          go_wp2_with fail
          go_roundw
          case rel => exact ⟨i, f, by omega, ⟨_, rfl, rfl⟩, Lib.hid (HR.out.mono (by omega)), HDn⟩
          case measure => simp [intOf]
end Go.Proofs.YtmonepclhbappaaDoor
/-
  Ranks: the contracts of next, At.
-/
namespace Go.Proofs.YtmonepclhbappaaDoor
open Go.RowKit Go.Maps
set_option maxRecDepth 100000
set_option linter.unusedVariables false

/-- What may come behind a path's beginning. -/
def nextL (od : List Rw) (l : List Int) : List Int := if l = [] then keysAt od 0 else linksAt od ((l.length : Int) - 1) (l.getD (l.length - 1) 0)

set_option maxHeartbeats 4000000 in
theorem Next_any (q p : Nat) (od : List Rw) (l : List Int) (A : Option Addr) (n c : Nat) (w : World) (h : RkM w q p od) (hB : OdB 60000 od) (h8 : od.length ≤ 100) (hl : l.length = n) (hn : n ≤ 1000000) (hs : Sl w 1 A n (l.map (Value.int .i64))) (hx : ∀ x ∈ l, i64ok x) :
    Calls Tryd.prog 73 #[.pointer (some ⟨q, 0, none⟩), .slice A n c] w fun e w' => ∃ v, e = .returned v ∧ w'.ownsRow w.heap.size 3 1 v (nextL od l).length ((nextL od l).map (Value.int .i64)) ∧ Below w.heap.size w w' := by
  obtain ⟨mb, m, f, hq, _, hod, _⟩ := h
  have c0 := hq.cell 0
  simp at c0
  by_cases h0 : n = 0
  · subst h0
    have hE : nextL od l = keysAt od 0 := if_pos (List.eq_nil_of_length_eq_zero hl)
    have HRw := Lib.hid (OdRow_any p od 0 w hod (fun r hr => (hB r hr).mono (by omega)) h8)
    rw [hE]
    clear hq hod hE hs hx hl hB h8 hn
    go_enter Tryd.func73, Tryd.ntmps73
    go_wp2_with (go_at_call 62; refine HRw.out.mono ?_; clear HRw; rintro e w1 ⟨v, rfl, hown, hb⟩; have HO := Lib.hid hown; have HB1 := Lib.hid hb; clear hown hb)
    go_ret
    exact ⟨_, rfl, HO.out, HB1.out⟩
  · obtain ⟨k, hk⟩ : ∃ k, n = k + 1 := ⟨n - 1, by omega⟩
    have hlk : k < l.length := by omega
    obtain ⟨b, off, rfl, hc⟩ := hs.i64 hl (show k < n by omega)
    obtain ⟨x, hxk⟩ : ∃ x, l[k] = x := ⟨_, rfl⟩
    have hxo := hx x (by rw [← hxk]; exact List.getElem_mem hlk)
    rw [hxk] at hc
    have hE : nextL od l = linksAt od (k : Int) x := by
      unfold nextL
      rw [if_neg (fun e => by rw [e] at hlk; cases hlk), hl, hk, List.getD_eq_getElem?_getD, show k + 1 - 1 = k from rfl, List.getElem?_eq_getElem hlk, hxk, show (((k + 1 : Nat) : Int) - 1) = (k : Int) by omega]
      rfl
    have HLi := Lib.hid (OdLinks_any p od (k : Int) x w.drew (hod.keep (bel_drewN (Below.refl _ _) 1)) (fun r hr => (hB r hr).mono (by omega)) h8 hxo)
    rw [hE]
    have hw : IntKind.i64.wrap ((n : Int) - 1) = (k : Int) := by rw [IntKind.wrap_i64]; omega
    have g1 : (0 : Int) ≤ (k : Int) := by omega
    have g2 : (k : Int) < (n : Int) := by omega
    have g3 : ¬ (n : Int) = 0 := by omega
    have g4 : ((n : Int) == 0) = false := by simpa using g3
    have HKc := Lib.hid (show ∀ W, Below w.drew.heap.size w.drew W → W.cell? ⟨q, 0, none⟩ = some (.pointer (some ⟨p, 0, none⟩)) ∧ W.cell? ⟨b, off + k, none⟩ = some (.int .i64 x) from fun W hb => ⟨(hb.cell (p := ⟨q, 0, none⟩) (World.block_lt_of_cell? w _ c0)).trans c0, (hb.cell (p := ⟨b, off + k, none⟩) (World.block_lt_of_cell? w _ hc)).trans hc⟩)
    clear hq hod hE hs hx hl hB h8 hn hk hlk hxk hxo h0
    go_enter Tryd.func73, Tryd.ntmps73
    go_wp2_with fail
    go_region_held3 (fun w' => w'.cell? ⟨q, 0, none⟩ = some (.pointer (some ⟨p, 0, none⟩)) ∧ w'.cell? ⟨b, off + k, none⟩ = some (.int .i64 x)) (go_keep)
      ((go_at_call 68; refine HLi.out.mono ?_; clear HLi; rintro e' w3 ⟨v, rfl, hown, hb⟩; have zz := HKc.out _ hb; have HO := Lib.hid hown; have HB1 := Lib.hid hb; clear hown hb))
    go_wp2_with fail
    go_ret
    exact ⟨_, rfl, HO.out, (bel_drewN (Below.refl w.heap.size w) 1).andThen HB1.out⟩
end Go.Proofs.YtmonepclhbappaaDoor
/-
  Ranks plainly: which path a rank picks, step by step.
-/
namespace Go.Proofs.YtmonepclhbappaaDoor
open Go.RowKit
set_option linter.unusedVariables false

/-- What may still come behind a beginning. -/
def sfx (od : List Rw) (l : List Int) : List (List Int) := (nextL od l).flatMap (tls (od.drop l.length))
theorem tls_last {od : List Rw} {i : Nat} (h : i + 1 = od.length) (a : Int) : tls (od.drop i) a = [[a]] := by rw [drop_one h]; rfl
theorem tls_step {od : List Rw} {i : Nat} (h : i + 1 < od.length) (a : Int) : tls (od.drop i) a = ((lkR (od.getD i []) a).flatMap (tls (od.drop (i + 1)))).map (a :: ·) := by
  obtain ⟨r2, rs, h1, h2⟩ := drop_two h
  rw [h1, h2, List.map_flatMap]
  rfl
theorem nextL_nil (od : List Rw) : nextL od [] = keysAt od 0 := if_pos rfl
theorem nextL_snoc (od : List Rw) (l : List Int) (a : Int) : nextL od (l ++ [a]) = linksAt od (l.length : Int) a := by
  unfold nextL
  rw [if_neg (by simp)]
  have e1 : (((l ++ [a]).length : Int) - 1) = (l.length : Int) := by rw [List.length_append]; simp
  have e2 : (l ++ [a]).getD ((l ++ [a]).length - 1) 0 = a := by
    rw [List.getD_eq_getElem?_getD, List.length_append]
    simp
  rw [e1, e2]
theorem sfx_snoc {od : List Rw} {l : List Int} (h : l.length + 1 < od.length) (a : Int) : tls (od.drop l.length) a = (sfx od (l ++ [a])).map (a :: ·) := by
  unfold sfx
  rw [tls_step h, nextL_snoc, linksAt_in (by omega), List.length_append]
  rfl
theorem sfx_nil {od : List Rw} (h : 1 ≤ od.length) : sfx od [] = allP od := by
  unfold sfx allP
  rw [nextL_nil, List.length_nil, List.drop_zero]
  have := keysAt_in (od := od) (i := 0) (by omega)
  rw [show ((0 : Nat) : Int) = 0 from rfl] at this
  rw [this]
/-- The path of a rank: a beginning, what is left of the rank. -/
def Leads (od : List Rw) (n : Nat) (P : List Int) (l : List Int) (k : Nat) : Prop := ∃ s, (sfx od l)[k]? = some s ∧ P = l ++ s
/-- .. while the numbers behind a beginning are gone through. -/
def LeadsIn (od : List Rw) (P : List Int) (l : List Int) (left : List Int) (k : Nat) : Prop := ∃ s, (left.flatMap (tls (od.drop l.length)))[k]? = some s ∧ P = l ++ s
theorem Leads.begin {od : List Rw} {n : Nat} {P l : List Int} {k : Nat} (h : Leads od n P l k) : LeadsIn od P l (nextL od l) k := h
theorem LeadsIn.skip {od : List Rw} {P l left : List Int} {a : Int} {k : Nat} (h : LeadsIn od P l (a :: left) k) (hk : (cnt od l.length a) ≤ (k : Int)) : LeadsIn od P l left (k - (cnt od l.length a).toNat) := by
  obtain ⟨s, h1, h2⟩ := h
  refine ⟨s, ?_, h2⟩
  unfold cnt at hk ⊢
  rw [List.flatMap_cons, List.getElem?_append_right (by omega)] at h1
  exact h1
theorem LeadsIn.left {od : List Rw} {P l left : List Int} {k : Nat} (h : LeadsIn od P l left k) : left ≠ [] := fun e => by
  obtain ⟨s, h1, _⟩ := h
  rw [e] at h1
  cases h1
theorem LeadsIn.pick {od : List Rw} {P l left : List Int} {a : Int} {k : Nat} (h : LeadsIn od P l (a :: left) k) (hl : l.length + 1 < od.length) (hk : (k : Int) < cnt od l.length a) (n : Nat) : Leads od n P (l ++ [a]) k := by
  obtain ⟨s, h1, h2⟩ := h
  unfold cnt at hk
  rw [List.flatMap_cons, List.getElem?_append_left (by omega), sfx_snoc hl, List.getElem?_map] at h1
  obtain ⟨s', h3, rfl⟩ := Option.map_eq_some_iff.1 h1
  exact ⟨s', h3, by rw [h2, List.append_assoc]; rfl⟩
theorem LeadsIn.last {od : List Rw} {P l left : List Int} {a : Int} {k : Nat} (h : LeadsIn od P l (a :: left) k) (hl : l.length + 1 = od.length) (hk : (k : Int) < cnt od l.length a) : P = l ++ [a] := by
  obtain ⟨s, h1, h2⟩ := h
  unfold cnt at hk
  rw [List.flatMap_cons, List.getElem?_append_left (by omega), tls_last hl] at h1
  rw [h2, List.mem_singleton.1 (List.mem_of_getElem? h1)]
end Go.Proofs.YtmonepclhbappaaDoor
/-
  Ranks: the contract of At. (In work.)
-/
namespace Go.Proofs.YtmonepclhbappaaDoor
open Go.RowKit Go.Maps
set_option maxRecDepth 100000
set_option linter.unusedVariables false

theorem next_keys {od : List Rw} {l : List Int} (hC : Closed od) (hl : l.length < od.length) : ∀ x ∈ nextL od l, x ∈ (od.getD l.length []).map (·.1) := fun x hx => by
  unfold nextL at hx
  by_cases h : l = []
  · rw [if_pos h, show (0 : Int) = ((0 : Nat) : Int) from rfl, keysAt_in (by omega)] at hx
    rw [h]
    exact hx
  · rw [if_neg h] at hx
    have hp : 0 < l.length := List.length_pos_iff.2 h
    have e : ((l.length : Int) - 1) = ((l.length - 1 : Nat) : Int) := by omega
    rw [e, linksAt_in (by omega)] at hx
    have := hC.link (i := l.length - 1) (by omega) hx
    rw [show l.length - 1 + 1 = l.length by omega] at this
    exact this

set_option maxHeartbeats 16000000 in
theorem At_ok (q p N k0 : Nat) (P : List Int) (od : List Rw) (w : World) (h : RkM w q p od) (hB : OdB 60000 od) (hN : od.length = N) (h1 : 1 ≤ N) (h8 : N ≤ 8) (hNu : Nums od) (hC : Closed od) (hF : Fits od) (hP : (allP od)[k0]? = some P) (hPl : P.length = N) :
    Calls Tryd.prog 38 #[.pointer (some ⟨q, 0, none⟩), .int .i64 (k0 : Int)] w fun e w' => ∃ v, e = .returned (.tuple #[v, .nilIface]) ∧ w'.ownsRow w.heap.size 3 1 v N (P.map (Value.int .i64)) ∧ Below w.heap.size w w' := by
  obtain ⟨mb, m, f, hq, hm, hod, hf⟩ := h
  have hk0 : (k0 : Int) < totP od := by unfold totP; have := (List.getElem?_eq_some_iff.1 hP).1; omega
  have hk1 : ¬ totP od ≤ (k0 : Int) := by omega
  have hk2 : ¬ (k0 : Int) < 0 := by omega
  have c0 := hq.cell 0
  have c1 := hq.cell 1
  have c2 := hq.cell 2
  simp at c0 c1 c2
  have HQ := Lib.hid hq
  have HM := Lib.hid hm
  have HK := Lib.hid (show RkM w q p od from ⟨mb, m, f, hq, hm, hod, hf⟩)
  have HOd := Lib.hid hod
  have HFn := Lib.hid hf
  have HBo := Lib.hid hB
  have HLen := Lib.hid hN
  have HNu := Lib.hid hNu
  have HC := Lib.hid hC
  have HF := Lib.hid hF
  have HP := Lib.hid hP
  have HPl := Lib.hid hPl
  have HKb := Lib.hid (show (k0 : Int) < 4611686018427387904 from by have := hF.2; omega)
  have hL0 : Leads od k0 P [] k0 := ⟨P, by rw [sfx_nil (by omega)]; exact hP, rfl⟩
  have HL0 := Lib.hid hL0
  clear hq hm hod hf hB hN hNu hC hF hP hPl hL0 hk0
  go_enter Tryd.func38, Tryd.ntmps38
  go_wp2_with fail
  go_loopw [1, 6] (fun nv lv wr => ∃ (l : List Int) (k : Nat), nv = .int .i64 (k : Int) ∧ l.length ≤ N ∧ Hid (wr.ownsRow w.heap.size 3 1 lv l.length (l.map (Value.int .i64))) ∧ Hid (Below w.heap.size w wr) ∧ Hid (k ≤ k0 ∧ ((l.length < N ∧ Leads od k0 P l k) ∨ (l.length = N ∧ l = P))) ∧ Hid (∀ x ∈ l, i64ok x)) (fun _ lv _ => N - lenV lv)
  case atStart => exact ⟨[], k0, rfl, Nat.zero_le _, Lib.hid (World.ownsRow_nil _ _ _ _), Lib.hid (Below.refl _ _), Lib.hid ⟨Nat.le_refl _, .inl ⟨by simp; omega, HL0.out⟩⟩, Lib.hid fun x hx => by cases hx⟩
  case round =>
    obtain ⟨l, k, rfl, hll, HO, HB, HL, HX⟩ := hrel
    obtain ⟨A, c, rfl, hsl⟩ := Sl.own HO.out
    have d0 := (HQ.out.keep HB.out).cell 0
    have d1 := (HQ.out.keep HB.out).cell 1
    simp at d0 d1
    have HLn := Lib.hid (OdLen_any p od wr (HOd.out.keep HB.out))
    rw [HLen.out] at HLn
    clear c0 c1 c2
    by_cases hlt : l.length < N
    · have hlt' : (l.length : Int) < (N : Int) := by omega
      have HNx := Lib.hid (Next_any q p od l A l.length c wr (HK.out.keep HB.out) HBo.out (by rw [HLen.out]; omega) rfl (by omega) hsl HX.out)
      obtain ⟨nx, hnx⟩ : ∃ nx, nx = nextL od l := ⟨_, rfl⟩
      rw [← hnx] at HNx
      have HNe := Lib.hid hnx
      clear hnx hsl
      go_wp2_with (first
        | (go_at_call 52; refine HLn.out.mono ?_; rintro e w1 ⟨rfl, rfl⟩)
        | (go_at_call 73; refine HNx.out.mono ?_; rintro e w1 ⟨v, rfl, hown, hb⟩; obtain ⟨A2, c2, rfl, hs2⟩ := Sl.own hown; have HCap := Lib.hid (own_cap hown); have HS2 := Lib.hid hs2; have HB1 := Lib.hid hb; clear hown hb hs2))
      have HOw := Lib.hid (own_block HO.out fun g hg => HB1.out.block g (HO.out.lt g hg).2)
      have HBw := Lib.hid (HB.out.andThen HB1.out)
      have e1 := (HQ.out.keep HBw.out).cell 1
      simp at e1
      have HMw := Lib.hid (HM.out.keep HBw.out)
      have HLd := Lib.hid (show Leads od k0 P l k from by
        rcases HL.out.2 with ⟨_, h⟩ | ⟨h, _⟩
        · exact h
        · omega)
      have HKk := Lib.hid HL.out.1
      have HKy := Lib.hid (show ∀ x ∈ nx, i64ok x ∧ f (l.length : Int) x = cnt od l.length x from fun x hx => by
        rw [HNe.out] at hx
        have := next_keys HC.out (by rw [HLen.out]; exact hlt) x hx
        exact ⟨HNu.out.key (by rw [HLen.out]; exact hlt) this, HFn.out l.length x (by rw [HLen.out]; exact hlt) this⟩)
      clear HNx d0 d1 HL HO HB HB1 HLn
      go_loop [1, 6, 38] (fun nv lv iv => ∃ (j k : Nat), j ≤ nx.length ∧ lv = .slice A l.length c ∧ iv = .int .i64 (j : Int) ∧ nv = .int .i64 (k : Int) ∧ Hid (LeadsIn od P l (nx.drop j) k ∧ k ≤ k0)) (fun _ _ iv => nx.length - (intOf iv).toNat)
      case atStart => exact ⟨0, k, Nat.zero_le _, rfl, rfl, rfl, Lib.hid ⟨by rw [List.drop_zero, HNe.out]; exact HLd.out, HKk.out⟩⟩
      case round =>
        obtain ⟨j, k, hj, rfl, rfl, rfl, HLi⟩ := hrel
        by_cases hjn : j < nx.length
        · have hjn' : (j : Int) < (nx.length : Int) := by omega
          obtain ⟨a, ha⟩ : ∃ a, nx[j] = a := ⟨_, rfl⟩
          obtain ⟨b2, o2, rfl, hc⟩ := HS2.out.i64 rfl hjn
          rw [ha] at hc
          have hmem : a ∈ nx := by rw [← ha]; exact List.getElem_mem hjn
          have HA := Lib.hid (HKy.out a hmem)
          have hd : nx.drop j = a :: nx.drop (j + 1) := by rw [List.drop_eq_getElem_cons hjn, ha]
          have HLj := Lib.hid (show LeadsIn od P l (a :: nx.drop (j + 1)) k from hd ▸ HLi.out.1)
          have HKj := Lib.hid HLi.out.2
          obtain ⟨on, hon⟩ : ∃ on : Nat, cnt od l.length a = (on : Int) := ⟨_, rfl⟩
          have HOn := Lib.hid hon
          have HFa := Lib.hid (show f (l.length : Int) a = (on : Int) from HA.out.2.trans hon)
          clear hd ha hmem hon HLi
          by_cases hk : k < on
          · have hk' : (k : Int) < (on : Int) := by omega
            go_wp2_with (first
              | (refine wpList_lookS _ rfl _ _ rfl mb m f (by go_simp) HMw.out (l.length : Int) a (by go_simp) ⟨by omega, by omega⟩ HA.out.1 ?_; rw [HFa.out])
              | (at_builtin; go_loud (refine wpList_push elemInt _ _ rfl rfl HOw.out HBw.out (Nat.le_refl _) rfl rfl rfl (by simp [Value.oneCell']) (by unfold lim; omega) (by unfold lim; omega) ?_); intro v' w2 hown2 hb2; have HO2 := Lib.hid hown2; have HB2 := Lib.hid hb2; clear hown2 hb2))
            go_roundw
            case rel =>
              refine ⟨l ++ [a], k, rfl, by rw [List.length_append]; simp; omega, ?_, HB2, Lib.hid ⟨HKj.out, ?_⟩, Lib.hid fun x hx => ?_⟩
              · have := HO2
                rw [List.length_append, List.map_append]
                exact this
              · by_cases hlN : l.length + 1 < N
                · exact .inl ⟨by rw [List.length_append]; simp; omega, HLj.out.pick (by rw [HLen.out]; exact hlN) (by rw [HOn.out]; omega) k0⟩
                · exact .inr ⟨by rw [List.length_append]; simp; omega, (HLj.out.last (by rw [HLen.out]; omega) (by rw [HOn.out]; omega)).symm⟩
              · rcases List.mem_append.1 hx with hx | hx
                · exact HX.out x hx
                · rw [List.mem_singleton.1 hx]
                  exact HA.out.1
            case measure =>
              obtain ⟨C, cc, rfl, _⟩ := Sl.own HO2.out
              simp [lenV]
              omega
          · have hk' : ¬ (k : Int) < (on : Int) := by omega
            have hjw : IntKind.i64.wrap ((j : Int) + 1) = (j : Int) + 1 := by rw [IntKind.wrap_i64]; have := HCap.out; omega
            have hkn : ((k - on : Nat) : Int) = (k : Int) - (on : Int) := by omega
            have hw : IntKind.i64.wrap ((k : Int) - (on : Int)) = (k : Int) - (on : Int) := by rw [IntKind.wrap_i64]; have := HKj.out; have := HKb.out; omega
            go_wp2_with (refine wpList_lookS _ rfl _ _ rfl mb m f (by go_simp) HMw.out (l.length : Int) a (by go_simp) ⟨by omega, by omega⟩ HA.out.1 ?_; rw [HFa.out])
            go_round
            case rel => exact ⟨j + 1, k - on, by omega, rfl, by go_num, by rw [hkn], Lib.hid ⟨by have := HLj.out.skip (by rw [HOn.out]; omega); rw [HOn.out] at this; exact this, by have := HKj.out; omega⟩⟩
            case measure => simp [intOf]; omega
        · exact absurd (List.drop_eq_nil_of_le (by omega)) HLi.out.1.left
    · obtain hE : l.length = N := by omega
      have hlt' : ¬ (l.length : Int) < (N : Int) := by omega
      go_wp2_with (go_at_call 52; refine HLn.out.mono ?_; rintro e w1 ⟨rfl, rfl⟩)
      go_ret2
      rcases HL.out.2 with ⟨h2, _⟩ | ⟨h2, h3⟩
      · omega
      · have := HO.out
        rw [h3] at this
        rw [HPl.out] at this
        exact ⟨_, rfl, this, HB.out⟩
end Go.Proofs.YtmonepclhbappaaDoor
/-
  Ranks: At where there is no such rank, At and Rank of nothing.
-/
namespace Go.Proofs.YtmonepclhbappaaDoor
open Go.RowKit Go.Maps
set_option maxRecDepth 100000
set_option linter.unusedVariables false

theorem At_nil (n : Int) (w : World) : Calls Tryd.prog 38 #[.pointer none, .int .i64 n] w fun e w' => ∃ ev, e = .returned (.tuple #[.slice none 0 0, ev]) ∧ (Err.flt 10 0 ⟨#[114, 97, 110, 107, 115]⟩).At w' ev ∧ Below w.heap.size w w' := by
  go_enter Tryd.func38, Tryd.ntmps38
  go_wp2_with (go_at_call 44; refine (New_err _ _ _ _).mono ?_; rintro e w' ⟨v, rfl, hv, hb⟩; have HV := Lib.hid hv; have HB := Lib.hid hb; clear hv hb)
  go_ret2
  exact ⟨_, rfl, HV.out, HB.out⟩
theorem At_out (q p : Nat) (od : List Rw) (n : Int) (w : World) (h : RkM w q p od) (hn : n < 0 ∨ totP od ≤ n) : Calls Tryd.prog 38 #[.pointer (some ⟨q, 0, none⟩), .int .i64 n] w fun e w' => ∃ ev, e = .returned (.tuple #[.slice none 0 0, ev]) ∧ (Err.flt 3 0 ⟨#[114, 97, 110, 107]⟩).At w' ev ∧ Below w.heap.size w w' := by
  obtain ⟨mb, m, f, hq, _⟩ := h
  have c2 := hq.cell 2
  simp at c2
  clear hq
  by_cases h0 : n < 0
  · go_enter Tryd.func38, Tryd.ntmps38
    go_wp2_with (go_at_call 44; refine (New_err _ _ _ _).mono ?_; rintro e w' ⟨v, rfl, hv, hb⟩; have HV := Lib.hid hv; have HB := Lib.hid hb; clear hv hb)
    go_ret2
    exact ⟨_, rfl, HV.out, HB.out⟩
  · have h1 : totP od ≤ n := by omega
    clear hn
    go_enter Tryd.func38, Tryd.ntmps38
    go_wp2_with (go_at_call 44; refine (New_err _ _ _ _).mono ?_; rintro e w' ⟨v, rfl, hv, hb⟩; have HV := Lib.hid hv; have HB := Lib.hid hb; clear hv hb)
    go_ret2
    exact ⟨_, rfl, HV.out, HB.out⟩
theorem Rank_nil (A : Option Addr) (n c : Nat) (w : World) : Calls Tryd.prog 39 #[.pointer none, .slice A n c] w fun e w' => ∃ ev, e = .returned (.tuple #[.int .i64 0, ev]) ∧ (Err.flt 10 0 ⟨#[114, 97, 110, 107, 115]⟩).At w' ev ∧ Below w.heap.size w w' := by
  go_enter Tryd.func39, Tryd.ntmps39
  go_wp2_with (go_at_call 44; refine (New_err _ _ _ _).mono ?_; rintro e w' ⟨v, rfl, hv, hb⟩; have HV := Lib.hid hv; have HB := Lib.hid hb; clear hv hb)
  go_ret2
  exact ⟨_, rfl, HV.out, HB.out⟩
end Go.Proofs.YtmonepclhbappaaDoor
/-
  slices.Index at ints, where the number is there.
-/
namespace Go.Proofs.YtmonepclhbappaaDoor
open Go.RowKit
set_option maxRecDepth 100000
set_option linter.unusedVariables false

set_option maxHeartbeats 2000000 in
theorem IndexI_at (l : List Int) (x : Int) (A : Option Addr) (n c i : Nat) (w : World) (hl : l.length = n) (hn : n ≤ 1000000) (hs : Sl w 1 A n (l.map (Value.int .i64))) (hi : l[i]? = some x) (hnd : l.Nodup) :
    Calls Tryd.prog 75 #[.slice A n c, .int .i64 x] w fun e w' => e = .returned (.int .i64 (i : Int)) ∧ w = w' := by
  have HS := Lib.hid hs
  have HI := Lib.hid hi
  have HN := Lib.hid hnd
  have HL := Lib.hid hl
  have hil : i < n := by rw [← hl]; exact (List.getElem?_eq_some_iff.1 hi).1
  clear hs hi hnd hl
  go_enter Tryd.func75, Tryd.ntmps75
  go_wp2_with fail
  go_loop [8] (fun iv => ∃ k : Nat, k ≤ i ∧ iv = .int .i64 (k : Int)) (fun iv => i + 1 - (intOf iv).toNat)
  case atStart => exact ⟨0, Nat.zero_le _, rfl⟩
  case round =>
    obtain ⟨k, hk, rfl⟩ := hrel
    have hkn : (k : Int) < (n : Int) := by omega
    have hkz : k < l.length := by rw [HL.out]; omega
    obtain ⟨y, hy⟩ : ∃ y, l[k] = y := ⟨_, rfl⟩
    obtain ⟨b, off, rfl, hc⟩ := HS.out.i64 HL.out (show k < n by omega)
    rw [hy] at hc
    by_cases hki : k = i
    · subst hki
      obtain rfl : y = x := by
        have := HI.out
        rw [List.getElem?_eq_getElem hkz, hy] at this
        exact Option.some.inj this
      have he : (y == y) = true := by simp
      clear hy
      go_wp2_with fail
      go_ret
      exact ⟨rfl, rfl⟩
    · have hne : y ≠ x := fun e => hki ((List.getElem?_inj hkz HN.out).1 (by rw [HI.out, ← e, List.getElem?_eq_getElem hkz, hy]))
      have he : (x == y) = false := by simp; exact fun e => hne e.symm
      clear hne hy
      go_wp2_with fail
      go_round
      case rel => exact ⟨k + 1, by omega, by go_num⟩
      case measure => simp [intOf]; omega
end Go.Proofs.YtmonepclhbappaaDoor
