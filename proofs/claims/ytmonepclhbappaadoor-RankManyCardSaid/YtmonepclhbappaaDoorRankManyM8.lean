/-
  Part 8 of the proof of RankMany: RankO, RankT, RankQ, OdQ.
-/
import Derived.Test.YtmonepclhbappaaDoorRankManyM7
import Derived.Deep.RegionHeld3
import Derived.Test.YtmonepclhbappaaDoorRankManyM6
/-
  Ranks: the contract of Of.
-/
namespace Go.Proofs.YtmonepclhbappaaDoor
open Go.RowKit Go.Maps
set_option maxRecDepth 100000
set_option linter.unusedVariables false

def Nums (od : List Rw) : Prop := ∀ r ∈ od, ∀ q ∈ r, numOK q.1 ∧ ∀ b ∈ q.2, numOK b
theorem numOK.ok {x : Int} (h : numOK x) : i64ok x := ⟨by have := h.1; omega, by have := h.2; omega⟩
theorem getD_memO {od : List Rw} {i : Nat} (h : i < od.length) : od.getD i [] ∈ od := by rw [List.getD_eq_getElem?_getD, List.getElem?_eq_getElem h]; exact List.getElem_mem h
theorem Nums.key {od : List Rw} (h : Nums od) {i : Nat} (hi : i < od.length) {a : Int} (ha : a ∈ (od.getD i []).map (·.1)) : i64ok a := by
  obtain ⟨q, hq, rfl⟩ := List.mem_map.1 ha
  exact (h _ (getD_memO hi) q hq).1.ok
theorem Nums.link {od : List Rw} (h : Nums od) {i : Nat} (hi : i < od.length) {a b : Int} (hb : b ∈ lkR (od.getD i []) a) : i64ok b := by
  obtain ⟨q, hq, _, hb⟩ := lkR_mem hb
  exact ((h _ (getD_memO hi) q hq).2 b hb).ok
theorem Closed.link {od : List Rw} (h : Closed od) {i : Nat} (hi : i + 1 < od.length) {a b : Int} (hb : b ∈ lkR (od.getD i []) a) : b ∈ (od.getD (i + 1) []).map (·.1) := by
  obtain ⟨q, hq, _, hb⟩ := lkR_mem hb
  exact h i hi q hq b hb
theorem fit_nn {z : Int} (h0 : 0 ≤ z) (h1 : z ≤ 4611686018427387904) : fitB z = true := by
  unfold fitB
  simp
  omega
theorem keysAt_in {od : List Rw} {i : Nat} (h : i < od.length) : keysAt od (i : Int) = (od.getD i []).map (·.1) := if_pos (by omega)
theorem linksAt_in {od : List Rw} {i : Nat} (h : i < od.length) (a : Int) : linksAt od (i : Int) a = lkR (od.getD i []) a := if_pos (by omega)

/-- Rows behind i are done, of row i the first k numbers. -/
def Don (od : List Rw) (f : Int → Int → Int) (i k : Nat) : Prop :=
  (∀ (j : Nat) (a : Int), i < j → j < od.length → a ∈ (od.getD j []).map (·.1) → f j a = cnt od j a) ∧ ∀ a ∈ ((od.getD i []).map (·.1)).take k, f i a = cnt od i a
theorem Don.step {od : List Rw} {f : Int → Int → Int} {i k : Nat} {a : Int} (h : Don od f i k) (ha : ((od.getD i []).map (·.1))[k]? = some a) : Don od (updF f i a (cnt od i a)) i (k + 1) := by
  refine ⟨fun j b hj hn hb => ?_, fun b hb => ?_⟩
  · unfold updF
    rw [if_neg (by omega)]
    exact h.1 j b hj hn hb
  · unfold updF
    by_cases hba : b = a
    · subst hba
      rw [if_pos ⟨rfl, rfl⟩]
    · rw [if_neg (fun e => hba e.2)]
      refine h.2 b ?_
      obtain ⟨e1, e2⟩ := List.getElem?_eq_some_iff.1 ha
      rw [List.take_succ_eq_append_getElem e1, e2] at hb
      rcases List.mem_append.1 hb with hb | hb
      · exact hb
      · exact absurd (List.mem_singleton.1 hb) hba
def DonR (od : List Rw) (f : Int → Int → Int) (t : Nat) : Prop := ∀ (j : Nat) (a : Int), t ≤ j → j < od.length → a ∈ (od.getD j []).map (·.1) → f j a = cnt od j a
theorem DonR.don {od : List Rw} {f : Int → Int → Int} {i : Nat} (h : DonR od f (i + 1)) : Don od f i 0 := ⟨fun j a hj => h j a hj, fun a ha => by cases ha⟩
theorem Don.donR {od : List Rw} {f : Int → Int → Int} {i k : Nat} (h : Don od f i k) (hk : ((od.getD i []).map (·.1)).length ≤ k) : DonR od f i := fun j a hj hn ha => by
  by_cases e : i = j
  · subst e
    exact h.2 a (by rw [List.take_of_length_le hk]; exact ha)
  · exact h.1 j a (by omega) hn ha

/-- What Of holds while it counts. -/
def RkW (w0 w : World) (q p mb K : Nat) (f : Int → Int → Int) : Prop :=
  Blk w q 121 #[.pointer (some ⟨p, 0, none⟩), .map (some mb), .int .i64 0] ∧ w0.heap.size ≤ mb ∧ w0.heap.size ≤ q ∧ Below w0.heap.size w0 w ∧ ∃ m, m ≤ K ∧ OnMap w mb m f
theorem RkW.keep {w0 w w' : World} {q p mb K : Nat} {f : Int → Int → Int} (h : RkW w0 w q p mb K f) (hb : Below w.heap.size w w') : RkW w0 w' q p mb K f := by
  obtain ⟨h1, h2, h3, h4, m, h5, h6⟩ := h
  exact ⟨h1.keep hb, h2, h3, h4.andThen hb, m, h5, h6.keep hb⟩
theorem RkW.put {w0 w w' : World} {q p mb K m : Nat} {f f' : Int → Int → Int} (h : RkW w0 w q p mb K f) (hM : NC w mb) (hg : w.grownBy w' (some mb)) (hm : m ≤ K) (ho : OnMap w' mb (m + 1) f') : RkW w0 w' q p mb (K + 1) f' := by
  obtain ⟨h1, h2, h3, h4, _⟩ := h
  exact ⟨h1.turned hM hg, h2, h3, bel_turn h4 hg h2 h4.size, m + 1, by omega, ho⟩

theorem RkW.mono {w0 w : World} {q p mb K K' : Nat} {f : Int → Int → Int} (h : RkW w0 w q p mb K f) (hK : K ≤ K') : RkW w0 w q p mb K' f := by
  obtain ⟨h1, h2, h3, h4, m, h5, h6⟩ := h
  exact ⟨h1, h2, h3, h4, m, Nat.le_trans h5 hK, h6⟩
theorem OnMap.other {w w' : World} {b b' n : Nat} {f : Int → Int → Int} (h : OnMap w b n f) (hg : w.grownBy w' (some b')) (hne : b ≠ b') : OnMap w' b n f := by
  obtain ⟨D, h1, h2⟩ := h
  exact ⟨D, World.ownsMap.kept h1 hg (fun e => hne (Option.some.inj e)), h2⟩
/-- The sum of numbers whose ways are known. -/
theorem Sum_known {q mb m : Nat} {pv tv : Value} {f : Int → Int → Int} {row : Int} {l : List Int} {z : Int} (hrow : i64ok row) (hx : ∀ x ∈ l, i64ok x) (hf : ∀ x ∈ l, i64ok (f row x)) (hl : l.length ≤ 1000000) (hz : sumZ (l.map (f row)) = z) (hfit : fitB z = true)
    (A : Option Addr) (c : Nat) (w : World) (hq : Blk w q 121 #[pv, .map (some mb), tv]) (hm : OnMap w mb m f) (hs : Sl w 1 A l.length (l.map (Value.int .i64))) :
    Calls Tryd.prog 67 #[.pointer (some ⟨q, 0, none⟩), .int .i64 row, .slice A l.length c] w fun e w' => e = .returned (.tuple #[.int .i64 z, .nilIface]) ∧ Below w.heap.size w w' :=
  (RankSum_any q pv tv mb m f row l A l.length c w hq hm rfl hl hs hrow hx hf).mono fun e w' ⟨ev, h1, h2, h3⟩ => by
    rw [hz, te_fit hfit] at h2
    rw [hz, tn_fit hfit] at h1
    have h4 : ev = .nilIface := h2
    rw [h4] at h1
    exact ⟨h1, h3⟩

set_option maxHeartbeats 16000000 in
theorem RankOf_any (p n : Nat) (od : List Rw) (w : World) (h : OdM w p od) (hB : OdB 60000 od) (hn : od.length = n) (h1 : 1 ≤ n) (h8 : n ≤ 8) (hN : Nums od) (hC : Closed od) (hF : Fits od) :
    Calls Tryd.prog 30 #[.pointer (some ⟨p, 0, none⟩)] w fun e w' => ∃ q, e = .returned (.tuple #[.pointer (some ⟨q, 0, none⟩), .nilIface]) ∧ RkM w' q p od ∧ Below w.heap.size w w' := by
  have hmm := @run_makeMap Tryd.prog
  have HOd := Lib.hid h
  have HLen := Lib.hid hn
  have HN := Lib.hid hN
  have HC := Lib.hid hC
  have HF := Lib.hid hF
  have HLn := Lib.hid (fun (W : World) (hb : Below w.heap.size w W) => by have := OdLen_any p od W (h.keep hb); rw [hn] at this; exact this)
  have HRow := Lib.hid (fun (i : Nat) (W : World) (hb : Below w.heap.size w W) => OdRow_any p od (i : Int) W (h.keep hb) (fun r hr => (hB r hr).mono (by omega)) (by omega))
  have HLk := Lib.hid (fun (i : Nat) (a : Int) (W : World) (hb : Below w.heap.size w W) (ha : i64ok a) => OdLinks_any p od (i : Int) a W (h.keep hb) (fun r hr => (hB r hr).mono (by omega)) (by omega) ha)
  have HB := Lib.hid (show ∀ i, i < n → ((od.getD i []).map (·.1)).length ≤ 60000 ∧ ∀ a, (lkR (od.getD i []) a).length ≤ 60000 from fun i hi => by
    have := hB _ (getD_memO (show i < od.length by omega))
    exact ⟨by rw [List.length_map]; exact this.1, fun a => lkR_B this a⟩)
  have hw0 : IntKind.i64.wrap ((n : Int) - 1) = (n : Int) - 1 := by rw [IntKind.wrap_i64]; omega
  clear h hB hn hN hC hF
  obtain ⟨mb, hmb⟩ : ∃ mb, mb = w.heap.size := ⟨_, rfl⟩
  obtain ⟨q, hq⟩ : ∃ q, q = mb + 1 := ⟨_, rfl⟩
  have HI := Lib.hid (show RkW w ((w.alloc (.map #[] 0)).alloc (.cells #[.pointer (some ⟨p, 0, none⟩), .map (some mb), .int .i64 0] 121)) q p mb 0 (fun _ _ => 0) from by
    subst hmb hq
    refine ⟨?_, Nat.le_refl _, by omega, bel_al (bel_al (Below.refl _ _) _) _, 0, Nat.le_refl _, (OnMap.made w).keep (bel_al (Below.refl _ _) _)⟩
    have := Blk.new (w.alloc (.map #[] 0)) 121 #[.pointer (some ⟨p, 0, none⟩), .map (some w.heap.size), .int .i64 0]
    rw [World.size_alloc] at this
    exact this)
  go_enter Tryd.func30, Tryd.ntmps30
  go_wp2_with (go_at_call 52; refine (HLn.out _ (bel_al (bel_al (Below.refl _ _) _) _)).mono ?_; rintro e w' ⟨rfl, rfl⟩)
  rw [← hmb, ← hq]
  clear hmb hq hmm hw0
  go_loopw [5] (fun iv wr => ∃ (t : Nat) (f : Int → Int → Int), t ≤ n ∧ (∃ z : Int, z = (t : Int) - 1 ∧ iv = .int .i64 z) ∧ Hid (RkW w wr q p mb ((n - t) * 1000000) f) ∧ Hid (DonR od f t)) (fun iv _ => (intOf iv + 1).toNat)
  case atStart => exact ⟨n, _, Nat.le_refl _, ⟨_, rfl, rfl⟩, by rw [Nat.sub_self, Nat.zero_mul]; exact HI, Lib.hid fun j a h1 h2 => by have := HLen.out; omega⟩
  case round =>
    obtain ⟨t, f, ht, ⟨z, hz, rfl⟩, HR, HD⟩ := hrel
    clear HI
    rcases Nat.eq_zero_or_pos t with h0 | h0
    · subst h0
      obtain rfl : z = -1 := by omega
      clear hz
      have hb := HR.out.2.2.2.1
      have HRw := Lib.hid (HRow.out 0 wr hb)
      rw [keysAt_in (by rw [HLen.out]; omega)] at HRw
      have HRw' := Lib.hid (show Calls Tryd.prog 62 #[.pointer (some ⟨p, 0, none⟩), .int .i64 0] wr _ from HRw.out)
      have hkl := (HB.out 0 (by omega)).1
      have HKn := Lib.hid (fun a ha => HN.out.key (i := 0) (a := a) (by rw [HLen.out]; omega) ha)
      have HFb := Lib.hid (show ∀ b ∈ (od.getD 0 []).map (·.1), f 0 b = cnt od 0 b from fun b hb => HD.out 0 b (Nat.zero_le _) (by rw [HLen.out]; omega) hb)
      have HSum := Lib.hid (show sumZ (((od.getD 0 []).map (·.1)).map (f 0)) = totP od from by rw [totP_sum, List.map_congr_left HFb.out])
      have HFit := Lib.hid (fit_nn (Int.natCast_nonneg _) HF.out.2)
      have HFo := Lib.hid (show ∀ b ∈ (od.getD 0 []).map (·.1), i64ok (f 0 b) from fun b hb => by
        rw [HFb.out b hb]
        have h1 := cnt_nn od 0 b
        have h2 := HF.out.1 0 b (by rw [HLen.out]; omega)
        exact ⟨by omega, by omega⟩)
      have HBl := Lib.hid HR.out.1
      have HQ := Lib.hid HR.out.2.2.1
      have HBe := Lib.hid hb
      obtain ⟨m, hm, hon⟩ := HR.out.2.2.2.2
      have HOn := Lib.hid hon
      obtain ⟨ks, hks⟩ : ∃ ks, ks = (od.getD 0 []).map (·.1) := ⟨_, rfl⟩
      rw [← hks] at HRw' hkl HKn HFb HSum HFo
      have HSm := Lib.hid (Sum_known (q := q) (mb := mb) (m := m) (pv := .pointer (some ⟨p, 0, none⟩)) (tv := .int .i64 0) ⟨by omega, by omega⟩ HKn.out HFo.out (Nat.le_trans hkl (by decide)) HSum.out HFit.out)
      clear HRw hks hb hon hm hkl
      go_wp2_with (first
        | (go_at_call 62; refine HRw'.out.mono ?_; rintro e w2 ⟨v, rfl, hown, hb1⟩; obtain ⟨R2, c2, rfl, hsl⟩ := Sl.own hown; have HS2 := Lib.hid hsl; have HB2 := Lib.hid hb1; clear hown hsl hb1)
        | (go_at_call 67; refine (HSm.out R2 c2 w2 (HBl.out.keep HB2.out) (HOn.out.keep HB2.out) HS2.out).mono ?_; rintro e w3 ⟨rfl, hb⟩; have HB3 := Lib.hid (HB2.out.andThen hb); have fq := (HBl.out.keep HB3.out).frozen 2; have cq := (HBl.out.keep HB3.out).cell 2; simp at cq; clear hb))
      go_ret2
      have h3 := HBl.out.keep HB3.out
      have hne : mb ≠ q := fun e => by
        obtain ⟨o, h4, h5⟩ := (HOn.out.keep HB3.out).isMap
        subst e
        unfold Blk at h3
        rw [h3] at h4
        cases h4
        cases h5
      have hbl := (HBe.out.andThen HB3.out).setCell (p := ⟨q, 2, none⟩) HQ.out (.int .i64 (totP od))
      exact ⟨q, rfl, ⟨mb, m, f, h3.set_ 2 _, (HOn.out.keep HB3.out).other (gb_set _) hne, HOd.out.keep hbl, fun i a hi ha => HD.out i a (Nat.zero_le _) hi ha⟩, hbl⟩
    · obtain ⟨i, rfl⟩ : ∃ i, t = i + 1 := ⟨t - 1, by omega⟩
      obtain rfl : z = (i : Int) := by omega
      clear hz
      have hb := HR.out.2.2.2.1
      have HRw := Lib.hid (HRow.out i wr hb)
      rw [keysAt_in (by rw [HLen.out]; omega)] at HRw
      have hkl := (HB.out i (by omega)).1
      have HKn := Lib.hid (fun a ha => HN.out.key (i := i) (a := a) (by rw [HLen.out]; omega) ha)
      have HDo := Lib.hid HD.out.don
      obtain ⟨ks, hks⟩ : ∃ ks, ks = (od.getD i []).map (·.1) := ⟨_, rfl⟩
      have HKs := Lib.hid hks
      rw [← hks] at HRw hkl HKn
      clear hb hks HD
      have hi0 : (0 : Int) ≤ (i : Int) := by omega
      go_wp2_with (go_at_call 62; refine HRw.out.mono ?_; rintro e w1 ⟨v, rfl, hown, hb1⟩; obtain ⟨R, c, rfl, hsl⟩ := Sl.own hown; have HS := Lib.hid hsl; have HB1 := Lib.hid hb1; clear hown hsl hb1)
      have HR1 := Lib.hid (HR.out.keep HB1.out)
      clear HR HB1 HRw
      go_loopw [30] (fun iv wr => ∃ (k : Nat) (f : Int → Int → Int), k ≤ ks.length ∧ iv = .int .i64 k ∧ Hid (RkW w wr q p mb ((n - (i + 1)) * 1000000 + k) f) ∧ Hid (Don od f i k) ∧ Hid (Sl wr 1 R ks.length (ks.map (Value.int .i64)))) (fun iv _ => ks.length - (intOf iv).toNat)
      case atStart => exact ⟨0, f, Nat.zero_le _, rfl, by rw [Nat.add_zero]; exact HR1, HDo, HS⟩
      case round =>
        clear HR1 HDo HS
        obtain ⟨k, f, hk, rfl, HR, HD, HS⟩ := hrel
        by_cases hlt : k < ks.length
        · have hlt' : (k : Int) < (ks.length : Int) := by omega
          obtain ⟨a, hak⟩ : ∃ a, ks[k]? = some a := ⟨_, List.getElem?_eq_getElem hlt⟩
          have ham : a ∈ ks := List.mem_of_getElem? hak
          have HAo := Lib.hid (HKn.out a ham)
          have HMem := Lib.hid (show a ∈ (od.getD i []).map (·.1) from HKs.out ▸ ham)
          obtain ⟨rb, ro, rfl, hcell⟩ := HS.out.i64 rfl hlt
          have hE : ks[k] = a := (List.getElem?_eq_some_iff.1 hak).2
          rw [hE] at hcell
          have HStep := Lib.hid (HD.out.step (HKs.out ▸ hak))
          have HBl := Lib.hid HR.out.1
          have HBe := Lib.hid HR.out.2.2.2.1
          obtain ⟨m, hm, hon⟩ := HR.out.2.2.2.2
          have HM := Lib.hid hm
          have HOn := Lib.hid hon
          clear hak ham hm hon hE
          by_cases hin : i + 1 < n
          · have g1 : (i : Int) + 1 < (n : Int) := by omega
            have g2 : IntKind.i64.wrap ((i : Int) + 1) = (i : Int) + 1 := by rw [IntKind.wrap_i64]; omega
            have HCl := Lib.hid (fun b hb => HC.out.link (i := i) (a := a) (b := b) (by rw [HLen.out]; exact hin) hb)
            have HNl := Lib.hid (fun b hb => HN.out.link (i := i) (a := a) (b := b) (by rw [HLen.out]; omega) hb)
            have HFb := Lib.hid (show ∀ b ∈ lkR (od.getD i []) a, f ((i : Int) + 1) b = cnt od (i + 1) b from fun b hb => HD.out.1 (i + 1) b (by omega) (by rw [HLen.out]; exact hin) (HCl.out b hb))
            have HSum := Lib.hid (show sumZ ((lkR (od.getD i []) a).map (f ((i : Int) + 1))) = cnt od i a from by rw [cnt_step (by rw [HLen.out]; exact hin), List.map_congr_left HFb.out])
            have HFit := Lib.hid (fit_nn (cnt_nn od i a) (HF.out.1 i a (by rw [HLen.out]; omega)))
            have HFo := Lib.hid (show ∀ b ∈ lkR (od.getD i []) a, i64ok (f ((i : Int) + 1) b) from fun b hb => by
              rw [HFb.out b hb]
              have h1 := cnt_nn od (i + 1) b
              have h2 := HF.out.1 (i + 1) b (by rw [HLen.out]; exact hin)
              exact ⟨by omega, by omega⟩)
            have HLb := Lib.hid (Nat.le_trans ((HB.out i (by omega)).2 a) (show 60000 ≤ 1000000 by decide))
            have HLi := Lib.hid (HLk.out i a wr HBe.out HAo.out)
            rw [linksAt_in (by rw [HLen.out]; omega)] at HLi
            obtain ⟨l, hl⟩ : ∃ l, l = lkR (od.getD i []) a := ⟨_, rfl⟩
            rw [← hl] at HLi HLb HFo HSum HFb HNl HCl
            have HSm := Lib.hid (Sum_known (q := q) (mb := mb) (m := m) (pv := .pointer (some ⟨p, 0, none⟩)) (tv := .int .i64 0) ⟨by omega, by omega⟩ HNl.out HFo.out HLb.out HSum.out HFit.out)
            clear hl HCl HFb
            go_wp2_with (first
              | (go_at_call 52; refine (HLn.out _ HBe.out).mono ?_; rintro e w' ⟨rfl, rfl⟩)
              | (go_at_call 68; refine HLi.out.mono ?_; rintro e w2 ⟨v, rfl, hown, hb1⟩; obtain ⟨R2, c2, rfl, hsl⟩ := Sl.own hown; have HS2 := Lib.hid hsl; have HB2 := Lib.hid hb1; clear hown hsl hb1)
              | (go_at_call 67; refine (HSm.out R2 c2 w2 (HBl.out.keep HB2.out) (HOn.out.keep HB2.out) HS2.out).mono ?_; rintro e w3 ⟨rfl, hb⟩; have HB3 := Lib.hid (HB2.out.andThen hb); have cq := (HBl.out.keep HB3.out).cell 1; simp at cq; clear hb)
              | (at_mapUpdate; refine wpList_putS _ rfl _ _ _ rfl mb m f rfl (HOn.out.keep HB3.out) (by have := HM.out; unfold maxLen; omega) i a (cnt od i a) rfl rfl ⟨by omega, by omega⟩ HAo.out ?_; intro w4 hM hg; have HM4 := Lib.hid hM; have HG4 := Lib.hid hg; clear hM hg))
            go_roundw
            case rel => exact ⟨k + 1, _, by omega, by go_num, by rw [← Nat.add_assoc]; exact Lib.hid ((HR.out.keep HB3.out).put (HOn.out.keep HB3.out).isMap HG4.out HM.out HM4.out), HStep, Lib.hid ((HS.out.keep HB3.out).turned (HOn.out.keep HB3.out).isMap HG4.out)⟩
            case measure => simp [intOf]; omega
          · have hi : i + 1 = n := by omega
            have g1 : ¬ (i : Int) + 1 < (n : Int) := by omega
            have g2 : IntKind.i64.wrap ((i : Int) + 1) = (i : Int) + 1 := by rw [IntKind.wrap_i64]; omega
            rw [cnt_last (by rw [HLen.out]; exact hi) a] at HStep
            have cq := HBl.out.cell 1
            simp at cq
            clear hi
            go_wp2_with (first
              | (go_at_call 52; refine (HLn.out _ HBe.out).mono ?_; rintro e w' ⟨rfl, rfl⟩)
              | (at_mapUpdate; refine wpList_putS _ rfl _ _ _ rfl mb m f rfl HOn.out (by have := HM.out; unfold maxLen; omega) i a 1 rfl rfl ⟨by omega, by omega⟩ HAo.out ?_; intro w4 hM hg; have HM4 := Lib.hid hM; have HG4 := Lib.hid hg; clear hM hg))
            go_roundw
            case rel => exact ⟨k + 1, _, by omega, by go_num, by rw [← Nat.add_assoc]; exact Lib.hid (HR.out.put HOn.out.isMap HG4.out HM.out HM4.out), HStep, Lib.hid (HS.out.turned HOn.out.isMap HG4.out)⟩
            case measure => simp [intOf]; omega
        · obtain rfl : k = ks.length := by omega
          have hlt' : ¬ (ks.length : Int) < (ks.length : Int) := by omega
          have g2 : IntKind.i64.wrap ((i : Int) - 1) = (i : Int) - 1 := by rw [IntKind.wrap_i64]; omega
          have HDn := Lib.hid (HD.out.donR (by rw [← HKs.out]; exact Nat.le_refl _))
          go_wp2_with fail
          go_roundw
          case rel => exact ⟨i, f, by omega, ⟨_, rfl, rfl⟩, Lib.hid (HR.out.mono (by omega)), HDn⟩
          case measure => simp [intOf]
end Go.Proofs.YtmonepclhbappaaDoor
/-
  Ranks: the contracts of next, At.
-/
namespace Go.Proofs.YtmonepclhbappaaDoor
open Go.RowKit Go.Maps
set_option maxRecDepth 100000
set_option linter.unusedVariables false

/-- What may come behind a path's beginning. -/
def nextL (od : List Rw) (l : List Int) : List Int := if l = [] then keysAt od 0 else linksAt od ((l.length : Int) - 1) (l.getD (l.length - 1) 0)

set_option maxHeartbeats 4000000 in
theorem Next_any (q p : Nat) (od : List Rw) (l : List Int) (A : Option Addr) (n c : Nat) (w : World) (h : RkM w q p od) (hB : OdB 60000 od) (h8 : od.length ≤ 100) (hl : l.length = n) (hn : n ≤ 1000000) (hs : Sl w 1 A n (l.map (Value.int .i64))) (hx : ∀ x ∈ l, i64ok x) :
    Calls Tryd.prog 73 #[.pointer (some ⟨q, 0, none⟩), .slice A n c] w fun e w' => ∃ v, e = .returned v ∧ w'.ownsRow w.heap.size 3 1 v (nextL od l).length ((nextL od l).map (Value.int .i64)) ∧ Below w.heap.size w w' := by
  obtain ⟨mb, m, f, hq, _, hod, _⟩ := h
  have c0 := hq.cell 0
  simp at c0
  by_cases h0 : n = 0
  · subst h0
    have hE : nextL od l = keysAt od 0 := if_pos (List.eq_nil_of_length_eq_zero hl)
    have HRw := Lib.hid (OdRow_any p od 0 w hod (fun r hr => (hB r hr).mono (by omega)) h8)
    rw [hE]
    clear hq hod hE hs hx hl hB h8 hn
    go_enter Tryd.func73, Tryd.ntmps73
    go_wp2_with (go_at_call 62; refine HRw.out.mono ?_; clear HRw; rintro e w1 ⟨v, rfl, hown, hb⟩; have HO := Lib.hid hown; have HB1 := Lib.hid hb; clear hown hb)
    go_ret
    exact ⟨_, rfl, HO.out, HB1.out⟩
  · obtain ⟨k, hk⟩ : ∃ k, n = k + 1 := ⟨n - 1, by omega⟩
    have hlk : k < l.length := by omega
    obtain ⟨b, off, rfl, hc⟩ := hs.i64 hl (show k < n by omega)
    obtain ⟨x, hxk⟩ : ∃ x, l[k] = x := ⟨_, rfl⟩
    have hxo := hx x (by rw [← hxk]; exact List.getElem_mem hlk)
    rw [hxk] at hc
    have hE : nextL od l = linksAt od (k : Int) x := by
      unfold nextL
      rw [if_neg (fun e => by rw [e] at hlk; cases hlk), hl, hk, List.getD_eq_getElem?_getD, show k + 1 - 1 = k from rfl, List.getElem?_eq_getElem hlk, hxk, show (((k + 1 : Nat) : Int) - 1) = (k : Int) by omega]
      rfl
    have HLi := Lib.hid (OdLinks_any p od (k : Int) x w.drew (hod.keep (bel_drewN (Below.refl _ _) 1)) (fun r hr => (hB r hr).mono (by omega)) h8 hxo)
    rw [hE]
    have hw : IntKind.i64.wrap ((n : Int) - 1) = (k : Int) := by rw [IntKind.wrap_i64]; omega
    have g1 : (0 : Int) ≤ (k : Int) := by omega
    have g2 : (k : Int) < (n : Int) := by omega
    have g3 : ¬ (n : Int) = 0 := by omega
    have g4 : ((n : Int) == 0) = false := by simpa using g3
    have HKc := Lib.hid (show ∀ W, Below w.drew.heap.size w.drew W → W.cell? ⟨q, 0, none⟩ = some (.pointer (some ⟨p, 0, none⟩)) ∧ W.cell? ⟨b, off + k, none⟩ = some (.int .i64 x) from fun W hb => ⟨(hb.cell (p := ⟨q, 0, none⟩) (World.block_lt_of_cell? w _ c0)).trans c0, (hb.cell (p := ⟨b, off + k, none⟩) (World.block_lt_of_cell? w _ hc)).trans hc⟩)
    clear hq hod hE hs hx hl hB h8 hn hk hlk hxk hxo h0
    go_enter Tryd.func73, Tryd.ntmps73
    go_wp2_with fail
    go_region_held3 (fun w' => w'.cell? ⟨q, 0, none⟩ = some (.pointer (some ⟨p, 0, none⟩)) ∧ w'.cell? ⟨b, off + k, none⟩ = some (.int .i64 x)) (go_keep)
      ((go_at_call 68; refine HLi.out.mono ?_; clear HLi; rintro e' w3 ⟨v, rfl, hown, hb⟩; have zz := HKc.out _ hb; have HO := Lib.hid hown; have HB1 := Lib.hid hb; clear hown hb))
    go_wp2_with fail
    go_ret
    exact ⟨_, rfl, HO.out, (bel_drewN (Below.refl w.heap.size w) 1).andThen HB1.out⟩
end Go.Proofs.YtmonepclhbappaaDoor
/-
  Ranks plainly: which path a rank picks, step by step.
-/
namespace Go.Proofs.YtmonepclhbappaaDoor
open Go.RowKit
set_option linter.unusedVariables false

/-- What may still come behind a beginning. -/
def sfx (od : List Rw) (l : List Int) : List (List Int) := (nextL od l).flatMap (tls (od.drop l.length))
theorem tls_last {od : List Rw} {i : Nat} (h : i + 1 = od.length) (a : Int) : tls (od.drop i) a = [[a]] := by rw [drop_one h]; rfl
theorem tls_step {od : List Rw} {i : Nat} (h : i + 1 < od.length) (a : Int) : tls (od.drop i) a = ((lkR (od.getD i []) a).flatMap (tls (od.drop (i + 1)))).map (a :: ·) := by
  obtain ⟨r2, rs, h1, h2⟩ := drop_two h
  rw [h1, h2, List.map_flatMap]
  rfl
theorem nextL_nil (od : List Rw) : nextL od [] = keysAt od 0 := if_pos rfl
theorem nextL_snoc (od : List Rw) (l : List Int) (a : Int) : nextL od (l ++ [a]) = linksAt od (l.length : Int) a := by
  unfold nextL
  rw [if_neg (by simp)]
  have e1 : (((l ++ [a]).length : Int) - 1) = (l.length : Int) := by rw [List.length_append]; simp
  have e2 : (l ++ [a]).getD ((l ++ [a]).length - 1) 0 = a := by
    rw [List.getD_eq_getElem?_getD, List.length_append]
    simp
  rw [e1, e2]
theorem sfx_snoc {od : List Rw} {l : List Int} (h : l.length + 1 < od.length) (a : Int) : tls (od.drop l.length) a = (sfx od (l ++ [a])).map (a :: ·) := by
  unfold sfx
  rw [tls_step h, nextL_snoc, linksAt_in (by omega), List.length_append]
  rfl
theorem sfx_nil {od : List Rw} (h : 1 ≤ od.length) : sfx od [] = allP od := by
  unfold sfx allP
  rw [nextL_nil, List.length_nil, List.drop_zero]
  have := keysAt_in (od := od) (i := 0) (by omega)
  rw [show ((0 : Nat) : Int) = 0 from rfl] at this
  rw [this]
/-- The path of a rank: a beginning, what is left of the rank. -/
def Leads (od : List Rw) (n : Nat) (P : List Int) (l : List Int) (k : Nat) : Prop := ∃ s, (sfx od l)[k]? = some s ∧ P = l ++ s
/-- .. while the numbers behind a beginning are gone through. -/
def LeadsIn (od : List Rw) (P : List Int) (l : List Int) (left : List Int) (k : Nat) : Prop := ∃ s, (left.flatMap (tls (od.drop l.length)))[k]? = some s ∧ P = l ++ s
theorem Leads.begin {od : List Rw} {n : Nat} {P l : List Int} {k : Nat} (h : Leads od n P l k) : LeadsIn od P l (nextL od l) k := h
theorem LeadsIn.skip {od : List Rw} {P l left : List Int} {a : Int} {k : Nat} (h : LeadsIn od P l (a :: left) k) (hk : (cnt od l.length a) ≤ (k : Int)) : LeadsIn od P l left (k - (cnt od l.length a).toNat) := by
  obtain ⟨s, h1, h2⟩ := h
  refine ⟨s, ?_, h2⟩
  unfold cnt at hk ⊢
  rw [List.flatMap_cons, List.getElem?_append_right (by omega)] at h1
  exact h1
theorem LeadsIn.left {od : List Rw} {P l left : List Int} {k : Nat} (h : LeadsIn od P l left k) : left ≠ [] := fun e => by
  obtain ⟨s, h1, _⟩ := h
  rw [e] at h1
  cases h1
theorem LeadsIn.pick {od : List Rw} {P l left : List Int} {a : Int} {k : Nat} (h : LeadsIn od P l (a :: left) k) (hl : l.length + 1 < od.length) (hk : (k : Int) < cnt od l.length a) (n : Nat) : Leads od n P (l ++ [a]) k := by
  obtain ⟨s, h1, h2⟩ := h
  unfold cnt at hk
  rw [List.flatMap_cons, List.getElem?_append_left (by omega), sfx_snoc hl, List.getElem?_map] at h1
  obtain ⟨s', h3, rfl⟩ := Option.map_eq_some_iff.1 h1
  exact ⟨s', h3, by rw [h2, List.append_assoc]; rfl⟩
theorem LeadsIn.last {od : List Rw} {P l left : List Int} {a : Int} {k : Nat} (h : LeadsIn od P l (a :: left) k) (hl : l.length + 1 = od.length) (hk : (k : Int) < cnt od l.length a) : P = l ++ [a] := by
  obtain ⟨s, h1, h2⟩ := h
  unfold cnt at hk
  rw [List.flatMap_cons, List.getElem?_append_left (by omega), tls_last hl] at h1
  rw [h2, List.mem_singleton.1 (List.mem_of_getElem? h1)]
end Go.Proofs.YtmonepclhbappaaDoor
/-
  Odags plainly: what the rows of the odag of lists hold: numbers, links, in order; they are closed and few.
-/
namespace Go.Proofs.YtmonepclhbappaaDoor
open Go.RowKit
set_option linter.unusedVariables false

theorem lkR_putR (r : Rw) (a : Int) (l : List Int) (b : Int) : lkR (putR r a l) b = if b = a then l else lkR r b := by
  unfold lkR putR
  rw [List.find?_append, List.find?_cons, List.find?_filter, List.find?_filter]
  by_cases h : b = a
  · subst h
    have e1 : (fun q : Int × List Int => decide (q.1 < b ∧ q.1 = b)) = fun _ => false := by funext q; simp; omega
    have e2 : (r.find? fun q => decide (q.1 < b) && decide (q.1 = b)) = none := List.find?_eq_none.2 fun q _ => by simp; omega
    simp [e2]
  · rw [if_neg h]
    have hba : decide (a = b) = false := by simp; omega
    rcases Int.lt_or_gt_of_ne h with h1 | h1
    · have e1 : (r.find? fun q => decide (q.1 < a) && decide (q.1 = b)) = r.find? fun q => decide (q.1 = b) := by congr 1; funext q; by_cases hq : q.1 = b <;> simp [hq, h1]
      have e2 : (r.find? fun q => decide (a < q.1) && decide (q.1 = b)) = none := List.find?_eq_none.2 fun q _ => by simp; omega
      simp [e1, e2, hba]
    · have e1 : (r.find? fun q => decide (a < q.1) && decide (q.1 = b)) = r.find? fun q => decide (q.1 = b) := by congr 1; funext q; by_cases hq : q.1 = b <;> simp [hq, h1]
      have e2 : (r.find? fun q => decide (q.1 < a) && decide (q.1 = b)) = none := List.find?_eq_none.2 fun q _ => by simp; omega
      simp [e1, e2, hba]
theorem keys_putR (r : Rw) (a : Int) (l : List Int) (b : Int) : b ∈ (putR r a l).map (·.1) ↔ b = a ∨ b ∈ r.map (·.1) := by
  unfold putR
  simp only [List.map_append, List.map_cons, List.mem_append, List.mem_cons, List.mem_map, List.mem_filter]
  constructor
  · rintro (⟨q, ⟨hq, _⟩, rfl⟩ | rfl | ⟨q, ⟨hq, _⟩, rfl⟩)
    · exact Or.inr ⟨q, hq, rfl⟩
    · exact Or.inl rfl
    · exact Or.inr ⟨q, hq, rfl⟩
  · rintro (rfl | ⟨q, hq, rfl⟩)
    · exact Or.inr (Or.inl rfl)
    · rcases Int.lt_trichotomy q.1 a with h | h | h
      · exact Or.inl ⟨q, ⟨hq, by simpa using h⟩, rfl⟩
      · exact Or.inr (Or.inl h)
      · exact Or.inr (Or.inr ⟨q, ⟨hq, by simpa using h⟩, rfl⟩)
def IncR (r : Rw) : Prop := r.Pairwise fun p q => p.1 < q.1
theorem IncR.put {r : Rw} (h : IncR r) (a : Int) (l : List Int) : IncR (putR r a l) := by
  unfold IncR putR
  rw [List.pairwise_append]
  refine ⟨h.filter _, List.pairwise_cons.2 ⟨fun q hq => by simpa using (List.mem_filter.1 hq).2, h.filter _⟩, fun p hp q hq => ?_⟩
  have h1 : p.1 < a := by simpa using (List.mem_filter.1 hp).2
  rcases List.mem_cons.1 hq with rfl | hq
  · exact h1
  · have h2 : a < q.1 := by simpa using (List.mem_filter.1 hq).2
    omega
/-- A row that rises holds each number's links. -/
theorem IncR.lk {r : Rw} (h : IncR r) {q : Int × List Int} (hq : q ∈ r) : lkR r q.1 = q.2 := by
  unfold lkR
  cases hf : r.find? fun p => decide (p.1 = q.1) with
  | none => exact absurd (show decide (q.1 = q.1) = true by simp) (List.find?_eq_none.1 hf q hq)
  | some p =>
    have h1 := List.mem_of_find?_eq_some hf
    have h2 : p.1 = q.1 := by simpa using List.find?_some hf
    obtain ⟨i, hi, e1⟩ := List.mem_iff_getElem.1 h1
    obtain ⟨j, hj, e2⟩ := List.mem_iff_getElem.1 hq
    have hI := List.pairwise_iff_getElem.1 h
    have hij : i = j := by
      rcases Nat.lt_trichotomy i j with h3 | h3 | h3
      · have := hI i j hi hj h3
        rw [e1, e2] at this
        omega
      · exact h3
      · have := hI j i hj hi h3
        rw [e1, e2] at this
        omega
    subst hij
    rw [e1] at e2
    rw [e2]
    rfl
theorem lkR_nokey {r : Rw} {a : Int} (h : a ∉ r.map (·.1)) : lkR r a = [] := by
  unfold lkR
  rw [List.find?_eq_none.2 fun q hq => by
    have : q.1 ≠ a := fun e => h (List.mem_map.2 ⟨q, hq, e⟩)
    simpa using this]
  rfl
/-- The links of a number of column i. -/
def lnks (ls : List (List Int)) (i : Nat) (a : Int) : List Int := setL ((ls.filter fun x => decide (x.getD i 0 = a)).flatMap fun x => nxt x i)
def col (ls : List (List Int)) (i : Nat) : List Int := setL (ls.map fun x => x.getD i 0)
/-- The row i of the odag of lists. -/
theorem odOf_row (n : Nat) (i : Nat) (hi : i < n) (ls : List (List Int)) : (∀ x ∈ ls, x.length = n) →
    IncR ((odOf n ls).getD i []) ∧ (∀ a, a ∈ ((odOf n ls).getD i []).map (·.1) ↔ ∃ x ∈ ls, x.getD i 0 = a) ∧ ∀ a, lkR ((odOf n ls).getD i []) a = lnks ls i a := by
  obtain ⟨rs, rfl⟩ : ∃ rs, ls = rs.reverse := ⟨ls.reverse, by simp⟩
  induction rs with
  | nil =>
    intro _
    rw [List.reverse_nil]
    have e : (odOf n []).getD i [] = [] := by
      unfold odOf
      rw [List.foldl_nil, List.getD_eq_getElem?_getD, List.getElem?_replicate]
      simp [hi]
    rw [e]
    exact ⟨List.Pairwise.nil, fun a => by simp, fun a => rfl⟩
  | cons x rs ih =>
    rw [List.reverse_cons]
    generalize rs.reverse = ls at *
    intro h
    obtain ⟨h1, h2, h3⟩ := ih fun y hy => h y (List.mem_append_left _ hy)
    have hx := h x (List.mem_append_right _ (List.mem_singleton_self x))
    have hl := odOf_len n ls
    have e : (odOf n (ls ++ [x])).getD i [] = stepR ((odOf n ls).getD i []) (x.getD i 0) (nxt x i) := by
      rw [odOf_snoc, putO, List.getD_eq_getElem?_getD, putTo_at, hx]
      have h5 : (odOf n ls)[i]? = some ((odOf n ls).getD i []) := by rw [List.getD_eq_getElem?_getD, List.getElem?_eq_getElem (by omega)]; rfl
      rw [h5, Option.map_some, if_pos hi]
      rfl
    rw [e]
    unfold stepR
    refine ⟨h1.put _ _, fun a => ?_, fun a => ?_⟩
    · rw [keys_putR, h2]
      simp only [List.mem_append, List.mem_singleton]
      constructor
      · rintro (rfl | ⟨y, hy, hya⟩)
        · exact ⟨x, Or.inr rfl, rfl⟩
        · exact ⟨y, Or.inl hy, hya⟩
      · rintro ⟨y, hy | rfl, hya⟩
        · exact Or.inr ⟨y, hy, hya⟩
        · exact Or.inl hya.symm
    · rw [lkR_putR]
      by_cases ha : a = x.getD i 0
      · rw [if_pos ha, h3, ← ha]
        unfold lnks
        refine setL_same fun y => ?_
        have e2 : ([x].filter fun x => decide (x.getD i 0 = a)) = [x] := by rw [List.filter_cons_of_pos (by simpa using ha.symm)]; rfl
        rw [List.mem_append, setL_mem, List.filter_append, e2, List.flatMap_append, List.mem_append]
        simp
      · rw [if_neg ha, h3]
        unfold lnks
        have e2 : ([x].filter fun x => decide (x.getD i 0 = a)) = [] := by rw [List.filter_cons_of_neg (by simpa using fun e => ha e.symm)]; rfl
        rw [List.filter_append, e2, List.append_nil]
theorem odOf_closed (n : Nat) (ls : List (List Int)) (h : ∀ x ∈ ls, x.length = n) : Closed (odOf n ls) := fun i hi q hq b hb => by
  rw [odOf_len] at hi
  obtain ⟨h1, _, h3⟩ := odOf_row n i (by omega) ls h
  obtain ⟨_, h2, _⟩ := odOf_row n (i + 1) hi ls h
  rw [← h1.lk hq, h3] at hb
  unfold lnks at hb
  rw [setL_mem] at hb
  obtain ⟨x, hx, hbx⟩ := List.mem_flatMap.1 hb
  rw [List.mem_filter] at hx
  refine (h2 b).2 ⟨x, hx.1, ?_⟩
  have hl := h x hx.1
  unfold nxt at hbx
  rw [List.drop_eq_getElem_cons (by omega)] at hbx
  rw [List.take_succ_cons, List.take_zero, List.mem_singleton] at hbx
  rw [List.getD_eq_getElem?_getD, List.getElem?_eq_getElem (by omega), hbx]
  rfl
theorem odOf_nums (n : Nat) (ls : List (List Int)) (h : ∀ x ∈ ls, x.length = n) (hx : ∀ x ∈ ls, ∀ y ∈ x, numOK y) : Nums (odOf n ls) := fun r hr q hq => by
  obtain ⟨i, hi, rfl⟩ := List.mem_iff_getElem.1 hr
  have hl := odOf_len n ls
  have e : (odOf n ls).getD i [] = (odOf n ls)[i] := by rw [List.getD_eq_getElem?_getD, List.getElem?_eq_getElem hi]; rfl
  obtain ⟨h1, h2, h3⟩ := odOf_row n i (by omega) ls h
  rw [e] at h1 h2 h3
  refine ⟨?_, fun b hb => ?_⟩
  · obtain ⟨x, hxm, hxa⟩ := (h2 q.1).1 (List.mem_map.2 ⟨q, hq, rfl⟩)
    have := h x hxm
    rw [List.getD_eq_getElem?_getD, List.getElem?_eq_getElem (by omega)] at hxa
    rw [← hxa]
    exact hx x hxm _ (List.getElem_mem _)
  · rw [← h1.lk hq, h3] at hb
    unfold lnks at hb
    rw [setL_mem] at hb
    obtain ⟨x, hxm, hbx⟩ := List.mem_flatMap.1 hb
    exact hx x (List.mem_filter.1 hxm).1 b (List.mem_of_mem_drop (List.mem_of_mem_take hbx))
theorem sumZ_le {l : List Int} {K : Int} (h : ∀ x ∈ l, x ≤ K) : sumZ l ≤ l.length * K := by
  induction l with
  | nil => simp [sumZ]
  | cons x l ih =>
    have h1 := h x (List.mem_cons_self ..)
    have h2 := ih fun y hy => h y (List.mem_cons_of_mem _ hy)
    rw [sumZ, List.length_cons]
    have : ((l.length + 1 : Nat) : Int) * K = (l.length : Int) * K + K := by rw [Int.natCast_add, Int.add_mul]; simp
    omega
/-- Rows of at most K numbers, each with at most K links. -/
theorem cnt_le {od : List Rw} {K : Nat} (hB : OdB K od) : ∀ (d i : Nat) (a : Int), i + d + 1 = od.length → cnt od i a ≤ ((K ^ d : Nat) : Int)
  | 0, i, a, h => by rw [cnt_last (by omega)]; simp
  | d + 1, i, a, h => by
    rw [cnt_step (by omega)]
    have h1 := sumZ_le (l := (lkR (od.getD i []) a).map (cnt od (i + 1))) (K := ((K ^ d : Nat) : Int)) fun x hx => by
      obtain ⟨b, _, rfl⟩ := List.mem_map.1 hx
      exact cnt_le hB d (i + 1) b (by omega)
    rw [List.length_map] at h1
    have h2 := lkR_B (hB _ (getD_memO (show i < od.length by omega))) a
    refine Int.le_trans h1 ?_
    rw [← Int.natCast_mul, Nat.pow_succ, Nat.mul_comm (K ^ d)]
    exact Int.ofNat_le.2 (Nat.mul_le_mul_right _ h2)
theorem fits_of {od : List Rw} {K : Nat} (hB : OdB K od) (hK : 1 ≤ K) (h1 : 1 ≤ od.length) (h : K ^ od.length ≤ 4611686018427387904) : Fits od := by
  refine ⟨fun i a hi => ?_, ?_⟩
  · have h2 := cnt_le hB (od.length - 1 - i) i a (by omega)
    have h3 : K ^ (od.length - 1 - i) ≤ K ^ od.length := Nat.pow_le_pow_right hK (by omega)
    omega
  · rw [totP_sum]
    have h2 := sumZ_le (l := ((od.getD 0 []).map (·.1)).map (cnt od 0)) (K := ((K ^ (od.length - 1) : Nat) : Int)) fun x hx => by
      obtain ⟨b, _, rfl⟩ := List.mem_map.1 hx
      exact cnt_le hB _ 0 b (by omega)
    rw [List.length_map, List.length_map] at h2
    have h3 := (hB _ (getD_memO (show 0 < od.length by omega))).1
    have h4 : (od.getD 0 []).length * K ^ (od.length - 1) ≤ K ^ od.length := by
      have e : K ^ od.length = K * K ^ (od.length - 1) := by
        obtain ⟨m, hm⟩ : ∃ m, od.length = m + 1 := ⟨od.length - 1, by omega⟩
        rw [hm, Nat.add_sub_cancel, Nat.pow_succ, Nat.mul_comm]
      rw [e]
      exact Nat.mul_le_mul_right _ h3
    have h5 : (((od.getD 0 []).length : Int) * ((K ^ (od.length - 1) : Nat) : Int)) = (((od.getD 0 []).length * K ^ (od.length - 1) : Nat) : Int) := (Int.natCast_mul _ _).symm
    omega
/-- Few short lists: few paths. -/
theorem odOf_fits (n : Nat) (ls : List (List Int)) (h1 : 1 ≤ n) (h5 : n ≤ 5) (hl : ls.length ≤ 13) : Fits (odOf n ls) := by
  have hB : OdB 13 (odOf n ls) := fun r hr => (odOf_B n ls r hr).mono hl
  refine fits_of hB (by decide) (by rw [odOf_len]; exact h1) ?_
  rw [odOf_len]
  exact Nat.le_trans (Nat.pow_le_pow_right (by decide) h5) (by decide)
end Go.Proofs.YtmonepclhbappaaDoor
