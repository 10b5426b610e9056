/-
  Ranks: the contract of Of.
-/
import Derived.Test.YtmonepclhbappaaDoorRankN
namespace Go.Proofs.YtmonepclhbappaaDoor
open Go.RowKit Go.Maps
set_option maxRecDepth 100000
set_option linter.unusedVariables false

def Nums (od : List Rw) : Prop := ∀ r ∈ od, ∀ q ∈ r, numOK q.1 ∧ ∀ b ∈ q.2, numOK b
theorem numOK.ok {x : Int} (h : numOK x) : i64ok x := ⟨by have := h.1; omega, by have := h.2; omega⟩
theorem getD_memO {od : List Rw} {i : Nat} (h : i < od.length) : od.getD i [] ∈ od := by rw [List.getD_eq_getElem?_getD, List.getElem?_eq_getElem h]; exact List.getElem_mem h
theorem Nums.key {od : List Rw} (h : Nums od) {i : Nat} (hi : i < od.length) {a : Int} (ha : a ∈ (od.getD i []).map (·.1)) : i64ok a := by
  obtain ⟨q, hq, rfl⟩ := List.mem_map.1 ha
  exact (h _ (getD_memO hi) q hq).1.ok
theorem Nums.link {od : List Rw} (h : Nums od) {i : Nat} (hi : i < od.length) {a b : Int} (hb : b ∈ lkR (od.getD i []) a) : i64ok b := by
  obtain ⟨q, hq, _, hb⟩ := lkR_mem hb
  exact ((h _ (getD_memO hi) q hq).2 b hb).ok
theorem Closed.link {od : List Rw} (h : Closed od) {i : Nat} (hi : i + 1 < od.length) {a b : Int} (hb : b ∈ lkR (od.getD i []) a) : b ∈ (od.getD (i + 1) []).map (·.1) := by
  obtain ⟨q, hq, _, hb⟩ := lkR_mem hb
  exact h i hi q hq b hb
theorem fit_nn {z : Int} (h0 : 0 ≤ z) (h1 : z ≤ 4611686018427387904) : fitB z = true := by
  unfold fitB
  simp
  omega
theorem keysAt_in {od : List Rw} {i : Nat} (h : i < od.length) : keysAt od (i : Int) = (od.getD i []).map (·.1) := if_pos (by omega)
theorem linksAt_in {od : List Rw} {i : Nat} (h : i < od.length) (a : Int) : linksAt od (i : Int) a = lkR (od.getD i []) a := if_pos (by omega)

/-- Rows behind i are done, of row i the first k numbers. -/
def Don (od : List Rw) (f : Int → Int → Int) (i k : Nat) : Prop :=
  (∀ (j : Nat) (a : Int), i < j → j < od.length → a ∈ (od.getD j []).map (·.1) → f j a = cnt od j a) ∧ ∀ a ∈ ((od.getD i []).map (·.1)).take k, f i a = cnt od i a
theorem Don.step {od : List Rw} {f : Int → Int → Int} {i k : Nat} {a : Int} (h : Don od f i k) (ha : ((od.getD i []).map (·.1))[k]? = some a) : Don od (updF f i a (cnt od i a)) i (k + 1) := by
  refine ⟨fun j b hj hn hb => ?_, fun b hb => ?_⟩
  · unfold updF
    rw [if_neg (by omega)]
    exact h.1 j b hj hn hb
  · unfold updF
    by_cases hba : b = a
    · subst hba
      rw [if_pos ⟨rfl, rfl⟩]
    · rw [if_neg (fun e => hba e.2)]
      refine h.2 b ?_
      obtain ⟨e1, e2⟩ := List.getElem?_eq_some_iff.1 ha
      rw [List.take_succ_eq_append_getElem e1, e2] at hb
      rcases List.mem_append.1 hb with hb | hb
      · exact hb
      · exact absurd (List.mem_singleton.1 hb) hba
def DonR (od : List Rw) (f : Int → Int → Int) (t : Nat) : Prop := ∀ (j : Nat) (a : Int), t ≤ j → j < od.length → a ∈ (od.getD j []).map (·.1) → f j a = cnt od j a
theorem DonR.don {od : List Rw} {f : Int → Int → Int} {i : Nat} (h : DonR od f (i + 1)) : Don od f i 0 := ⟨fun j a hj => h j a hj, fun a ha => by cases ha⟩
theorem Don.donR {od : List Rw} {f : Int → Int → Int} {i k : Nat} (h : Don od f i k) (hk : ((od.getD i []).map (·.1)).length ≤ k) : DonR od f i := fun j a hj hn ha => by
  by_cases e : i = j
  · subst e
    exact h.2 a (by rw [List.take_of_length_le hk]; exact ha)
  · exact h.1 j a (by omega) hn ha

/-- What Of holds while it counts. -/
def RkW (w0 w : World) (q p mb K : Nat) (f : Int → Int → Int) : Prop :=
  Blk w q 121 #[.pointer (some ⟨p, 0, none⟩), .map (some mb), .int .i64 0] ∧ w0.heap.size ≤ mb ∧ w0.heap.size ≤ q ∧ Below w0.heap.size w0 w ∧ ∃ m, m ≤ K ∧ OnMap w mb m f
theorem RkW.keep {w0 w w' : World} {q p mb K : Nat} {f : Int → Int → Int} (h : RkW w0 w q p mb K f) (hb : Below w.heap.size w w') : RkW w0 w' q p mb K f := by
  obtain ⟨h1, h2, h3, h4, m, h5, h6⟩ := h
  exact ⟨h1.keep hb, h2, h3, h4.andThen hb, m, h5, h6.keep hb⟩
theorem RkW.put {w0 w w' : World} {q p mb K m : Nat} {f f' : Int → Int → Int} (h : RkW w0 w q p mb K f) (hM : NC w mb) (hg : w.grownBy w' (some mb)) (hm : m ≤ K) (ho : OnMap w' mb (m + 1) f') : RkW w0 w' q p mb (K + 1) f' := by
  obtain ⟨h1, h2, h3, h4, _⟩ := h
  exact ⟨h1.turned hM hg, h2, h3, bel_turn h4 hg h2 h4.size, m + 1, by omega, ho⟩

theorem RkW.mono {w0 w : World} {q p mb K K' : Nat} {f : Int → Int → Int} (h : RkW w0 w q p mb K f) (hK : K ≤ K') : RkW w0 w q p mb K' f := by
  obtain ⟨h1, h2, h3, h4, m, h5, h6⟩ := h
  exact ⟨h1, h2, h3, h4, m, Nat.le_trans h5 hK, h6⟩
theorem OnMap.other {w w' : World} {b b' n : Nat} {f : Int → Int → Int} (h : OnMap w b n f) (hg : w.grownBy w' (some b')) (hne : b ≠ b') : OnMap w' b n f := by
  obtain ⟨D, h1, h2⟩ := h
  exact ⟨D, World.ownsMap.kept h1 hg (fun e => hne (Option.some.inj e)), h2⟩
/-- The sum of numbers whose ways are known. -/
theorem Sum_known {q mb m : Nat} {pv tv : Value} {f : Int → Int → Int} {row : Int} {l : List Int} {z : Int} (hrow : i64ok row) (hx : ∀ x ∈ l, i64ok x) (hf : ∀ x ∈ l, i64ok (f row x)) (hl : l.length ≤ 1000000) (hz : sumZ (l.map (f row)) = z) (hfit : fitB z = true)
    (A : Option Addr) (c : Nat) (w : World) (hq : Blk w q 121 #[pv, .map (some mb), tv]) (hm : OnMap w mb m f) (hs : Sl w 1 A l.length (l.map (Value.int .i64))) :
    Calls Tryd.prog 67 #[.pointer (some ⟨q, 0, none⟩), .int .i64 row, .slice A l.length c] w fun e w' => e = .returned (.tuple #[.int .i64 z, .nilIface]) ∧ Below w.heap.size w w' :=
  (RankSum_any q pv tv mb m f row l A l.length c w hq hm rfl hl hs hrow hx hf).mono fun e w' ⟨ev, h1, h2, h3⟩ => by
    rw [hz, te_fit hfit] at h2
    rw [hz, tn_fit hfit] at h1
    have h4 : ev = .nilIface := h2
    rw [h4] at h1
    exact ⟨h1, h3⟩

set_option maxHeartbeats 16000000 in
theorem RankOf_any (p n : Nat) (od : List Rw) (w : World) (h : OdM w p od) (hB : OdB 60000 od) (hn : od.length = n) (h1 : 1 ≤ n) (h8 : n ≤ 8) (hN : Nums od) (hC : Closed od) (hF : Fits od) :
    Calls Tryd.prog 30 #[.pointer (some ⟨p, 0, none⟩)] w fun e w' => ∃ q, e = .returned (.tuple #[.pointer (some ⟨q, 0, none⟩), .nilIface]) ∧ RkM w' q p od ∧ Below w.heap.size w w' := by
  have hmm := @run_makeMap Tryd.prog
  have HOd := Lib.hid h
  have HLen := Lib.hid hn
  have HN := Lib.hid hN
  have HC := Lib.hid hC
  have HF := Lib.hid hF
  have HLn := Lib.hid (fun (W : World) (hb : Below w.heap.size w W) => by have := OdLen_any p od W (h.keep hb); rw [hn] at this; exact this)
  have HRow := Lib.hid (fun (i : Nat) (W : World) (hb : Below w.heap.size w W) => OdRow_any p od (i : Int) W (h.keep hb) (fun r hr => (hB r hr).mono (by omega)) (by omega))
  have HLk := Lib.hid (fun (i : Nat) (a : Int) (W : World) (hb : Below w.heap.size w W) (ha : i64ok a) => OdLinks_any p od (i : Int) a W (h.keep hb) (fun r hr => (hB r hr).mono (by omega)) (by omega) ha)
  have HB := Lib.hid (show ∀ i, i < n → ((od.getD i []).map (·.1)).length ≤ 60000 ∧ ∀ a, (lkR (od.getD i []) a).length ≤ 60000 from fun i hi => by
    have := hB _ (getD_memO (show i < od.length by omega))
    exact ⟨by rw [List.length_map]; exact this.1, fun a => lkR_B this a⟩)
  have hw0 : IntKind.i64.wrap ((n : Int) - 1) = (n : Int) - 1 := by rw [IntKind.wrap_i64]; omega
  clear h hB hn hN hC hF
  obtain ⟨mb, hmb⟩ : ∃ mb, mb = w.heap.size := ⟨_, rfl⟩
  obtain ⟨q, hq⟩ : ∃ q, q = mb + 1 := ⟨_, rfl⟩
  have HI := Lib.hid (show RkW w ((w.alloc (.map #[] 0)).alloc (.cells #[.pointer (some ⟨p, 0, none⟩), .map (some mb), .int .i64 0] 121)) q p mb 0 (fun _ _ => 0) from by
    subst hmb hq
    refine ⟨?_, Nat.le_refl _, by omega, bel_al (bel_al (Below.refl _ _) _) _, 0, Nat.le_refl _, (OnMap.made w).keep (bel_al (Below.refl _ _) _)⟩
    have := Blk.new (w.alloc (.map #[] 0)) 121 #[.pointer (some ⟨p, 0, none⟩), .map (some w.heap.size), .int .i64 0]
    rw [World.size_alloc] at this
    exact this)
  go_enter Tryd.func30, Tryd.ntmps30
  go_wp2_with (go_at_call 52; refine (HLn.out _ (bel_al (bel_al (Below.refl _ _) _) _)).mono ?_; rintro e w' ⟨rfl, rfl⟩)
  rw [← hmb, ← hq]
  clear hmb hq hmm hw0
  go_loopw [5] (fun iv wr => ∃ (t : Nat) (f : Int → Int → Int), t ≤ n ∧ (∃ z : Int, z = (t : Int) - 1 ∧ iv = .int .i64 z) ∧ Hid (RkW w wr q p mb ((n - t) * 1000000) f) ∧ Hid (DonR od f t)) (fun iv _ => (intOf iv + 1).toNat)
  case atStart => exact ⟨n, _, Nat.le_refl _, ⟨_, rfl, rfl⟩, by rw [Nat.sub_self, Nat.zero_mul]; exact HI, Lib.hid fun j a h1 h2 => by have := HLen.out; omega⟩
  case round =>
    obtain ⟨t, f, ht, ⟨z, hz, rfl⟩, HR, HD⟩ := hrel
    clear HI
    rcases Nat.eq_zero_or_pos t with h0 | h0
    · subst h0
      obtain rfl : z = -1 := by omega
      clear hz
      have hb := HR.out.2.2.2.1
      have HRw := Lib.hid (HRow.out 0 wr hb)
      rw [keysAt_in (by rw [HLen.out]; omega)] at HRw
      have HRw' := Lib.hid (show Calls Tryd.prog 62 #[.pointer (some ⟨p, 0, none⟩), .int .i64 0] wr _ from HRw.out)
      have hkl := (HB.out 0 (by omega)).1
      have HKn := Lib.hid (fun a ha => HN.out.key (i := 0) (a := a) (by rw [HLen.out]; omega) ha)
      have HFb := Lib.hid (show ∀ b ∈ (od.getD 0 []).map (·.1), f 0 b = cnt od 0 b from fun b hb => HD.out 0 b (Nat.zero_le _) (by rw [HLen.out]; omega) hb)
      have HSum := Lib.hid (show sumZ (((od.getD 0 []).map (·.1)).map (f 0)) = totP od from by rw [totP_sum, List.map_congr_left HFb.out])
      have HFit := Lib.hid (fit_nn (Int.natCast_nonneg _) HF.out.2)
      have HFo := Lib.hid (show ∀ b ∈ (od.getD 0 []).map (·.1), i64ok (f 0 b) from fun b hb => by
        rw [HFb.out b hb]
        have h1 := cnt_nn od 0 b
        have h2 := HF.out.1 0 b (by rw [HLen.out]; omega)
        exact ⟨by omega, by omega⟩)
      have HBl := Lib.hid HR.out.1
      have HQ := Lib.hid HR.out.2.2.1
      have HBe := Lib.hid hb
      obtain ⟨m, hm, hon⟩ := HR.out.2.2.2.2
      have HOn := Lib.hid hon
      obtain ⟨ks, hks⟩ : ∃ ks, ks = (od.getD 0 []).map (·.1) := ⟨_, rfl⟩
      rw [← hks] at HRw' hkl HKn HFb HSum HFo
      have HSm := Lib.hid (Sum_known (q := q) (mb := mb) (m := m) (pv := .pointer (some ⟨p, 0, none⟩)) (tv := .int .i64 0) ⟨by omega, by omega⟩ HKn.out HFo.out (Nat.le_trans hkl (by decide)) HSum.out HFit.out)
      clear HRw hks hb hon hm hkl
      go_wp2_with (first
        | (go_at_call 62; refine HRw'.out.mono ?_; rintro e w2 ⟨v, rfl, hown, hb1⟩; obtain ⟨R2, c2, rfl, hsl⟩ := Sl.own hown; have HS2 := Lib.hid hsl; have HB2 := Lib.hid hb1; clear hown hsl hb1)
        | (go_at_call 67; refine (HSm.out R2 c2 w2 (HBl.out.keep HB2.out) (HOn.out.keep HB2.out) HS2.out).mono ?_; rintro e w3 ⟨rfl, hb⟩; have HB3 := Lib.hid (HB2.out.andThen hb); have fq := (HBl.out.keep HB3.out).frozen 2; have cq := (HBl.out.keep HB3.out).cell 2; simp at cq; clear hb))
      go_ret2
      have h3 := HBl.out.keep HB3.out
      have hne : mb ≠ q := fun e => by
        obtain ⟨o, h4, h5⟩ := (HOn.out.keep HB3.out).isMap
        subst e
        unfold Blk at h3
        rw [h3] at h4
        cases h4
        cases h5
      have hbl := (HBe.out.andThen HB3.out).setCell (p := ⟨q, 2, none⟩) HQ.out (.int .i64 (totP od))
      exact ⟨q, rfl, ⟨mb, m, f, h3.set_ 2 _, (HOn.out.keep HB3.out).other (gb_set _) hne, HOd.out.keep hbl, fun i a hi ha => HD.out i a (Nat.zero_le _) hi ha⟩, hbl⟩
    · obtain ⟨i, rfl⟩ : ∃ i, t = i + 1 := ⟨t - 1, by omega⟩
      obtain rfl : z = (i : Int) := by omega
      clear hz
      have hb := HR.out.2.2.2.1
      have HRw := Lib.hid (HRow.out i wr hb)
      rw [keysAt_in (by rw [HLen.out]; omega)] at HRw
      have hkl := (HB.out i (by omega)).1
      have HKn := Lib.hid (fun a ha => HN.out.key (i := i) (a := a) (by rw [HLen.out]; omega) ha)
      have HDo := Lib.hid HD.out.don
      obtain ⟨ks, hks⟩ : ∃ ks, ks = (od.getD i []).map (·.1) := ⟨_, rfl⟩
      have HKs := Lib.hid hks
      rw [← hks] at HRw hkl HKn
      clear hb hks HD
      have hi0 : (0 : Int) ≤ (i : Int) := by omega
      go_wp2_with (go_at_call 62; refine HRw.out.mono ?_; rintro e w1 ⟨v, rfl, hown, hb1⟩; obtain ⟨R, c, rfl, hsl⟩ := Sl.own hown; have HS := Lib.hid hsl; have HB1 := Lib.hid hb1; clear hown hsl hb1)
      have HR1 := Lib.hid (HR.out.keep HB1.out)
      clear HR HB1 HRw
      go_loopw [30] (fun iv wr => ∃ (k : Nat) (f : Int → Int → Int), k ≤ ks.length ∧ iv = .int .i64 k ∧ Hid (RkW w wr q p mb ((n - (i + 1)) * 1000000 + k) f) ∧ Hid (Don od f i k) ∧ Hid (Sl wr 1 R ks.length (ks.map (Value.int .i64)))) (fun iv _ => ks.length - (intOf iv).toNat)
      case atStart => exact ⟨0, f, Nat.zero_le _, rfl, by rw [Nat.add_zero]; exact HR1, HDo, HS⟩
      case round =>
        clear HR1 HDo HS
        obtain ⟨k, f, hk, rfl, HR, HD, HS⟩ := hrel
        by_cases hlt : k < ks.length
        · have hlt' : (k : Int) < (ks.length : Int) := by omega
          obtain ⟨a, hak⟩ : ∃ a, ks[k]? = some a := ⟨_, List.getElem?_eq_getElem hlt⟩
          have ham : a ∈ ks := List.mem_of_getElem? hak
          have HAo := Lib.hid (HKn.out a ham)
          have HMem := Lib.hid (show a ∈ (od.getD i []).map (·.1) from HKs.out ▸ ham)
          obtain ⟨rb, ro, rfl, hcell⟩ := HS.out.i64 rfl hlt
          have hE : ks[k] = a := (List.getElem?_eq_some_iff.1 hak).2
          rw [hE] at hcell
          have HStep := Lib.hid (HD.out.step (HKs.out ▸ hak))
          have HBl := Lib.hid HR.out.1
          have HBe := Lib.hid HR.out.2.2.2.1
          obtain ⟨m, hm, hon⟩ := HR.out.2.2.2.2
          have HM := Lib.hid hm
          have HOn := Lib.hid hon
          clear hak ham hm hon hE
          by_cases hin : i + 1 < n
          · have g1 : (i : Int) + 1 < (n : Int) := by omega
            have g2 : IntKind.i64.wrap ((i : Int) + 1) = (i : Int) + 1 := by rw [IntKind.wrap_i64]; omega
            have HCl := Lib.hid (fun b hb => HC.out.link (i := i) (a := a) (b := b) (by rw [HLen.out]; exact hin) hb)
            have HNl := Lib.hid (fun b hb => HN.out.link (i := i) (a := a) (b := b) (by rw [HLen.out]; omega) hb)
            have HFb := Lib.hid (show ∀ b ∈ lkR (od.getD i []) a, f ((i : Int) + 1) b = cnt od (i + 1) b from fun b hb => HD.out.1 (i + 1) b (by omega) (by rw [HLen.out]; exact hin) (HCl.out b hb))
            have HSum := Lib.hid (show sumZ ((lkR (od.getD i []) a).map (f ((i : Int) + 1))) = cnt od i a from by rw [cnt_step (by rw [HLen.out]; exact hin), List.map_congr_left HFb.out])
            have HFit := Lib.hid (fit_nn (cnt_nn od i a) (HF.out.1 i a (by rw [HLen.out]; omega)))
            have HFo := Lib.hid (show ∀ b ∈ lkR (od.getD i []) a, i64ok (f ((i : Int) + 1) b) from fun b hb => by
              rw [HFb.out b hb]
              have h1 := cnt_nn od (i + 1) b
              have h2 := HF.out.1 (i + 1) b (by rw [HLen.out]; exact hin)
              exact ⟨by omega, by omega⟩)
            have HLb := Lib.hid (Nat.le_trans ((HB.out i (by omega)).2 a) (show 60000 ≤ 1000000 by decide))
            have HLi := Lib.hid (HLk.out i a wr HBe.out HAo.out)
            rw [linksAt_in (by rw [HLen.out]; omega)] at HLi
            obtain ⟨l, hl⟩ : ∃ l, l = lkR (od.getD i []) a := ⟨_, rfl⟩
            rw [← hl] at HLi HLb HFo HSum HFb HNl HCl
            have HSm := Lib.hid (Sum_known (q := q) (mb := mb) (m := m) (pv := .pointer (some ⟨p, 0, none⟩)) (tv := .int .i64 0) ⟨by omega, by omega⟩ HNl.out HFo.out HLb.out HSum.out HFit.out)
            clear hl HCl HFb
            go_wp2_with (first
              | (go_at_call 52; refine (HLn.out _ HBe.out).mono ?_; rintro e w' ⟨rfl, rfl⟩)
              | (go_at_call 68; refine HLi.out.mono ?_; rintro e w2 ⟨v, rfl, hown, hb1⟩; obtain ⟨R2, c2, rfl, hsl⟩ := Sl.own hown; have HS2 := Lib.hid hsl; have HB2 := Lib.hid hb1; clear hown hsl hb1)
              | (go_at_call 67; refine (HSm.out R2 c2 w2 (HBl.out.keep HB2.out) (HOn.out.keep HB2.out) HS2.out).mono ?_; rintro e w3 ⟨rfl, hb⟩; have HB3 := Lib.hid (HB2.out.andThen hb); have cq := (HBl.out.keep HB3.out).cell 1; simp at cq; clear hb)
              | (at_mapUpdate; refine wpList_putS _ rfl _ _ _ rfl mb m f rfl (HOn.out.keep HB3.out) (by have := HM.out; unfold maxLen; omega) i a (cnt od i a) rfl rfl ⟨by omega, by omega⟩ HAo.out ?_; intro w4 hM hg; have HM4 := Lib.hid hM; have HG4 := Lib.hid hg; clear hM hg))
            go_roundw
            case rel => exact ⟨k + 1, _, by omega, by go_num, by rw [← Nat.add_assoc]; exact Lib.hid ((HR.out.keep HB3.out).put (HOn.out.keep HB3.out).isMap HG4.out HM.out HM4.out), HStep, Lib.hid ((HS.out.keep HB3.out).turned (HOn.out.keep HB3.out).isMap HG4.out)⟩
            case measure => simp [intOf]; omega
          · have hi : i + 1 = n := by omega
            have g1 : ¬ (i : Int) + 1 < (n : Int) := by omega
            have g2 : IntKind.i64.wrap ((i : Int) + 1) = (i : Int) + 1 := by rw [IntKind.wrap_i64]; omega
            rw [cnt_last (by rw [HLen.out]; exact hi) a] at HStep
            have cq := HBl.out.cell 1
            simp at cq
            clear hi
            go_wp2_with (first
              | (go_at_call 52; refine (HLn.out _ HBe.out).mono ?_; rintro e w' ⟨rfl, rfl⟩)
              | (at_mapUpdate; refine wpList_putS _ rfl _ _ _ rfl mb m f rfl HOn.out (by have := HM.out; unfold maxLen; omega) i a 1 rfl rfl ⟨by omega, by omega⟩ HAo.out ?_; intro w4 hM hg; have HM4 := Lib.hid hM; have HG4 := Lib.hid hg; clear hM hg))
            go_roundw
            case rel => exact ⟨k + 1, _, by omega, by go_num, by rw [← Nat.add_assoc]; exact Lib.hid (HR.out.put HOn.out.isMap HG4.out HM.out HM4.out), HStep, Lib.hid (HS.out.turned HOn.out.isMap HG4.out)⟩
            case measure => simp [intOf]; omega
        · obtain rfl : k = ks.length := by omega
          have hlt' : ¬ (ks.length : Int) < (ks.length : Int) := by omega
          have g2 : IntKind.i64.wrap ((i : Int) - 1) = (i : Int) - 1 := by rw [IntKind.wrap_i64]; omega
          have HDn := Lib.hid (HD.out.donR (by rw [← HKs.out]; exact Nat.le_refl _))
          go_wp2_with fail
          go_roundw
          case rel => exact ⟨i, f, by omega, ⟨_, rfl, rfl⟩, Lib.hid (HR.out.mono (by omega)), HDn⟩
          case measure => simp [intOf]
end Go.Proofs.YtmonepclhbappaaDoor
