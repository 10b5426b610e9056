/-
  The walk of WireBack.
-/
import Derived.Test.YtclbbchljiagpaaDoorWireO
namespace Go.Proofs.YtclbbchljiagpaaDoor
open Go.RowKit
set_option maxRecDepth 100000
set_option linter.unusedVariables false

theorem wordN_enc {z : Int} (h : fits z) (r : List Int) : ((wordN (wordL z.toNat ++ r) : Nat) : Int) = z := by
  rw [wordN_of (fits_cast h).2]; exact (fits_cast h).1
theorem take_l0 (x : Item) (r : List Int) (hk : x.kind = 0) (hf : fitI x) (zn : Int) (s : ByteArray) (LA : Option Addr) (ln lc g B : Nat) (A : Option Addr) (n c a : Nat) (l : List Int) (hd : l.drop a = enc x ++ r) (hm : a + (enc x).length ≤ n) (w : World) (hR : Rd w B g A n c a .nil) (hn : n ≤ 1099511627776) (hnc : n ≤ c) (hc9 : c ≤ 9223372036854775807) (hl : l.length = n) (hb : Bys l) (hB : ∀ w', Below B w w' → Sl w' 1 A n (l.map (Value.int .u8))) :
    Calls Tryd.prog 34 #[.pointer (some ⟨g, 0, none⟩), .agg #[.int .i64 0, .int .i64 zn, .string s, .slice LA ln lc]] w fun e w' => e = .returned (.agg #[.int .i64 0, .int .i64 x.n, .string ⟨#[]⟩, .slice none 0 0]) ∧ Rd w' B g A n c (a + (enc x).length) .nil ∧ Below B w w' := by
  have he : enc x = wordL x.n.toNat := by rw [enc, if_pos hk]
  rw [he] at hd hm ⊢
  rw [wordL_len] at hm ⊢
  have hw : ((wordN (l.drop a) : Nat) : Int) = x.n := by rw [hd, wordN_enc (hf.1 hk)]
  refine (take_k0 zn s LA ln lc g B A n c a l w hR hm hn hnc hc9 hl hb hB).mono ?_
  rintro e w' ⟨rfl, h1, h2⟩
  exact ⟨by rw [hw], h1, h2⟩
theorem take_l1 (x : Item) (r : List Int) (hk : x.kind = 1) (hz : -9223372036854775808 ≤ x.n ∧ x.n ≤ 9223372036854775807) (zn : Int) (s : ByteArray) (LA : Option Addr) (ln lc g B : Nat) (A : Option Addr) (n c a : Nat) (l : List Int) (hd : l.drop a = enc x ++ r) (hm : a + (enc x).length ≤ n) (w : World) (hR : Rd w B g A n c a .nil) (hn : n ≤ 1099511627776) (hnc : n ≤ c) (hc9 : c ≤ 9223372036854775807) (hl : l.length = n) (hb : Bys l) (hB : ∀ w', Below B w w' → Sl w' 1 A n (l.map (Value.int .u8))) :
    Calls Tryd.prog 34 #[.pointer (some ⟨g, 0, none⟩), .agg #[.int .i64 1, .int .i64 zn, .string s, .slice LA ln lc]] w fun e w' => e = .returned (.agg #[.int .i64 1, .int .i64 x.n, .string ⟨#[]⟩, .slice none 0 0]) ∧ Rd w' B g A n c (a + (enc x).length) .nil ∧ Below B w w' := by
  have he : enc x = wordL (hiN x.n) ++ wordL (loN x.n) := by rw [enc, if_neg (by omega), if_pos hk]
  rw [he] at hd hm ⊢
  rw [List.length_append, wordL_len, wordL_len] at hm ⊢
  have hw : longZ (l.drop a) = x.n := by rw [hd, long_back x.n hz]
  refine (take_k1 zn s LA ln lc g B A n c a l w hR hm hn hnc hc9 hl hb hB).mono ?_
  rintro e w' ⟨rfl, h1, h2⟩
  exact ⟨by rw [hw], h1, h2⟩
theorem take_l2 (x : Item) (r : List Int) (hk : x.kind = 2) (hs2 : x.s.size ≤ 200) (zn : Int) (s : ByteArray) (LA : Option Addr) (ln lc g B : Nat) (A : Option Addr) (n c a : Nat) (l : List Int) (hd : l.drop a = enc x ++ r) (hm : a + (enc x).length ≤ n) (w : World) (hR : Rd w B g A n c a .nil) (hn : n ≤ 1099511627776) (hnc : n ≤ c) (hc9 : c ≤ 9223372036854775807) (hl : l.length = n) (hb : Bys l) (hB : ∀ w', Below B w w' → Sl w' 1 A n (l.map (Value.int .u8))) :
    Calls Tryd.prog 34 #[.pointer (some ⟨g, 0, none⟩), .agg #[.int .i64 2, .int .i64 zn, .string s, .slice LA ln lc]] w fun e w' => e = .returned (.agg #[.int .i64 2, .int .i64 0, .string x.s, .slice none 0 0]) ∧ Rd w' B g A n c (a + (enc x).length) .nil ∧ Below B w w' := by
  have he : enc x = wordL x.s.size ++ sB x.s := by rw [enc, if_neg (by omega), if_neg (by omega), if_pos hk]
  rw [he] at hd hm ⊢
  rw [List.length_append, wordL_len, sB_len] at hm ⊢
  have hw : wordN (l.drop a) = x.s.size := by rw [hd, List.append_assoc, wordN_of (by omega)]
  have hd2 : (l.drop (a + 4)).take x.s.size = sB x.s := by
    rw [← List.drop_drop, hd, List.append_assoc, List.drop_left' (wordL_len _), List.take_left' (sB_len _)]
  refine (take_k2 zn s LA ln lc g B A n c a l w hR (by omega) hn hnc hc9 hl hb hB).mono ?_
  rintro e w' ⟨rfl, h1, h2⟩
  rw [hw] at h1 ⊢
  exact ⟨by rw [hd2, strOf_sB'], by rw [← Nat.add_assoc]; exact h1, h2⟩
theorem take_l3 (x : Item) (r : List Int) (hk : x.kind = 3) (hs2 : x.l.length ≤ 60) (hf : fitI x) (s : ByteArray) (LA : Option Addr) (ln lc g B : Nat) (A : Option Addr) (n c a : Nat) (l : List Int) (hd : l.drop a = enc x ++ r) (hm : a + (enc x).length ≤ n) (w : World) (hR : Rd w B g A n c a .nil) (hn : n ≤ 1099511627776) (hnc : n ≤ c) (hc9 : c ≤ 9223372036854775807) (hl : l.length = n) (hb : Bys l) (hB : ∀ w', Below B w w' → Sl w' 1 A n (l.map (Value.int .u8))) :
    Calls Tryd.prog 34 #[.pointer (some ⟨g, 0, none⟩), .agg #[.int .i64 3, .int .i64 60, .string s, .slice LA ln lc]] w fun e w' => ∃ C k, e = .returned (.agg #[.int .i64 3, .int .i64 0, .string ⟨#[]⟩, .slice C x.l.length k]) ∧ Sl w' 1 C x.l.length (x.l.map (Value.int .i64)) ∧ Rd w' B g A n c (a + (enc x).length) .nil ∧ Below B w w' := by
  have he : enc x = wordL x.l.length ++ encL x.l := by rw [enc, if_neg (by omega), if_neg (by omega), if_neg (by omega)]
  rw [he] at hd hm ⊢
  rw [List.length_append, wordL_len, encL_len] at hm ⊢
  have hw : wordN (l.drop a) = x.l.length := by rw [hd, List.append_assoc, wordN_of (by omega)]
  have hd2 : wordsL (l.drop (a + 4)) x.l.length = x.l := by
    rw [← List.drop_drop, hd, List.append_assoc, List.drop_left' (wordL_len _), wordsL_enc _ _ _ (Nat.le_refl _) (hf.2 (by omega) (by omega) (by omega)), List.take_length]
  refine (take_k3 0 s LA ln lc g B A n c a l w hR (by omega) (by omega) hn hnc hc9 hl hb hB).mono ?_
  rintro e w' ⟨C, k, rfl, h0, h1, h2⟩
  rw [hw] at h0 h1 ⊢
  rw [hd2] at h0
  exact ⟨C, k, rfl, h0, by rw [← Nat.add_assoc]; exact h1, h2⟩

set_option maxHeartbeats 2000000 in
theorem same_any (k n : Int) (s : ByteArray) (C D : Option Addr) (m kc kd : Nat) (l : List Int) (w : World) (hl : l.length = m) (h1 : Sl w 1 C m (l.map (Value.int .i64))) (h2 : Sl w 1 D m (l.map (Value.int .i64))) (hm : m ≤ 9223372036854775807) :
    Calls Tryd.prog 40 #[.agg #[.int .i64 k, .int .i64 n, .string s, .slice C m kc], .agg #[.int .i64 k, .int .i64 n, .string s, .slice D m kd]] w fun e w' => e = .returned (.bool true) ∧ Below w.heap.size w w' := by
  have H1 := Lib.hid h1
  have H2 := Lib.hid h2
  have hkk : (k == k) = true := by simp
  have hnn : (n == n) = true := by simp
  have hss : (s.data.toList == s.data.toList) = true := by simp
  clear h1 h2
  go_enter Tryd.func40, Tryd.ntmps40
  go_wp2_with fail
  have hbel := bel_al (bel_al (Below.refl w.heap.size w) (.cells #[.int .i64 k, .int .i64 n, .string s, .slice C m kc] 50)) (.cells #[.int .i64 k, .int .i64 n, .string s, .slice D m kd] 50)
  refine (SameInts_same l C D m kc kd _ hl (H1.out.keep hbel) (H2.out.keep hbel) hm).mono ?_
  have HBel := Lib.hid hbel
  clear hbel
  rintro e w1 ⟨rfl, hb⟩
  go_wp2_with fail
  go_ret
  exact ⟨rfl, HBel.out.andThen hb⟩

theorem encL_bys : ∀ l, Bys (encL l)
  | [] => fun x h => by cases h
  | z :: l => (wordL_bys _).append (encL_bys l)
theorem enc_bys (x : Item) : Bys (enc x) := by
  unfold enc
  split
  · exact wordL_bys _
  · split
    · exact (wordL_bys _).append (wordL_bys _)
    · split
      · exact (wordL_bys _).append (sB_bys _)
      · exact (wordL_bys _).append (encL_bys _)
theorem encs_bys : ∀ l, Bys (encs l)
  | [] => fun x h => by cases h
  | x :: l => (enc_bys x).append (encs_bys l)
theorem cellK {w w' : World} (h : Below w.heap.size w w') {p : Addr} {v : Value} (hp : w.cell? p = some v) : w'.cell? p = some v := (h.cell (World.block_lt_of_cell? w _ hp)).trans hp

set_option maxHeartbeats 8000000 in
theorem WireBack_yes (A2 : Option Addr) (n2 c2 : Nat) (xs : List Item) (w : World) (hg : ErrT w) (hm2 : n2 ≤ 9223372036854775807) (hI : Its w A2 n2 xs) (hN : Near xs) :
    Calls Tryd.prog 7 #[.slice A2 n2 c2] w fun e w' => e = .returned (.bool true) ∧ Below w.heap.size w w' := by
  have HG := Lib.hid hg
  have HI := Lib.hid hI
  have HN := Lib.hid hN
  clear hg hI hN
  go_enter Tryd.func7, Tryd.ntmps7
  go_wp2_with fail
  refine (alive03 w HG.out).mono ?_
  rintro e w1 ⟨rfl, hb⟩
  have HB := Lib.hid hb
  replace HG := Lib.hid (HG.out.keep hb)
  replace HI := Lib.hid (HI.out.keep hb)
  clear hb
  have hF := far_any xs A2 n2 c2 w1 hm2 HI.out
  rw [decide_eq_true HN.out] at hF
  have HF := Lib.hid hF
  clear hF
  go_wp2_with fail
  refine HF.out.mono ?_
  rintro e w0 ⟨rfl, rfl⟩
  clear HF
  have HP := Lib.hid (put_any xs A2 n2 c2 w1 HI.out HN.out)
  have hpl := pItems_len (l := xs) HN.out.2 ([], .nil)
  have hl40 := HN.out.1
  simp only [List.length_nil] at hpl
  have HNil := Lib.hid (fun h => pItems_nil (l := xs) (st := ([], .nil)) h HN.out.2)
  generalize pItems xs ([], .nil) = st at *
  go_wp2_with fail
  refine HP.out.mono ?_
  rintro e w2 ⟨gw, rfl, hW, hb⟩
  replace HB := Lib.hid (HB.out.andThen hb)
  replace HI := Lib.hid (HI.out.keep hb)
  replace HG := Lib.hid (HG.out.keep hb)
  have HW := Lib.hid hW
  clear hb hW HP
  go_wp2_with fail
  refine (Err_any gw _ st w2 HW.out).mono ?_
  rintro e w0 ⟨v, rfl, hv, rfl⟩
  by_cases hE : st.2 = .nil
  · rw [hE] at hv
    obtain rfl : v = .nilIface := hv
    obtain ⟨hf, _, hst⟩ := HNil.out hE
    rw [List.nil_append] at hst
    have HFi := Lib.hid hf
    obtain ⟨bs, E⟩ := st
    simp only at hst hE hpl
    subst hst hE
    clear HNil hf
    go_wp2_with fail
    refine (Bytes_any gw _ (encs xs, .nil) w2 HW.out (by simp only; omega)).mono ?_
    rintro e w3 ⟨C, kc, rfl, hS, hk, hb⟩
    simp only at hS hk
    replace HB := Lib.hid (HB.out.andThen hb)
    replace HI := Lib.hid (HI.out.keep hb)
    replace HG := Lib.hid (HG.out.keep hb)
    have HS := Lib.hid hS
    have hnb : (encs xs).length ≤ 1099511627776 := by omega
    have HEnd := Lib.hid (show (encs (xs.take 0)).length = 0 from rfl)
    have HBy := Lib.hid (encs_bys xs)
    have HDr := Lib.hid (fun (i : Nat) (x : Item) (h : xs[i]? = some x) => encs_drop (xs := xs) h)
    have HAll := Lib.hid (show (encs (xs.take n2)).length = (encs xs).length by rw [← HI.out.1, List.take_length])
    clear hb hS HW hpl
    generalize hnbe : (encs xs).length = nb at *
    have HL := Lib.hid hnbe
    clear hnbe
    generalize encs xs = el at *
    go_wp2_with fail
    refine (NewReader_any C nb kc w3).mono ?_
    rintro e w4 ⟨g, rfl, hR, hb⟩
    have HR := Lib.hid hR
    have HB4 := Lib.hid hb
    have HSB := Lib.hid (fun (W W' : World) (h : Below w3.heap.size w3 W) (h' : Below w3.heap.size W W') => HS.out.keep (h.trans h'))
    clear hR hb
    go_wp2_with fail
    go_loopw [5] (fun iv wr => ∃ i : Nat, i ≤ n2 ∧ iv = .int .i64 i ∧ Rd wr w3.heap.size g C nb kc (encs (xs.take i)).length .nil ∧ Below w3.heap.size w3 wr) (fun iv _ => n2 - (intOf iv).toNat)
    case atStart => exact ⟨0, Nat.zero_le _, rfl, by rw [HEnd.out]; exact HR.out, HB4.out⟩
    case round =>
      obtain ⟨i, hi, rfl, hR, hb⟩ := hrel
      clear HR HB4
      have HR := Lib.hid hR
      have HBr := Lib.hid hb
      clear hR hb
      by_cases hlt : i < n2
      · have hj : i < xs.length := by have := HI.out.1; omega
        obtain ⟨hok, b, off, LA, lc, rfl, d0, d1, d2, d3, hsL, hlc⟩ := HI.out.2 i xs[i] (List.getElem?_eq_getElem hj)
        have hnr := HN.out.2 _ (List.getElem_mem hj)
        have hfi := HFi.out _ (List.getElem_mem hj)
        have hdr := HDr.out i _ (List.getElem?_eq_getElem hj)
        generalize xs[i] = x at *
        generalize encs (xs.drop (i + 1)) = rr at *
        obtain ⟨hdr1, hdr2, hdr3⟩ := hdr
        have HD2 := Lib.hid hdr2
        clear hdr2
        generalize (encs (xs.take i)).length = a at *
        have HSL := Lib.hid hsL
        have HD0 := Lib.hid d0
        have HD1 := Lib.hid d1
        have HD2' := Lib.hid d2
        have HD3 := Lib.hid d3
        have HK := Lib.hid (fun W (h : Below w3.heap.size w3 W) => And.intro (cellK h d0) (And.intro (cellK h d1) (And.intro (cellK h d2) (cellK h d3))))
        clear hsL HD0 HD1 HD2' HD3 d0 d1 d2 d3
        have hkind : x.kind = 0 ∨ x.kind = 1 ∨ x.kind = 2 ∨ x.kind = 3 := by obtain ⟨_, _, h1, h2⟩ := hnr; omega
        have HOK := Lib.hid hok
        have HNr := Lib.hid hnr
        have HFx := Lib.hid hfi
        have HDr1 := Lib.hid hdr1
        have hlen60 : x.l.length ≤ 60 := hnr.2.1
        clear hok hnr hfi hdr1
        rcases hkind with e0 | e0 | e0 | e0
        · have HT := Lib.hid (fun W (h : Below wr.heap.size wr W) => take_l0 x rr e0 HFx.out x.n x.s LA x.l.length lc g _ C nb kc a el HDr1.out hdr3 W (HR.out.keep h) hnb hk.1 hk.2 HL.out HBy.out (fun W' h' => HSB.out W W' (HBr.out.andThen h) h'))
          obtain ⟨d0, d1, d2, d3⟩ := HK.out wr HBr.out
          rw [e0] at d0
          have HE0 := Lib.hid e0
          clear e0
          go_wp2_with fail
          have hbel := (bel_al (Below.refl wr.heap.size wr) (.cells #[.int .i64 0, .int .i64 x.n, .string x.s, .slice LA x.l.length lc] 50))
          have HBel := Lib.hid hbel
          refine (HT.out _ hbel).mono ?_
          clear hbel d0 d1 d2 d3 HT
          rintro e w5 ⟨rfl, hR5, hb5⟩
          have HB5 := Lib.hid ((HBr.out.andThen HBel.out).trans hb5)
          have HR5 := Lib.hid hR5

          obtain ⟨d0, d1, d2, d3⟩ := HK.out (w5.alloc (.cells #[.int .i64 0, .int .i64 x.n, .string ⟨#[]⟩, .slice none 0 0] 50)) (HB5.out.andThen (bel_al (Below.refl _ _) _))
          rw [HE0.out] at d0
          clear hR5 hb5 HBel HR
          go_wp2_with fail
          have hbel2 := (bel_al (bel_al (Below.refl w5.heap.size w5) (.cells #[.int .i64 0, .int .i64 x.n, .string ⟨#[]⟩, .slice none 0 0] 50)) (.cells #[.int .i64 0, .int .i64 x.n, .string ⟨#[]⟩, .slice none 0 0] 50))
          have HBel2 := Lib.hid hbel2
          refine (same_any 0 x.n ⟨#[]⟩ none none 0 0 0 [] _ rfl (Sl.nil _ _ _) (Sl.nil _ _ _) (Nat.zero_le _)).mono ?_
          clear hbel2 d0 d1 d2 d3
          rintro e w6 ⟨rfl, hb6⟩
          have HB6 := Lib.hid (HBel2.out.andThen hb6)
          clear hb6 HBel2
          go_wp2_with fail
          go_roundw
          case rel => exact ⟨i + 1, by omega, by go_num, by rw [HD2.out]; exact HR5.out.keep HB6.out, HB5.out.andThen HB6.out⟩
          case measure => simp [intOf]; omega
        · have HT := Lib.hid (fun W (h : Below wr.heap.size wr W) => take_l1 x rr e0 HOK.out.2.1 x.n x.s LA x.l.length lc g _ C nb kc a el HDr1.out hdr3 W (HR.out.keep h) hnb hk.1 hk.2 HL.out HBy.out (fun W' h' => HSB.out W W' (HBr.out.andThen h) h'))
          obtain ⟨d0, d1, d2, d3⟩ := HK.out wr HBr.out
          rw [e0] at d0
          have HE0 := Lib.hid e0
          clear e0
          go_wp2_with fail
          have hbel := (bel_al (Below.refl wr.heap.size wr) (.cells #[.int .i64 1, .int .i64 x.n, .string x.s, .slice LA x.l.length lc] 50))
          have HBel := Lib.hid hbel
          refine (HT.out _ hbel).mono ?_
          clear hbel d0 d1 d2 d3 HT
          rintro e w5 ⟨rfl, hR5, hb5⟩
          have HB5 := Lib.hid ((HBr.out.andThen HBel.out).trans hb5)
          have HR5 := Lib.hid hR5

          obtain ⟨d0, d1, d2, d3⟩ := HK.out (w5.alloc (.cells #[.int .i64 1, .int .i64 x.n, .string ⟨#[]⟩, .slice none 0 0] 50)) (HB5.out.andThen (bel_al (Below.refl _ _) _))
          rw [HE0.out] at d0
          clear hR5 hb5 HBel HR
          go_wp2_with fail
          have hbel2 := (bel_al (bel_al (Below.refl w5.heap.size w5) (.cells #[.int .i64 1, .int .i64 x.n, .string ⟨#[]⟩, .slice none 0 0] 50)) (.cells #[.int .i64 1, .int .i64 x.n, .string ⟨#[]⟩, .slice none 0 0] 50))
          have HBel2 := Lib.hid hbel2
          refine (same_any 1 x.n ⟨#[]⟩ none none 0 0 0 [] _ rfl (Sl.nil _ _ _) (Sl.nil _ _ _) (Nat.zero_le _)).mono ?_
          clear hbel2 d0 d1 d2 d3
          rintro e w6 ⟨rfl, hb6⟩
          have HB6 := Lib.hid (HBel2.out.andThen hb6)
          clear hb6 HBel2
          go_wp2_with fail
          go_roundw
          case rel => exact ⟨i + 1, by omega, by go_num, by rw [HD2.out]; exact HR5.out.keep HB6.out, HB5.out.andThen HB6.out⟩
          case measure => simp [intOf]; omega
        · have HT := Lib.hid (fun W (h : Below wr.heap.size wr W) => take_l2 x rr e0 HNr.out.1 x.n x.s LA x.l.length lc g _ C nb kc a el HDr1.out hdr3 W (HR.out.keep h) hnb hk.1 hk.2 HL.out HBy.out (fun W' h' => HSB.out W W' (HBr.out.andThen h) h'))
          obtain ⟨d0, d1, d2, d3⟩ := HK.out wr HBr.out
          rw [e0] at d0
          have HE0 := Lib.hid e0
          clear e0
          go_wp2_with fail
          have hbel := (bel_al (Below.refl wr.heap.size wr) (.cells #[.int .i64 2, .int .i64 x.n, .string x.s, .slice LA x.l.length lc] 50))
          have HBel := Lib.hid hbel
          refine (HT.out _ hbel).mono ?_
          clear hbel d0 d1 d2 d3 HT
          rintro e w5 ⟨rfl, hR5, hb5⟩
          have HB5 := Lib.hid ((HBr.out.andThen HBel.out).trans hb5)
          have HR5 := Lib.hid hR5

          obtain ⟨d0, d1, d2, d3⟩ := HK.out (w5.alloc (.cells #[.int .i64 2, .int .i64 0, .string x.s, .slice none 0 0] 50)) (HB5.out.andThen (bel_al (Below.refl _ _) _))
          rw [HE0.out] at d0
          clear hR5 hb5 HBel HR
          go_wp2_with fail
          have hbel2 := (bel_al (bel_al (Below.refl w5.heap.size w5) (.cells #[.int .i64 2, .int .i64 0, .string x.s, .slice none 0 0] 50)) (.cells #[.int .i64 2, .int .i64 0, .string x.s, .slice none 0 0] 50))
          have HBel2 := Lib.hid hbel2
          refine (same_any 2 0 x.s none none 0 0 0 [] _ rfl (Sl.nil _ _ _) (Sl.nil _ _ _) (Nat.zero_le _)).mono ?_
          clear hbel2 d0 d1 d2 d3
          rintro e w6 ⟨rfl, hb6⟩
          have HB6 := Lib.hid (HBel2.out.andThen hb6)
          clear hb6 HBel2
          go_wp2_with fail
          go_roundw
          case rel => exact ⟨i + 1, by omega, by go_num, by rw [HD2.out]; exact HR5.out.keep HB6.out, HB5.out.andThen HB6.out⟩
          case measure => simp [intOf]; omega
        · have HT := Lib.hid (fun W (h : Below wr.heap.size wr W) => take_l3 x rr e0 HNr.out.2.1 HFx.out x.s LA x.l.length lc g _ C nb kc a el HDr1.out hdr3 W (HR.out.keep h) hnb hk.1 hk.2 HL.out HBy.out (fun W' h' => HSB.out W W' (HBr.out.andThen h) h'))
          obtain ⟨d0, d1, d2, d3⟩ := HK.out wr HBr.out
          rw [e0] at d0
          have HE0 := Lib.hid e0
          clear e0
          go_wp2_with fail
          have hbel := (bel_al (Below.refl wr.heap.size wr) (.cells #[.int .i64 3, .int .i64 60, .string x.s, .slice LA x.l.length lc] 50))
          have HBel := Lib.hid hbel
          refine (HT.out _ hbel).mono ?_
          clear hbel d0 d1 d2 d3 HT
          rintro e w5 ⟨C3, k3, rfl, hs3, hR5, hb5⟩
          have HB5 := Lib.hid ((HBr.out.andThen HBel.out).trans hb5)
          have HR5 := Lib.hid hR5
          have HS3 := Lib.hid hs3
          obtain ⟨d0, d1, d2, d3⟩ := HK.out (w5.alloc (.cells #[.int .i64 3, .int .i64 0, .string ⟨#[]⟩, .slice C3 x.l.length k3] 50)) (HB5.out.andThen (bel_al (Below.refl _ _) _))
          rw [HE0.out] at d0
          clear hR5 hb5 HBel HR hs3
          go_wp2_with fail
          have hbel2 := (bel_al (bel_al (Below.refl w5.heap.size w5) (.cells #[.int .i64 3, .int .i64 0, .string ⟨#[]⟩, .slice C3 x.l.length k3] 50)) (.cells #[.int .i64 3, .int .i64 0, .string ⟨#[]⟩, .slice LA x.l.length lc] 50))
          have HBel2 := Lib.hid hbel2
          refine (same_any 3 0 ⟨#[]⟩ C3 LA x.l.length k3 lc x.l _ rfl (HS3.out.keep hbel2) (HSL.out.keep (HB5.out.andThen hbel2)) (by omega)).mono ?_
          clear hbel2 d0 d1 d2 d3
          rintro e w6 ⟨rfl, hb6⟩
          have HB6 := Lib.hid (HBel2.out.andThen hb6)
          clear hb6 HBel2
          go_wp2_with fail
          go_roundw
          case rel => exact ⟨i + 1, by omega, by go_num, by rw [HD2.out]; exact HR5.out.keep HB6.out, HB5.out.andThen HB6.out⟩
          case measure => simp [intOf]; omega
      · obtain rfl : i = n2 := by omega
        rw [HAll.out] at HR
        have HB5 := Lib.hid (HB.out.andThen HBr.out)
        replace HG := Lib.hid (HG.out.keep HBr.out)
        clear HB HBr HI HS HSB
        go_wp2_with fail
        refine (Num_nil 1 wr).mono ?_
        rintro e w0 ⟨rfl, rfl⟩
        go_wp2_with fail
        refine (Long_nil 1 wr).mono ?_
        rintro e w0 ⟨rfl, rfl⟩
        go_wp2_with fail
        refine (Text_nil _ wr).mono ?_
        rintro e w0 ⟨rfl, rfl⟩
        go_wp2_with fail
        refine (List_nil wr).mono ?_
        rintro e w0 ⟨rfl, rfl⟩
        go_wp2_with fail
        refine (End_ok g _ C nb kc wr HR.out hnb).mono ?_
        rintro e w5 ⟨rfl, hb⟩
        replace HB5 := Lib.hid (HB5.out.andThen hb)
        replace HG := Lib.hid (HG.out.keep hb)
        replace HR := Lib.hid (HR.out.keep hb)
        clear hb
        go_wp2_with fail
        have hLf := Left_any g _ C nb kc nb .nil w5 HR.out hnb
        rw [Nat.sub_self] at hLf
        refine hLf.mono ?_
        rintro e w6 ⟨rfl, hb⟩
        replace HB5 := Lib.hid (HB5.out.andThen hb)
        replace HG := Lib.hid (HG.out.keep hb)
        clear hb hLf HR
        go_wp2_with fail
        refine (RNum_nil w6).mono ?_
        rintro e w0 ⟨rfl, rfl⟩
        go_wp2_with fail
        refine (RLong_nil w6).mono ?_
        rintro e w0 ⟨rfl, rfl⟩
        go_wp2_with fail
        refine (RText_nil w6).mono ?_
        rintro e w0 ⟨rfl, rfl⟩
        go_wp2_with fail
        refine (RList_nil 9 w6).mono ?_
        rintro e w0 ⟨rfl, rfl⟩
        go_wp2_with fail
        refine (RLeft_nil w6).mono ?_
        rintro e w0 ⟨rfl, rfl⟩
        go_wp2_with fail
        refine (REnd_nil w6).mono ?_
        rintro e w7 ⟨v, rfl, ⟨t, hv⟩, hb⟩
        replace HB5 := Lib.hid (HB5.out.andThen hb)
        replace HG := Lib.hid (HG.out.keep hb)
        have HV := Lib.hid hv
        clear hb hv
        go_wp2_with fail
        refine (Code_any _ v w7 HV.out HG.out).mono ?_
        rintro e w8 ⟨rfl, hb⟩
        replace HB5 := Lib.hid (HB5.out.andThen hb)
        replace HG := Lib.hid (HG.out.keep hb)
        clear hb HV
        rw [show (Err.flt 10 0 t).code = 10 from rfl]
        go_wp2_with fail
        refine (Err_nil w8).mono ?_
        rintro e w9 ⟨v, rfl, ⟨t, hv⟩, hb⟩
        replace HB5 := Lib.hid (HB5.out.andThen hb)
        replace HG := Lib.hid (HG.out.keep hb)
        have HV := Lib.hid hv
        clear hb hv
        go_wp2_with fail
        refine (Code_any _ v w9 HV.out HG.out).mono ?_
        rintro e w10 ⟨rfl, hb⟩
        replace HB5 := Lib.hid (HB5.out.andThen hb)
        clear hb HV HG
        rw [show (Err.flt 10 0 t).code = 10 from rfl]
        go_wp2_with fail
        refine (Bytes_nil w10).mono ?_
        rintro e w0 ⟨rfl, rfl⟩
        go_wp2_with fail
        go_ret
        exact ⟨rfl, HB5.out⟩
  · obtain ⟨T, xv, rfl⟩ := Err.At.iface_ hv hE
    clear HNil hE hv
    go_wp2_with fail
    go_ret
    exact ⟨rfl, HB.out⟩

theorem WireBack_main (A2 : Option Addr) (n2 c2 : Nat) (xs : List Item) (w : World) (hg : ErrT w) (m2 : n2 ≤ maxLen) (_ : xs.length = n2) (hI : Its w A2 n2 xs) (_ : True) :
    Calls Tryd.prog 7 #[.slice A2 n2 c2] w fun e w' => e = .returned (.bool true) ∧ Below w.heap.size w w' := by
  unfold maxLen at m2
  by_cases h : Near xs
  · exact WireBack_yes A2 n2 c2 xs w hg m2 hI h
  · go_enter Tryd.func7, Tryd.ntmps7
    have HI := Lib.hid hI
    clear hI
    go_wp2_with fail
    refine (alive03 w hg).mono ?_
    rintro e w1 ⟨rfl, hb⟩
    have HB := Lib.hid hb
    replace HI := Lib.hid (HI.out.keep hb)
    clear hb hg
    have hF := far_any xs A2 n2 c2 w1 m2 HI.out
    rw [decide_eq_false h] at hF
    have HF := Lib.hid hF
    clear h hF
    go_wp2_with fail
    refine HF.out.mono ?_
    rintro e w0 ⟨rfl, rfl⟩
    go_wp2_with fail
    go_ret
    exact ⟨rfl, HB.out⟩
end Go.Proofs.YtclbbchljiagpaaDoor
