/-
  The walk of FaultFirst.
-/
import Derived.Test.YtkhhjompondnnaaDoorLaw01
namespace Go.Proofs.YtkhhjompondnnaaDoor
open Go.RowKit Go.Extern.Stop Go.Stop Go.Extern
set_option maxRecDepth 100000

theorem elemErr : Elem Tryd.prog 90 26 .nilIface 1 16 := ⟨Tryd.underlying90, by kernel_rfl, rfl, by decide⟩

/-- A plain error (nothing, or a fault) stays while a row of errors grows. -/
theorem Err.At.others {w w' : World} {B n : Nat} {row : Value} {xs : List Value} (hown : w.ownsRow B 26 1 row n xs) (hg : w.grownBy w' row.ownBlock) : ∀ {E : Err} {v : Value}, E.At w v → E.At w' v
  | .nil, _, h => h
  | .flt _ _ _, _, ⟨g, h1, h2⟩ => ⟨g, h1, h2.others hown hg (by decide)⟩
  | .step _ _, _, ⟨g, v', h1, h2, h3, h4⟩ => ⟨g, v', h1, h2.others hown hg (by decide), Err.At.others hown hg h3, h4⟩
  | .txt _, _, ⟨g, h1, h2⟩ => ⟨g, h1, h2.others hown hg (by decide)⟩
theorem Err.AtAll.others {w w' : World} {B n : Nat} {row : Value} {xs : List Value} (hown : w.ownsRow B 26 1 row n xs) (hg : w.grownBy w' row.ownBlock) : ∀ {Es : List Err} {vs : List Value}, Err.AtAll w Es vs → Err.AtAll w' Es vs
  | [], _, h => h
  | _ :: _, _, ⟨v, vs', h1, h2, h3⟩ => ⟨v, vs', h1, h2.others hown hg, h3.others hown hg⟩
theorem Err.AtAll.snoc {w : World} : ∀ {Es : List Err} {vs : List Value} {E : Err} {v : Value}, Err.AtAll w Es vs → E.At w v → Err.AtAll w (Es ++ [E]) (vs ++ [v])
  | [], _, _, _, h, hv => by rw [show _ = [] from h]; exact ⟨_, _, rfl, hv, rfl⟩
  | _ :: _, _, _, _, ⟨u, vs', h1, h2, h3⟩, hv => ⟨u, vs' ++ [_], by rw [h1]; rfl, h2, h3.snoc hv⟩

/-- The errors of some codes. -/
def errsOf (name : ByteArray) : Nat → List Int → List Err
  | _, [] => []
  | i, c :: l => (if c = 0 then .nil else .flt c i name) :: errsOf name (i + 1) l
/-- The first code that isn't 0. -/
def firstCode : List Int → Int
  | [] => 0
  | c :: l => if c = 0 then firstCode l else c
theorem errsOf_len (name : ByteArray) : ∀ i l, (errsOf name i l).length = l.length
  | _, [] => rfl
  | i, _ :: l => by simp [errsOf, errsOf_len name (i + 1) l]
theorem errsOf_snoc (name : ByteArray) (c : Int) : ∀ i l, errsOf name i (l ++ [c]) = errsOf name i l ++ [if c = 0 then .nil else .flt c ((i + l.length : Nat) : Int) name]
  | i, [] => by simp [errsOf]
  | i, d :: l => by
    rw [List.cons_append, errsOf, errsOf_snoc name c (i + 1) l, errsOf, List.cons_append, List.length_cons]
    congr 5
    congr 1
    omega
theorem firstCode_snoc (c : Int) : ∀ l, firstCode (l ++ [c]) = if firstCode l = 0 then c else firstCode l
  | [] => by by_cases h : c = 0 <;> simp [firstCode, h]
  | d :: l => by
    rw [List.cons_append, firstCode, firstCode_snoc c l, firstCode]
    by_cases h : d = 0
    · simp [h]
    · simp [h]
theorem first_code (name : ByteArray) : ∀ i l, (Err.first (errsOf name i l)).code = firstCode l ∧ (Err.first (errsOf name i l) = .nil ↔ firstCode l = 0)
  | _, [] => ⟨rfl, by simp [errsOf, Err.first, firstCode]⟩
  | i, c :: l => by
    by_cases h : c = 0
    · have := first_code name (i + 1) l
      simp only [errsOf, h, if_true, Err.first, firstCode]
      exact this
    · simp [errsOf, h, Err.first, firstCode, Err.code]

theorem Sl.again {w : World} {b off n k : Nat} {xs : List Value} {u : Value} (h : Sl w 1 (some ⟨b, off, none⟩) n xs) (hk : k < n) (hu : xs[k]? = some u) : w.cell? ⟨b, off + k, none⟩ = some u := by
  obtain ⟨b', off', u', hA, h1, h2⟩ := h.one hk
  cases hA
  rw [hu] at h1
  cases h1
  exact h2

set_option maxHeartbeats 4000000 in
theorem FaultFirst_walk (at_ : Int) (name : ByteArray) (A : Option Addr) (n cp : Nat) (cs : List Int) (w : World) (hg : ErrT w) (hn : n ≤ 9223372036854775807) (hl : cs.length = n) (hs : Sl w 1 A n (cs.map (Value.int .i64))) :
    Calls Tryd.prog 11 #[.slice A n cp, .int .i64 at_, .string name] w fun e w' => e = .returned (.bool true) ∧ Below w.heap.size w w' := by
  go_enter Tryd.func11, Tryd.ntmps11
  go_wp2_with fail
  refine (alive01 w hg).mono ?_
  rintro e w1 ⟨rfl, hb1⟩
  have HB1 := Lib.hid hb1
  have HG1 := Lib.hid (hg.keep hb1)
  have HS := Lib.hid (hs.keep hb1)
  clear hs hg hb1
  by_cases hm : n ≤ 30
  · go_wp2_with fail
    go_loopw [7, 8, 9] (fun l wt i wr => ∃ (k : Nat) (vs : List Value), k ≤ n ∧ i = .int .i64 k ∧ wt = .int .i64 (firstCode (cs.take k)) ∧ wr.ownsRow w1.heap.size 26 1 l k vs ∧ Below w1.heap.size w1 wr ∧ Err.AtAll wr (errsOf name 0 (cs.take k)) vs) (fun _ _ i _ => n - (intOf i).toNat)
    case atStart => exact ⟨0, [], Nat.zero_le _, rfl, rfl, World.ownsRow_nil _ _ _ _, Below.refl _ _, rfl⟩
    case round =>
      obtain ⟨k, vs, hk, rfl, rfl, hown, hb, hE⟩ := hrel
      by_cases hlt : k < n
      · have hj : k < cs.length := by omega
        obtain ⟨b, off, u, rfl, e1, c1⟩ := (HS.out.keep hb).one hlt
        have HQ := Lib.hid e1
        rw [List.getElem?_map, List.getElem?_eq_getElem hj] at e1
        obtain rfl := Option.some.inj e1
        have HT := Lib.hid (List.take_succ_eq_append_getElem hj)
        have htl : (cs.take k).length = k := by rw [List.length_take]; omega
        generalize cs[k] = c at *
        have HF := Lib.hid (firstCode_snoc c (cs.take k))
        have HR := Lib.hid (errsOf_snoc name c 0 (cs.take k))
        have HLT := Lib.hid htl
        have HE := Lib.hid hE
        generalize hfc : firstCode (cs.take k) = fc at *
        clear hfc hE e1 htl
        by_cases hc0 : c = 0
        · subst hc0
          go_wp2_with (at_builtin; refine wpList_push_g elemErr _ _ rfl rfl hown hb (Nat.le_refl _) rfl rfl rfl (by simp [Value.oneCell']) (by unfold lim; omega) (by unfold lim; omega) ?_; intro v' w5 hown1 hb5 hgr)
          go_roundw
          case rel =>
            refine ⟨k + 1, _, by omega, by go_num, ?_, hown1, hb5, ?_⟩
            · rw [HT.out, HF.out]; split <;> simp_all
            · rw [HT.out, HR.out, if_pos rfl]
              exact (HE.out.others hown hgr).snoc rfl
          case measure => simp [intOf]; omega
        · have hcb : ((c : Int) == 0) = false := by simpa using hc0
          have HC0 := Lib.hid hc0
          clear hc0
          by_cases hfz : fc = 0
          · subst hfz
            go_wp2_with fail
            refine (New_calls c k name wr).mono ?_
            rintro e w3 ⟨rfl, hw3⟩
            have hown3 : w3.ownsRow w1.heap.size 26 1 u7 k vs := by rw [← hw3]; exact hown.alloc _
            have hb3 : Below w1.heap.size w1 w3 := by rw [← hw3]; exact bel_al hb _
            have hbn : Below wr.heap.size wr w3 := by rw [← hw3]; exact bel_al (Below.refl _ _) _
            have HK := Lib.hid (show Blk w3 wr.heap.size 81 #[.int .i64 c, .int .i64 k, .string name] by rw [← hw3]; exact Blk.new _ _ _)
            have HBN := Lib.hid hbn
            clear hw3 hbn hown hb
            go_wp2_with (at_builtin; refine wpList_push_g elemErr _ _ rfl rfl hown3 hb3 (Nat.le_refl _) rfl rfl rfl (by simp [Value.oneCell']) (by unfold lim; omega) (by unfold lim; omega) ?_; intro v' w5 hown1 hb5 hgr; have c5 := (HS.out.keep hb5).again hlt HQ.out)
            go_roundw
            case rel =>
              refine ⟨k + 1, _, by omega, by go_num, ?_, hown1, hb5, ?_⟩
              · rw [HT.out, HF.out]; rfl
              · rw [HT.out, HR.out, if_neg HC0.out]
                refine ((HE.out.keep HBN.out).others hown3 hgr).snoc ?_
                rw [HLT.out, Nat.zero_add]
                exact ⟨_, rfl, HK.out.others hown3 hgr (by decide)⟩
            case measure => simp [intOf]; omega
          · have hfb : ((fc : Int) == 0) = false := by simpa using hfz
            have HFZ := Lib.hid hfz
            clear hfz
            go_wp2_with fail
            refine (New_calls c k name wr).mono ?_
            rintro e w3 ⟨rfl, hw3⟩
            have hown3 : w3.ownsRow w1.heap.size 26 1 u7 k vs := by rw [← hw3]; exact hown.alloc _
            have hb3 : Below w1.heap.size w1 w3 := by rw [← hw3]; exact bel_al hb _
            have hbn : Below wr.heap.size wr w3 := by rw [← hw3]; exact bel_al (Below.refl _ _) _
            have HK := Lib.hid (show Blk w3 wr.heap.size 81 #[.int .i64 c, .int .i64 k, .string name] by rw [← hw3]; exact Blk.new _ _ _)
            have HBN := Lib.hid hbn
            clear hw3 hbn hown hb
            go_wp2_with (at_builtin; refine wpList_push_g elemErr _ _ rfl rfl hown3 hb3 (Nat.le_refl _) rfl rfl rfl (by simp [Value.oneCell']) (by unfold lim; omega) (by unfold lim; omega) ?_; intro v' w5 hown1 hb5 hgr)
            go_roundw
            case rel =>
              refine ⟨k + 1, _, by omega, by go_num, ?_, hown1, hb5, ?_⟩
              · rw [HT.out, HF.out, if_neg HFZ.out]
              · rw [HT.out, HR.out, if_neg HC0.out]
                refine ((HE.out.keep HBN.out).others hown3 hgr).snoc ?_
                rw [HLT.out, Nat.zero_add]
                exact ⟨_, rfl, HK.out.others hown3 hgr (by decide)⟩
            case measure => simp [intOf]; omega
      · obtain rfl : k = n := by omega
        rw [List.take_of_length_le (by omega)] at hE ⊢
        obtain ⟨fc1, fc2⟩ := first_code name 0 cs
        have hel : (errsOf name 0 cs).length = k := by rw [errsOf_len]; exact hl
        generalize errsOf name 0 cs = Es at *
        generalize firstCode cs = fc at *
        obtain ⟨D, c3, rfl, hsl⟩ := Sl.own hown
        have HX := Lib.hid (First_any Es vs D k c3 wr (by omega) hel hE hsl)
        have HFC := Lib.hid fc1
        have HFN := Lib.hid fc2
        have HB := Lib.hid (HB1.out.andThen hb)
        have HG := Lib.hid (HG1.out.keep hb)
        clear hE hown hsl hel fc1 fc2 hb hl HB1 HG1
        go_wp2_with fail
        refine HX.out.mono ?_
        rintro e w3 ⟨v, rfl, hv, rfl⟩
        go_wp2_with fail
        have HV := Lib.hid hv
        have hz : (fc = 0 ∧ v = .nilIface) ∨ ((fc == 0) = false ∧ ∃ T x, v = .iface T x) := by
          by_cases h : fc = 0
          · exact .inl ⟨h, by have := HV.out; rw [HFN.out.2 h] at this; exact this⟩
          · exact .inr ⟨by simpa using h, Err.At.iface_ HV.out (fun e => h (HFN.out.1 e))⟩
        have hC := Code_any _ v wr HV.out HG.out
        rw [HFC.out] at hC
        have HC := Lib.hid hC
        clear hC hv HX HFN HFC
        rcases hz with ⟨rfl, rfl⟩ | ⟨hz, T, x, rfl⟩
        all_goals
          go_wp2_with fail
          refine HC.out.mono ?_
          rintro e w3 ⟨rfl, hb3⟩
          have HB3 := Lib.hid hb3
          have HG3 := Lib.hid (HG.out.keep hb3)
          clear hb3 HC
          go_wp2_with fail
          refine (New_calls 3 at_ name w3).mono ?_
          rintro e w4 ⟨rfl, hw4⟩
          have hb4 : Below w3.heap.size w3 w4 := by rw [← hw4]; exact bel_al (Below.refl _ _) _
          have hK := (show Err.At w4 (.flt 3 at_ name) (.iface 77 (.pointer (some ⟨w3.heap.size, 0, none⟩))) from ⟨_, rfl, by rw [← hw4]; exact Blk.new _ _ _⟩)
          have HK := Lib.hid hK
          have HB4 := Lib.hid hb4
          clear hw4 hb4 hK
          go_wp2_with fail
          refine (In_any _ _ _ w4 HK.out).mono ?_
          rintro e w5 ⟨v5, rfl, hv5, hb5⟩
          obtain ⟨T5, x5, rfl⟩ := Err.At.iface_ hv5 (fun h => by cases h)
          have HV5 := Lib.hid hv5
          have HB5 := Lib.hid hb5
          clear hv5 hb5
          go_wp2_with fail
          refine (Unwrap_any _ _ w5 w5 HV5.out (Below.refl _ _)).mono ?_
          rintro e w6 ⟨v6, rfl, hv6, rfl⟩
          have HV6 := Lib.hid (show Err.At w5 (.flt 3 at_ name) v6 from hv6)
          have HG5 := Lib.hid ((HG3.out.keep HB4.out).keep HB5.out)
          clear hv6
          go_wp2_with fail
          refine (Code_any _ _ w5 HV6.out HG5.out).mono ?_
          rintro e w7 ⟨rfl, hb7⟩
          have HB7 := Lib.hid hb7
          clear hb7
          go_wp2_with fail
          refine (At_any _ _ w7 (HV6.out.keep HB7.out) (HG5.out.keep HB7.out)).mono ?_
          rintro e w8 ⟨rfl, hb8⟩
          have HB8 := Lib.hid (HB7.out.andThen hb8)
          clear hb8
          go_wp2_with fail
          have hb9 := bel_al (Below.refl w8.heap.size w8) (.cells #[.int .i64 3, .int .i64 0, .string ⟨#[]⟩] 81)
          have hI := errorsIs_any _ (.iface T5 x5) w8 _ (HV5.out.keep HB8.out) hb9 w8.heap.size (Nat.le_refl _) 3 0 ⟨#[]⟩ (Blk.new _ _ _)
          rw [show ((Err.flt 3 at_ name).in_ ⟨#[119]⟩).isA 3 0 ⟨#[]⟩ = true from chain_isA 3 at_ name [⟨#[119]⟩] 3] at hI
          refine hI.mono ?_
          clear hI
          rintro e w10 ⟨rfl, hb10⟩
          have HB10 := Lib.hid (HB8.out.andThen (hb9.andThen hb10))
          clear hb9 hb10
          go_wp2_with fail
          have hb11 := bel_al (Below.refl w10.heap.size w10) (.cells #[.int .i64 3, .int .i64 1, .string ⟨#[122]⟩] 81)
          have hI := errorsIs_any _ (.iface T5 x5) w10 _ (HV5.out.keep HB10.out) hb11 w10.heap.size (Nat.le_refl _) 3 1 ⟨#[122]⟩ (Blk.new _ _ _)
          rw [show ((Err.flt 3 at_ name).in_ ⟨#[119]⟩).isA 3 1 ⟨#[122]⟩ = false from rfl] at hI
          refine hI.mono ?_
          clear hI
          rintro e w12 ⟨rfl, hb12⟩
          have HB12 := Lib.hid (HB10.out.andThen (hb11.andThen hb12))
          clear hb11 hb12
          go_wp2_with fail
          refine (Words_any (.flt 3 at_ name) v6 w12 (HV6.out.keep HB12.out) (show 1 ≤ 4294967296 by omega)).mono ?_
          rintro e w13 ⟨A13, c13, rfl, _, hb13⟩
          go_wp2_with fail
          go_ret
          exact ⟨rfl, HB.out.andThen (HB3.out.andThen (HB4.out.andThen (HB5.out.andThen (HB12.out.andThen hb13))))⟩
  · go_wp2_with fail
    go_ret
    exact ⟨rfl, HB1.out⟩

theorem FaultFirst_main (A0 : Option Addr) (n0 c0 : Nat) (l0 : List Int) (a1 : Int) (a2 : ByteArray) (w : World) (hg : ErrT w)
    (m0 : n0 ≤ maxLen) (e0 : l0.length = n0) (s0 : Sl w 1 A0 n0 (l0.map (Value.int .i64))) (_ : ∀ z ∈ l0, (Lit.int .i64 z).wf = true) (_ : (Lit.int .i64 a1).wf = true) (_ : a2.size ≤ maxLen) :
    Calls Tryd.prog 11 #[.slice A0 n0 c0, .int .i64 a1, .string a2] w fun e w' => e = .returned (.bool true) ∧ Below w.heap.size w w' :=
  FaultFirst_walk a1 a2 A0 n0 c0 l0 w hg (by simp only [maxLen] at m0; omega) e0 s0
end Go.Proofs.YtkhhjompondnnaaDoor
