/-
  The walk of FaultTells.
-/
import Derived.Test.YtkhhjompondnnaaDoorLaw01
namespace Go.Proofs.YtkhhjompondnnaaDoor
open Go.RowKit Go.Extern.Stop Go.Stop Go.Extern
set_option maxRecDepth 100000

theorem ofInt_wrap (x : Int) : BitVec.ofInt 64 (IntKind.i64.wrap x) = BitVec.ofInt 64 x := by
  apply BitVec.eq_of_toNat_eq
  rw [IntKind.wrap_i64]
  simp only [BitVec.toNat_ofInt]
  congr 1
  omega
theorem xor_one_ne (c : Int) : bits .xor .i64 c 1 ≠ c := by
  intro h
  have h1 := congrArg (BitVec.ofInt 64) h
  unfold bits at h1
  rw [ofInt_wrap] at h1
  have h2 : BitVec.ofInt 64 c ^^^ BitVec.ofInt 64 1 = BitVec.ofInt 64 c := by
    rw [BitVec.ofInt_natCast] at h1
    have h5 : BitVec.ofNat 64 (BitVec.ofInt 64 c ^^^ BitVec.ofInt 64 1).toNat = BitVec.ofInt 64 c := h1
    rw [BitVec.ofNat_toNat, BitVec.setWidth_eq] at h5
    exact h5
  have h3 : BitVec.ofInt 64 1 = 0#64 := by
    have := congrArg (BitVec.ofInt 64 c ^^^ ·) h2
    simp only [← BitVec.xor_assoc, BitVec.xor_self, BitVec.zero_xor] at this
    exact this
  exact absurd h3 (by decide)

theorem withColons_le (B : Nat) : ∀ ws : List ByteArray, (∀ z ∈ ws, z.size ≤ B) → (withColons ws).length ≤ ws.length * (B + 2)
  | [], _ => by simp [withColons]
  | w :: ws, h => by
    have h1 := withColons_le B ws (fun z hz => h z (List.mem_cons_of_mem _ hz))
    have h2 := h w (List.mem_cons_self ..)
    have h3 : withColons (w :: ws) = (w.data.toList ++ [58, 32]) ++ withColons ws := rfl
    have h4 : w.data.size = w.size := rfl
    rw [h3, List.length_append, List.length_cons, Nat.succ_mul]
    simp
    omega

set_option maxHeartbeats 4000000 in
theorem FaultTells_walk (ws : List ByteArray) (A : Option Addr) (n cp : Nat) (c a : Int) (name : ByteArray) (w : World) (hg : ErrT w) (hn : n ≤ 1048576) (hl : ws.length = n) (hs : Sl w 1 A n (ws.map Value.string))
    (hw : ∀ z ∈ ws, z.size ≤ 1048576) (hnm : name.size ≤ 1048576) :
    Calls Tryd.prog 8 #[.slice A n cp, .int .i64 c, .int .i64 a, .string name] w fun e w' => e = .returned (.bool true) ∧ Below w.heap.size w w' := by
  have HW := Lib.hid hw
  clear hw
  go_enter Tryd.func8, Tryd.ntmps8
  go_wp2_with fail
  refine (alive01 w hg).mono ?_
  rintro e w1 ⟨rfl, hb1⟩
  have HB1 := Lib.hid hb1
  have HG1 := Lib.hid (hg.keep hb1)
  have HS := Lib.hid hs
  clear hs hg hb1
  by_cases hm : n ≤ 60
  · have hlen : (withColons ws).length ≤ lim := by
      have h1 := withColons_le _ ws HW.out
      have h2 : ws.length * (1048576 + 2) ≤ 60 * (1048576 + 2) := Nat.mul_le_mul (by omega) (Nat.le_refl _)
      unfold lim; omega
    have HL := Lib.hid hlen
    have hin : name.size ≤ lim := by unfold lim; omega
    have HI := Lib.hid hin
    clear hlen hin
    go_wp2_with fail
    refine (made_any ws A n cp c a name w1 (by omega) hl (HS.out.keep HB1.out)).mono ?_
    rintro e w2 ⟨x, rfl, hx, hb2⟩
    obtain ⟨T, x', rfl⟩ := Err.At.iface_ hx (chain_ne _ _ _ _)
    have HX := Lib.hid hx
    have HB2 := Lib.hid (HB1.out.andThen hb2)
    have HG2 := Lib.hid (HG1.out.keep hb2)
    clear hx hb2 HG1
    go_wp2_with fail
    have hW := Words_any _ _ w2 HX.out (by rw [chain_size]; omega)
    rw [chain_words, hl] at hW
    refine hW.mono ?_
    rintro e w3 ⟨A3, c3, rfl, hown, hb3⟩
    clear hW
    have HS3 := Lib.hid (Sl.of_own hown)
    have HB3 := Lib.hid hb3
    clear hown hb3
    go_wp2_with fail
    have hC := Code_any _ _ w3 (HX.out.keep HB3.out) (HG2.out.keep HB3.out)
    rw [chain_code] at hC
    refine hC.mono ?_
    rintro e w4 ⟨rfl, hb4⟩
    clear hC
    have HB4 := Lib.hid hb4
    clear hb4
    go_wp2_with fail
    have hC := At_any _ _ w4 ((HX.out.keep HB3.out).keep HB4.out) ((HG2.out.keep HB3.out).keep HB4.out)
    rw [chain_at] at hC
    refine hC.mono ?_
    rintro e w5 ⟨rfl, hb5⟩
    clear hC
    have HB5 := Lib.hid (HB4.out.andThen hb5)
    clear hb5 HB4
    go_wp2_with fail
    have hC := faultIs_any _ _ w5 ((HX.out.keep HB3.out).keep HB5.out) c
    rw [chain_isA, show ((c : Int) == c) = true from by simp] at hC
    refine hC.mono ?_
    rintro e w6 ⟨rfl, hb6⟩
    clear hC
    have HB6 := Lib.hid (HB5.out.andThen hb6)
    clear hb6 HB5
    go_wp2_with fail
    have hC := faultIs_any _ _ w6 ((HX.out.keep HB3.out).keep HB6.out) (bits .xor .i64 c 1)
    rw [chain_isA, show ((bits .xor .i64 c 1 : Int) == c) = false from by simpa using xor_one_ne c] at hC
    refine hC.mono ?_
    rintro e w7 ⟨rfl, hb7⟩
    clear hC
    have HB7 := Lib.hid (HB6.out.andThen hb7)
    clear hb7 HB6
    go_wp2_with fail
    have hC := Text_any _ _ w7 ((HX.out.keep HB3.out).keep HB7.out) (chain_ne _ _ _ _) (by rw [chain_size]; omega) (by rw [chain_words]; exact HL.out) (by rw [chain_inner]; exact HI.out)
    rw [show (chain ws c a name).text = withColons ws ++ name.data.toList from by rw [Err.text, chain_words, chain_inner]] at hC
    have HT := Lib.hid hC
    clear hC
    have HR := Lib.hid (fun W hb => RefText_any ws A n cp name W (by omega) hl (HS.out.keep (w' := W) hb) HL.out HI.out)
    generalize (⟨(withColons ws ++ name.data.toList).toArray⟩ : ByteArray) = X at *
    refine HT.out.mono ?_
    rintro e w8 ⟨rfl, hb8⟩
    clear HT
    have HB8 := Lib.hid (HB7.out.andThen hb8)
    clear hb8 HB7
    go_wp2_with fail
    refine (HR.out w8 (HB2.out.andThen (HB3.out.andThen HB8.out))).mono ?_
    rintro e w9 ⟨rfl, rfl⟩
    clear HR
    go_wp2_with fail
    go_loopw [11] (fun i wr => ∃ k : Nat, k ≤ n ∧ i = .int .i64 k ∧ Below w3.heap.size w3 wr) (fun i _ => n - (intOf i).toNat)
    case atStart => exact ⟨0, Nat.zero_le _, rfl, HB8.out⟩
    case round =>
      clear HB8
      obtain ⟨k, hk, rfl, hb8⟩ := hrel
      have HB8 := Lib.hid hb8
      clear hb8
      by_cases hlt : k < n
      · have hj : k < ws.length := by omega
        obtain ⟨b, off, u, rfl, e1, c1⟩ := (HS.out.keep (HB2.out.andThen (HB3.out.andThen HB8.out))).one hlt
        obtain ⟨b3, off3, u3, rfl, e3, d1⟩ := (HS3.out.keep HB8.out).one hlt
        rw [List.getElem?_map, List.getElem?_eq_getElem hj] at e1 e3
        obtain rfl := Option.some.inj e1
        obtain rfl := Option.some.inj e3
        generalize ws[k] = wd at *
        clear e1 e3
        go_wp2_with fail
        go_quiet (fail)
        go_wp2_with fail
        go_roundw
        case rel => exact ⟨k + 1, by omega, by go_num, bel_drewN HB8.out _⟩
        case measure => simp [intOf]; omega
      · obtain rfl : k = n := by omega
        have hb10 := bel_al (Below.refl wr.heap.size wr) (.cells #[.pointer none] 77)
        have HA := Lib.hid (As_done _ _ _ _ ((HX.out.keep HB3.out).keep HB8.out) hb10 ⟨wr.heap.size, 0, none⟩ (.pointer none) (((HG2.out.keep HB3.out).keep HB8.out).keep hb10) (by simp) (by simp))
        have HB10 := Lib.hid (HB8.out.andThen hb10)
        clear hb10
        go_wp2_with fail
        refine HA.out.mono ?_
        rintro e w11 ⟨hb11, hp⟩
        rw [chain_flt] at hp
        rcases hp with ⟨c', a', s', g, h1, rfl, h2, h3⟩ | ⟨h1, _⟩
        · obtain ⟨rfl, rfl, rfl⟩ : c = c' ∧ a = a' ∧ name = s' := by simpa using h1
          have h12 : Below wr.heap.size wr w11 := (bel_al (Below.refl _ _) _).trans hb11
          have h2' := h2.keep h12
          have e0 := h2'.cell 0
          have e1 := h2'.cell 1
          have e2 := h2'.cell 2
          simp at e0 e1 e2
          clear h1 h2 h2' HA
          have HBe := Lib.hid (HB2.out.andThen (HB3.out.andThen (HB8.out.andThen h12)))
          clear h12 hb11 HB10
          go_wp2_with fail
          go_ret
          exact ⟨rfl, HBe.out⟩
        · cases h1
  · go_wp2_with fail
    go_ret
    exact ⟨rfl, HB1.out⟩

theorem FaultTells_main (A0 : Option Addr) (n0 c0 : Nat) (l0 : List ByteArray) (a1 a2 : Int) (a3 : ByteArray) (w : World) (hg : ErrT w)
    (m0 : n0 ≤ 1048576) (e0 : l0.length = n0) (s0 : Sl w 1 A0 n0 (l0.map Value.string)) (w0 : ∀ z ∈ l0, z.size ≤ 1048576) (_ : (Lit.int .i64 a1).wf = true) (_ : (Lit.int .i64 a2).wf = true) (w3 : a3.size ≤ 1048576) :
    Calls Tryd.prog 8 #[.slice A0 n0 c0, .int .i64 a1, .int .i64 a2, .string a3] w fun e w' => e = .returned (.bool true) ∧ Below w.heap.size w w' :=
  FaultTells_walk l0 A0 n0 c0 a1 a2 a3 w hg m0 e0 s0 w0 w3
end Go.Proofs.YtkhhjompondnnaaDoor
