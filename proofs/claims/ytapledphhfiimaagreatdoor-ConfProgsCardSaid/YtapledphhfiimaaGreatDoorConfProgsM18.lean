/-
  Part 18 of the proof of ConfProgs: TsB, TsF, TsN, RegI, RegQ, PicksP.
-/
import Derived.BigQuiet
import Derived.Test.YtapledphhfiimaaGreatDoorConfProgsM17
import Derived.WalkKit
import Derived.Lib.Hide
import Derived.Deep.RegionWith
import Derived.Deep.QuietTactic
import Derived.Test.YtapledphhfiimaaGreatDoorConfProgsM1
/-
  Tests of patterns: the walks of Test, First, Keeps, of any program whose tests' walks are known.
-/
namespace Go.Proofs.YtapledphhfiimaaGreatDoor
open Go.RowKit Go.Proofs.YtapledphhfiimaaGreatDoor.Pg
attribute [local go_sem ↓] Go.wp_at_zero Go.wp_at_succ
set_option maxRecDepth 100000
set_option linter.unusedVariables false

section
variable {L : List Int} {E : List (Int × Int)} {A B : Option Addr} {n c m d : Nat}
theorem right_t {o : Int × Int} (ho : opOK o) (w : World) : Calls Tryz.prog 34 #[.agg #[.int .i64 o.1, .int .i64 o.2], .int .i64 0] w fun e w' => e = .returned .nilIface ∧ Below w.heap.size w w' :=
  (right_any o.1 o.2 0 w).mono fun e w' h => by
    rcases h with ⟨_, h1, h2⟩ | ⟨h, _⟩
    · exact ⟨h1, h2⟩
    · exact absurd ho h
theorem right_f {o : Int × Int} (ho : ¬ opOK o) (w : World) : Calls Tryz.prog 34 #[.agg #[.int .i64 o.1, .int .i64 o.2], .int .i64 0] w fun e w' => ∃ g, e = .returned (.iface 111 (.pointer (some ⟨g, 0, none⟩))) ∧ Below w.heap.size w w' :=
  (right_any o.1 o.2 0 w).mono fun e w' h => by
    rcases h with ⟨h, _⟩ | h
    · exact absurd h ho
    · obtain ⟨_, _, _, _, g, h1, _, h2, _⟩ := h
      exact ⟨g, h1, h2⟩
theorem PatR_t (h : rightP L E) (w : World) (hl : L.length = n) (hn : n ≤ 1000000) (hm : m ≤ 1000000) (hs : Sl w 1 A n (L.map (Value.int .i64))) (ht : Sl w 2 B m (Rk.cells E)) : Calls Tryz.prog 10 #[pv A n c B m d] w fun e w' => e = .returned .nilIface ∧ Below w.heap.size w w' :=
  (PatRight_any L E A B n c m d w hl hn hm hs ht).mono fun e w' hr => by
    rcases hr with ⟨_, h1, h2⟩ | ⟨h0, _⟩
    · exact ⟨h1, h2⟩
    · exact absurd h h0
theorem PatR_f (h : ¬ rightP L E) (w : World) (hl : L.length = n) (hn : n ≤ 1000000) (hm : m ≤ 1000000) (hs : Sl w 1 A n (L.map (Value.int .i64))) (ht : Sl w 2 B m (Rk.cells E)) : Calls Tryz.prog 10 #[pv A n c B m d] w fun e w' => ∃ g, e = .returned (.iface 111 (.pointer (some ⟨g, 0, none⟩))) ∧ Below w.heap.size w w' :=
  (PatRight_any L E A B n c m d w hl hn hm hs ht).mono fun e w' hr => by
    rcases hr with ⟨h0, _⟩ | ⟨_, c, a, s, v, rfl, ⟨g, rfl, _⟩, hb, _⟩
    · exact absurd h0 h
    · exact ⟨g, rfl, hb⟩
set_option maxHeartbeats 1000000 in
theorem Test_any (o : Int × Int) (w : World) (hh : opOK o → rightP L E → HoldsOK o L E) (hl : L.length = n) (hn : n ≤ 1000000) (hm : m ≤ 1000000) (hs : Sl w 1 A n (L.map (Value.int .i64))) (ht : Sl w 2 B m (Rk.cells E)) :
    Calls Tryz.prog 40 #[.agg #[.int .i64 o.1, .int .i64 o.2], pv A n c B m d] w fun e w' => e = .returned (.bool (Ts.testB L E o)) ∧ Below w.heap.size w w' := by
  have HB := Lib.hid (bel_al (bel_al (Below.refl w.heap.size w) (.cells #[.int .i64 o.1, .int .i64 o.2] 40)) (.cells #[.slice A n c, .slice B m d] 30))
  have HK1 := Lib.hid ((Blk.new w 40 #[.int .i64 o.1, .int .i64 o.2]).alloc (.cells #[.slice A n c, .slice B m d] 30))
  have HK2 := Lib.hid (Blk.new (w.alloc (.cells #[.int .i64 o.1, .int .i64 o.2] 40)) 30 #[.slice A n c, .slice B m d])
  rw [World.size_alloc] at HK2
  have HS := Lib.hid hs
  have HT := Lib.hid ht
  by_cases hO : opOK o
  · have HR := Lib.hid (fun W => right_t hO W)
    by_cases hP : rightP L E
    · have HPr := Lib.hid (fun W (hW : Below w.heap.size w W) => PatR_t (A := A) (B := B) (n := n) (c := c) (m := m) (d := d) hP W hl hn hm (HS.out.keep hW) (HT.out.keep hW))
      have HH := Lib.hid (fun W (hW : Below w.heap.size w W) => hh hO hP A B n c m d W hl hm (HS.out.keep hW) (HT.out.keep hW))
      have HF := Lib.hid (Ts.testB_of hO hP)
      clear hs ht hh hO hP
      obtain ⟨x, y⟩ := o
      simp only at HB HR HK1 HK2 HH ⊢
      go_enter Tryz.func40, Tryz.ntmps40
      go_wp2_with (first
        | (go_at_call 34; refine (HR.out _).mono ?_; clear HR; rintro e w2 ⟨rfl, hb2⟩; have HB2 := Lib.hid (HB.out.andThen hb2); have HKa := Lib.hid (HK1.out.keep hb2); have HKb := Lib.hid (HK2.out.keep hb2); have k0 := HKa.out.cell 0; have k1 := HKa.out.cell 1; have k2 := HKb.out.cell 0; have k3 := HKb.out.cell 1; simp at k0 k1 k2 k3; clear hb2)
        | (go_at_call 10; refine (HPr.out _ HB2.out).mono ?_; clear HPr; rintro e w3 ⟨rfl, hb3⟩; have HB3 := Lib.hid (HB2.out.andThen hb3); clear k0 k1 k2 k3; have k0 := (HKa.out.keep hb3).cell 0; have k1 := (HKa.out.keep hb3).cell 1; have k2 := (HKb.out.keep hb3).cell 0; have k3 := (HKb.out.keep hb3).cell 1; simp at k0 k1 k2 k3; clear hb3)
        | (go_at_call 72; refine (HH.out _ HB3.out).mono ?_; clear HH; rintro e w4 ⟨rfl, hb4⟩; have HB4 := Lib.hid (HB3.out.andThen hb4); clear hb4))
      go_ret
      exact ⟨ret_bool HF.out.symm, HB4.out⟩
    · have HPr := Lib.hid (fun W (hW : Below w.heap.size w W) => PatR_f (A := A) (B := B) (n := n) (c := c) (m := m) (d := d) hP W hl hn hm (HS.out.keep hW) (HT.out.keep hW))
      have HF := Lib.hid (show Ts.testB L E o = false from by unfold Ts.testB; rw [if_neg fun h => hP h.2])
      clear hs ht hh hO hP
      obtain ⟨x, y⟩ := o
      simp only at HB HR HK1 HK2 ⊢
      go_enter Tryz.func40, Tryz.ntmps40
      go_wp2_with (first
        | (go_at_call 34; refine (HR.out _).mono ?_; clear HR; rintro e w2 ⟨rfl, hb2⟩; have HB2 := Lib.hid (HB.out.andThen hb2); have HKb := Lib.hid (HK2.out.keep hb2); have k2 := HKb.out.cell 0; have k3 := HKb.out.cell 1; simp at k2 k3; clear hb2)
        | (go_at_call 10; refine (HPr.out _ HB2.out).mono ?_; clear HPr; rintro e w3 ⟨g, rfl, hb3⟩; have HB3 := Lib.hid (HB2.out.andThen hb3); clear hb3))
      go_ret
      exact ⟨ret_bool HF.out.symm, HB3.out⟩
  · have HR := Lib.hid (fun W => right_f hO W)
    have HF := Lib.hid (show Ts.testB L E o = false from by unfold Ts.testB; rw [if_neg fun h => hO h.1])
    clear hs ht hh hO
    obtain ⟨x, y⟩ := o
    simp only at HB HR HK1 HK2 ⊢
    go_enter Tryz.func40, Tryz.ntmps40
    go_wp2_with (go_at_call 34; refine (HR.out _).mono ?_; clear HR; rintro e w2 ⟨g, rfl, hb2⟩; have HB2 := Lib.hid (HB.out.andThen hb2); clear hb2)
    go_ret
    exact ⟨ret_bool HF.out.symm, HB2.out⟩
set_option maxHeartbeats 1000000 in
theorem First1_any (o : Int × Int) (g : Nat) (w : World) (hh : opOK o → rightP L E → HoldsOK o L E) (hl : L.length = n) (hn : n ≤ 1000000) (hm : m ≤ 1000000) (hs : Sl w 1 A n (L.map (Value.int .i64))) (ht : Sl w 2 B m (Rk.cells E)) (hK : Blk w g 30 #[.slice A n c, .slice B m d]) :
    Calls Tryz.prog 39 #[.agg #[.int .i64 o.1, .int .i64 o.2], .pointer (some ⟨g, 0, none⟩)] w fun e w' => e = .returned (.bool (!Ts.testB L E o)) ∧ Below w.heap.size w w' := by
  have HB := Lib.hid (bel_al (Below.refl w.heap.size w) (.cells #[.int .i64 o.1, .int .i64 o.2] 40))
  have HT := Lib.hid (Test_any (c := c) (d := d) o (w.alloc (.cells #[.int .i64 o.1, .int .i64 o.2] 40)) hh hl hn hm (hs.keep HB.out) (ht.keep HB.out))
  have hk0 := (hK.alloc (.cells #[.int .i64 o.1, .int .i64 o.2] 40)).cell 0
  have hk1 := (hK.alloc (.cells #[.int .i64 o.1, .int .i64 o.2] 40)).cell 1
  have hkl := hK.lt
  obtain ⟨t, ht9⟩ : ∃ t, t = Ts.testB L E o := ⟨_, rfl⟩
  rw [← ht9] at HT ⊢
  simp at hk0 hk1
  clear hs ht hh hK ht9
  go_enter Tryz.func39, Tryz.ntmps39
  go_wp2_with (go_at_call 40; refine HT.out.mono ?_; clear HT; rintro e w4 ⟨rfl, hb4⟩; have HB4 := Lib.hid (HB.out.andThen hb4); clear hb4)
  go_ret
  exact ⟨rfl, HB4.out⟩
set_option maxHeartbeats 1000000 in
theorem IndexP_any (p : List (Int × Int)) (P : Option Addr) (k c' g : Nat) (w : World) (hh : ∀ o ∈ p, opOK o → rightP L E → HoldsOK o L E) (hk : k ≤ 1000000) (hp : Sl w 2 P k (Rk.cells p)) (hl : L.length = n) (hn : n ≤ 1000000) (hm : m ≤ 1000000) (hs : Sl w 1 A n (L.map (Value.int .i64))) (ht : Sl w 2 B m (Rk.cells E)) (hK : Blk w g 30 #[.slice A n c, .slice B m d]) :
    Calls Tryz.prog 38 #[.slice P k c', .func (.func 39) #[] #[.pointer (some ⟨g, 0, none⟩)]] w fun e w' => e = .returned (.int .i64 (Ts.firstZ (fun o => !Ts.testB L E o) p 0)) ∧ Below w.heap.size w w' := by
  have HF := Lib.hid (fun (o : Int × Int) (ho : o ∈ p) (W : World) (hW : Below w.heap.size w W) => First1_any (A := A) (B := B) (n := n) (c := c) (m := m) (d := d) o g W (hh o ho) hl hn hm (hs.keep hW) (ht.keep hW) (hK.keep hW))
  have HP := Lib.hid hp
  have HL := Lib.hid hp.len2
  clear hs ht hK hh hp
  go_enter Tryz.func38, Tryz.ntmps38
  go_wp2_with fail
  go_loopw [8] (fun i wr => ∃ j : Nat, j ≤ k ∧ i = .int .i64 (j : Int) ∧ Hid (∀ o ∈ p.take j, (!Ts.testB L E o) = false) ∧ Hid (Below w.heap.size w wr)) (fun i _ => k - (intOf i).toNat)
  case atStart => exact ⟨0, Nat.zero_le _, rfl, Lib.hid (fun o ho => by simp at ho), Lib.hid (Below.refl _ _)⟩
  case round =>
    obtain ⟨j, hj, rfl, HD, HB⟩ := hrel
    by_cases hlt : j < k
    · have hlt' : (j : Int) < (k : Int) := by omega
      have hj0 : (0 : Int) ≤ (j : Int) := by omega
      obtain ⟨⟨x, y⟩, he⟩ : ∃ e, p[j]? = some e := ⟨_, List.getElem?_eq_getElem (by rw [HL.out]; exact hlt)⟩
      obtain ⟨b1, off1, rfl, c0, c1⟩ := (HP.out.keep HB.out).edge hlt he
      simp only at c0 c1
      have HX := Lib.hid he
      have HFx := Lib.hid (HF.out (x, y) (List.mem_of_getElem? he) wr HB.out)
      simp only at HFx
      clear he
      cases hq : (!Ts.testB L E (x, y)) with
      | true =>
        rw [hq] at HFx
        have HZ := Lib.hid (show Ts.firstZ (fun o => !Ts.testB L E o) p 0 = (j : Int) from by
          have := Ts.firstZ_at (q := fun o => !Ts.testB L E o) (i := 0) HD.out HX.out hq
          rw [this, Nat.zero_add])
        clear hq
        go_wp2_with (go_at_call 39; refine HFx.out.mono ?_; rintro e w' ⟨rfl, hb2⟩; have HB2 := Lib.hid (HB.out.andThen hb2); clear hb2)
        go_ret
        exact ⟨ret_int HZ.out.symm, HB2.out⟩
      | false =>
        rw [hq] at HFx
        have HD2 := Lib.hid (show ∀ o ∈ p.take (j + 1), (!Ts.testB L E o) = false from fun o ho => by
          obtain ⟨h1, h2⟩ := List.getElem?_eq_some_iff.1 HX.out
          rw [List.take_succ_eq_append_getElem h1, h2] at ho
          rcases List.mem_append.1 ho with h | h
          · exact HD.out o h
          · rw [List.mem_singleton.1 h]; exact hq)
        clear hq
        go_wp2_with (go_at_call 39; refine HFx.out.mono ?_; rintro e w' ⟨rfl, hb2⟩; have HB2 := Lib.hid (HB.out.andThen hb2); clear hb2)
        go_roundw
        case rel => exact ⟨j + 1, by omega, by go_num, HD2, HB2⟩
        case measure => simp [intOf]; omega
    · obtain rfl : j = k := by omega
      have hlt' : ¬ (j : Int) < (j : Int) := by omega
      have HZ := Lib.hid (show Ts.firstZ (fun o => !Ts.testB L E o) p 0 = -1 from by
        have h := HD.out
        rw [List.take_of_length_le (by rw [HL.out]; exact Nat.le_refl _)] at h
        exact Ts.firstZ_none h)
      go_wp2_with fail
      go_ret
      exact ⟨ret_int HZ.out.symm, HB.out⟩
theorem First_any (p : List (Int × Int)) (P : Option Addr) (k c' : Nat) (w : World) (hh : ∀ o ∈ p, opOK o → rightP L E → HoldsOK o L E) (hk : k ≤ 1000000) (hp : Sl w 2 P k (Rk.cells p)) (hl : L.length = n) (hn : n ≤ 1000000) (hm : m ≤ 1000000) (hs : Sl w 1 A n (L.map (Value.int .i64))) (ht : Sl w 2 B m (Rk.cells E)) :
    Calls Tryz.prog 12 #[.slice P k c', pv A n c B m d] w fun e w' => e = .returned (.int .i64 (Ts.firstZ (fun o => !Ts.testB L E o) p 0)) ∧ Below w.heap.size w w' := by
  have HB := Lib.hid (bel_al (Below.refl w.heap.size w) (.cells #[.slice A n c, .slice B m d] 30))
  have HI := Lib.hid (IndexP_any (A := A) (B := B) (n := n) (c := c) (m := m) (d := d) p P k c' w.heap.size (w.alloc (.cells #[.slice A n c, .slice B m d] 30)) hh hk (hp.keep HB.out) hl hn hm (hs.keep HB.out) (ht.keep HB.out) (Blk.new w 30 #[.slice A n c, .slice B m d]))
  clear hs ht hh hp
  go_enter Tryz.func12, Tryz.ntmps12
  go_wp2_with (go_at_call 38; refine HI.out.mono ?_; clear HI; rintro e w4 ⟨rfl, hb4⟩; have HB4 := Lib.hid (HB.out.andThen hb4); clear hb4)
  go_ret
  exact ⟨rfl, HB4.out⟩
set_option maxHeartbeats 1000000 in
theorem Keeps_any (p : List (Int × Int)) (P : Option Addr) (k c' : Nat) (w : World) (hh : ∀ o ∈ p, opOK o → rightP L E → HoldsOK o L E) (hk : k ≤ 1000000) (hp : Sl w 2 P k (Rk.cells p)) (hl : L.length = n) (hn : n ≤ 1000000) (hm : m ≤ 1000000) (hs : Sl w 1 A n (L.map (Value.int .i64))) (ht : Sl w 2 B m (Rk.cells E)) :
    Calls Tryz.prog 11 #[.slice P k c', pv A n c B m d] w fun e w' => e = .returned (.bool (Ts.keepsB p L E)) ∧ Below w.heap.size w w' := by
  have HB := Lib.hid (bel_al (Below.refl w.heap.size w) (.cells #[.slice A n c, .slice B m d] 30))
  have HK2 := Lib.hid (Blk.new w 30 #[.slice A n c, .slice B m d])
  have HRr := Lib.hid (ProgRight_any p P k c' (w.alloc (.cells #[.slice A n c, .slice B m d] 30)) hk (hp.keep HB.out))
  have HF := Lib.hid (fun W (hW : Below w.heap.size w W) => First_any (A := A) (B := B) (n := n) (c := c) (m := m) (d := d) p P k c' W hh hk (hp.keep hW) hl hn hm (hs.keep hW) (ht.keep hW))
  have HS := Lib.hid hs
  have HT := Lib.hid ht
  clear hs ht hh hp
  by_cases hG : rightG p
  · have HR := Lib.hid (show Calls Tryz.prog 9 #[.slice P k c'] (w.alloc (.cells #[.slice A n c, .slice B m d] 30)) fun e w' => e = .returned .nilIface ∧ Below (w.alloc (.cells #[.slice A n c, .slice B m d] 30)).heap.size (w.alloc (.cells #[.slice A n c, .slice B m d] 30)) w' from HRr.out.mono fun e w' h => by
      rcases h with ⟨_, h1, h2⟩ | ⟨h, _⟩
      · exact ⟨h1, h2⟩
      · exact absurd hG h)
    by_cases hP : rightP L E
    · have HPr := Lib.hid (fun W (hW : Below w.heap.size w W) => PatR_t (A := A) (B := B) (n := n) (c := c) (m := m) (d := d) hP W hl hn hm (HS.out.keep hW) (HT.out.keep hW))
      have HZ := Lib.hid (show decide (Ts.firstZ (fun o => !Ts.testB L E o) p 0 < 0) = Ts.keepsB p L E from by
        unfold Ts.keepsB
        rw [if_pos ⟨hG, hP⟩]
        cases ha : p.all (Ts.testB L E) with
        | true => exact decide_eq_true (Ts.first_keeps.2 ha)
        | false => exact decide_eq_false fun h => by rw [Ts.first_keeps.1 h] at ha; cases ha)
      obtain ⟨z, hz⟩ : ∃ z, z = Ts.firstZ (fun o => !Ts.testB L E o) p 0 := ⟨_, rfl⟩
      rw [← hz] at HF HZ
      clear hG hP HRr hz
      go_enter Tryz.func11, Tryz.ntmps11
      go_wp2_with (first
        | (go_at_call 9; refine HR.out.mono ?_; clear HR; rintro e w2 ⟨rfl, hb2⟩; have HB2 := Lib.hid (HB.out.andThen hb2); have HKb := Lib.hid (HK2.out.keep hb2); have k2 := HKb.out.cell 0; have k3 := HKb.out.cell 1; simp at k2 k3; clear hb2)
        | (go_at_call 10; refine (HPr.out _ HB2.out).mono ?_; clear HPr; rintro e w3 ⟨rfl, hb3⟩; have HB3 := Lib.hid (HB2.out.andThen hb3); clear k2 k3; have k2 := (HKb.out.keep hb3).cell 0; have k3 := (HKb.out.keep hb3).cell 1; simp at k2 k3; clear hb3)
        | (go_at_call 12; refine (HF.out _ HB3.out).mono ?_; clear HF; rintro e w4 ⟨rfl, hb4⟩; have HB4 := Lib.hid (HB3.out.andThen hb4); clear hb4))
      go_ret
      exact ⟨ret_bool HZ.out, HB4.out⟩
    · have HPr := Lib.hid (fun W (hW : Below w.heap.size w W) => PatR_f (A := A) (B := B) (n := n) (c := c) (m := m) (d := d) hP W hl hn hm (HS.out.keep hW) (HT.out.keep hW))
      have HZ := Lib.hid (show Ts.keepsB p L E = false from by unfold Ts.keepsB; rw [if_neg fun h => hP h.2])
      clear hG hP HRr HF
      go_enter Tryz.func11, Tryz.ntmps11
      go_wp2_with (first
        | (go_at_call 9; refine HR.out.mono ?_; clear HR; rintro e w2 ⟨rfl, hb2⟩; have HB2 := Lib.hid (HB.out.andThen hb2); have HKb := Lib.hid (HK2.out.keep hb2); have k2 := HKb.out.cell 0; have k3 := HKb.out.cell 1; simp at k2 k3; clear hb2)
        | (go_at_call 10; refine (HPr.out _ HB2.out).mono ?_; clear HPr; rintro e w3 ⟨g, rfl, hb3⟩; have HB3 := Lib.hid (HB2.out.andThen hb3); clear hb3))
      go_ret
      exact ⟨ret_bool HZ.out.symm, HB3.out⟩
  · have HR := Lib.hid (show Calls Tryz.prog 9 #[.slice P k c'] (w.alloc (.cells #[.slice A n c, .slice B m d] 30)) fun e w' => ∃ g, e = .returned (.iface 111 (.pointer (some ⟨g, 0, none⟩))) ∧ Below (w.alloc (.cells #[.slice A n c, .slice B m d] 30)).heap.size (w.alloc (.cells #[.slice A n c, .slice B m d] 30)) w' from HRr.out.mono fun e w' h => by
      rcases h with ⟨h, _⟩ | ⟨_, _, _, _, g, h1, _, h2, _⟩
      · exact absurd h hG
      · exact ⟨g, h1, h2⟩)
    have HZ := Lib.hid (show Ts.keepsB p L E = false from by unfold Ts.keepsB; rw [if_neg fun h => hG h.1])
    clear hG HRr HF
    go_enter Tryz.func11, Tryz.ntmps11
    go_wp2_with (go_at_call 9; refine HR.out.mono ?_; clear HR; rintro e w2 ⟨g, rfl, hb2⟩; have HB2 := Lib.hid (HB.out.andThen hb2); clear hb2)
    go_ret
    exact ⟨ret_bool HZ.out.symm, HB2.out⟩
end
end Go.Proofs.YtapledphhfiimaaGreatDoor
/-
  prog.Falls: no test of a program asks for a clique.
-/
namespace Go.Proofs.YtapledphhfiimaaGreatDoor
open Go.RowKit Go.Proofs.YtapledphhfiimaaGreatDoor.Pg
attribute [local go_sem ↓] Go.wp_at_zero Go.wp_at_succ
set_option maxRecDepth 100000
set_option linter.unusedVariables false

namespace Ts
def fallsB (p : List (Int × Int)) : Bool := !(p.any fun o => decide (o.1 = 1))
theorem falls_app (p q : List (Int × Int)) : fallsB (p ++ q) = (fallsB p && fallsB q) := by
  unfold fallsB
  rw [List.any_append, Bool.not_or]
theorem firstZ_any {q : Int × Int → Bool} {p : List (Int × Int)} {k : Nat} : decide (firstZ q p k ≥ 0) = p.any q := by
  cases h : p.any q with
  | true =>
    refine decide_eq_true ?_
    rcases Int.lt_or_le (firstZ q p k) 0 with h2 | h2
    · obtain ⟨x, hx, hq⟩ := List.any_eq_true.1 h
      rw [firstZ_neg.1 h2 x hx] at hq
      cases hq
    · exact h2
  | false =>
    refine decide_eq_false fun h2 => ?_
    have h3 : firstZ q p k < 0 := firstZ_neg.2 fun o ho => by
      have := List.any_eq_false.1 h o ho
      simpa using this
    omega
end Ts

theorem Fall1_any (x y : Int) (w : World) : Calls Tryz.prog 42 #[.agg #[.int .i64 x, .int .i64 y]] w fun e w' => e = .returned (.bool (decide (x = 1))) ∧ Below w.heap.size w w' := by
  have HB := Lib.hid (bel_al (Below.refl w.heap.size w) (.cells #[.int .i64 x, .int .i64 y] 40))
  go_enter Tryz.func42, Tryz.ntmps42
  by_cases h : x = 1
  · subst h
    go_wp2_with fail
    go_ret
    exact ⟨rfl, HB.out⟩
  · have HZ := Lib.hid (decide_eq_false h)
    go_wp2_with fail
    go_ret
    exact ⟨ret_bool (show (x == 1) = decide (x = 1) from rfl), HB.out⟩
set_option maxHeartbeats 1000000 in
theorem IndexFall_any (p : List (Int × Int)) (P : Option Addr) (k c' : Nat) (w : World) (hk : k ≤ 1000000) (hp : Sl w 2 P k (Rk.cells p)) :
    Calls Tryz.prog 38 #[.slice P k c', .func (.func 42) #[] #[]] w fun e w' => e = .returned (.int .i64 (Ts.firstZ (fun o => decide (o.1 = 1)) p 0)) ∧ Below w.heap.size w w' := by
  have HP := Lib.hid hp
  have HL := Lib.hid hp.len2
  clear hp
  go_enter Tryz.func38, Tryz.ntmps38
  go_wp2_with fail
  go_loopw [8] (fun i wr => ∃ j : Nat, j ≤ k ∧ i = .int .i64 (j : Int) ∧ Hid (∀ o ∈ p.take j, decide (o.1 = 1) = false) ∧ Hid (Below w.heap.size w wr)) (fun i _ => k - (intOf i).toNat)
  case atStart => exact ⟨0, Nat.zero_le _, rfl, Lib.hid (fun o ho => by simp at ho), Lib.hid (Below.refl _ _)⟩
  case round =>
    obtain ⟨j, hj, rfl, HD, HB⟩ := hrel
    by_cases hlt : j < k
    · have hlt' : (j : Int) < (k : Int) := by omega
      have hj0 : (0 : Int) ≤ (j : Int) := by omega
      obtain ⟨⟨x, y⟩, he⟩ : ∃ e, p[j]? = some e := ⟨_, List.getElem?_eq_getElem (by rw [HL.out]; exact hlt)⟩
      obtain ⟨b1, off1, rfl, c0, c1⟩ := (HP.out.keep HB.out).edge hlt he
      simp only at c0 c1
      have HX := Lib.hid he
      have HFx := Lib.hid (Fall1_any x y wr)
      clear he
      cases hq : decide (x = 1) with
      | true =>
        rw [hq] at HFx
        have HZ := Lib.hid (show Ts.firstZ (fun o => decide (o.1 = 1)) p 0 = (j : Int) from by
          have := Ts.firstZ_at (q := fun o => decide (o.1 = 1)) (i := 0) HD.out HX.out hq
          rw [this, Nat.zero_add])
        clear hq
        go_wp2_with (go_at_call 42; refine HFx.out.mono ?_; rintro e w' ⟨rfl, hb2⟩; have HB2 := Lib.hid (HB.out.andThen hb2); clear hb2)
        go_ret
        exact ⟨ret_int HZ.out.symm, HB2.out⟩
      | false =>
        rw [hq] at HFx
        have HD2 := Lib.hid (show ∀ o ∈ p.take (j + 1), decide (o.1 = 1) = false from fun o ho => by
          obtain ⟨h1, h2⟩ := List.getElem?_eq_some_iff.1 HX.out
          rw [List.take_succ_eq_append_getElem h1, h2] at ho
          rcases List.mem_append.1 ho with h | h
          · exact HD.out o h
          · rw [List.mem_singleton.1 h]; exact hq)
        clear hq
        go_wp2_with (go_at_call 42; refine HFx.out.mono ?_; rintro e w' ⟨rfl, hb2⟩; have HB2 := Lib.hid (HB.out.andThen hb2); clear hb2)
        go_roundw
        case rel => exact ⟨j + 1, by omega, by go_num, HD2, HB2⟩
        case measure => simp [intOf]; omega
    · obtain rfl : j = k := by omega
      have hlt' : ¬ (j : Int) < (j : Int) := by omega
      have HZ := Lib.hid (show Ts.firstZ (fun o => decide (o.1 = 1)) p 0 = -1 from by
        have h := HD.out
        rw [List.take_of_length_le (by rw [HL.out]; exact Nat.le_refl _)] at h
        exact Ts.firstZ_none h)
      go_wp2_with fail
      go_ret
      exact ⟨ret_int HZ.out.symm, HB.out⟩
theorem ContainsFall_any (p : List (Int × Int)) (P : Option Addr) (k c' : Nat) (w : World) (hk : k ≤ 1000000) (hp : Sl w 2 P k (Rk.cells p)) :
    Calls Tryz.prog 41 #[.slice P k c', .func (.func 42) #[] #[]] w fun e w' => e = .returned (.bool (p.any fun o => decide (o.1 = 1))) ∧ Below w.heap.size w w' := by
  have HI := Lib.hid (IndexFall_any p P k c' w hk hp)
  obtain ⟨z, hz⟩ : ∃ z, z = Ts.firstZ (fun o => decide (o.1 = 1)) p 0 := ⟨_, rfl⟩
  have HZ := Lib.hid (show decide (z ≥ 0) = p.any (fun o => decide (o.1 = 1)) from by rw [hz]; exact Ts.firstZ_any)
  rw [← hz] at HI
  clear hp hz
  go_enter Tryz.func41, Tryz.ntmps41
  go_wp2_with (go_at_call 38; refine HI.out.mono ?_; clear HI; rintro e w2 ⟨rfl, hb2⟩; have HB2 := Lib.hid hb2; clear hb2)
  go_ret
  exact ⟨ret_bool HZ.out, HB2.out⟩
theorem Falls_any (p : List (Int × Int)) (P : Option Addr) (k c' : Nat) (w : World) (hk : k ≤ 1000000) (hp : Sl w 2 P k (Rk.cells p)) :
    Calls Tryz.prog 13 #[.slice P k c'] w fun e w' => e = .returned (.bool (Ts.fallsB p)) ∧ Below w.heap.size w w' := by
  have HI := Lib.hid (ContainsFall_any p P k c' w hk hp)
  unfold Ts.fallsB
  generalize (p.any fun o => decide (o.1 = 1)) = r at *
  clear hp
  go_enter Tryz.func13, Tryz.ntmps13
  go_wp2_with (go_at_call 41; refine HI.out.mono ?_; clear HI; rintro e w2 ⟨rfl, hb2⟩; have HB2 := Lib.hid hb2; clear hb2)
  go_ret
  exact ⟨rfl, HB2.out⟩
end Go.Proofs.YtapledphhfiimaaGreatDoor
/-
  Tests of patterns plainly: a pattern's own numbers keep it.
-/
namespace Go.Proofs.YtapledphhfiimaaGreatDoor
open Go.RowKit Go.Proofs.YtapledphhfiimaaGreatDoor.Pg
set_option linter.unusedVariables false

theorem holds_kind {k N : Int} {L : List Int} {E : List (Int × Int)} (h2 : 2 ≤ k) (h5 : k ≤ 5) (h8 : L.length ≤ 8) : HoldsOK (k, N) L E := by
  rcases (show k = 2 ∨ k = 3 ∨ k = 4 ∨ k = 5 by omega) with rfl | rfl | rfl | rfl
  · exact holds_2 N L E h8
  · exact holds_3 N L E h8
  · exact holds_4 N L E h8
  · exact holds_5 N L E h8
namespace Ts
theorem op_kind {k N : Int} (h2 : 2 ≤ k) (h5 : k ≤ 5) (h0 : 0 ≤ N) (h9 : N ≤ 255) : opOK (k, N) := by
  refine ⟨⟨by simp only; omega, by simp only; omega⟩, ⟨h0, h9⟩, fun h => ?_⟩
  exfalso
  revert h
  simp only
  rcases (show k = 2 ∨ k = 3 ∨ k = 4 ∨ k = 5 by omega) with rfl | rfl | rfl | rfl <;> decide
/-- The statement's program. -/
def ownP (M D : Int) (n m : Nat) : List (Int × Int) := [(2, M), (3, D), (4, (n : Int)), (5, (m : Int))]
theorem own_right {M D : Int} {n m : Nat} (hM : 0 ≤ M ∧ M ≤ 255) (hD : 0 ≤ D ∧ D ≤ 40) (hn : n ≤ 8) (hm : m ≤ 40) : rightG (ownP M D n m) := by
  refine ⟨by unfold ownP; simp, fun o ho => ?_⟩
  simp only [ownP, List.mem_cons, List.not_mem_nil, or_false] at ho
  rcases ho with rfl | rfl | rfl | rfl
  · exact op_kind (by omega) (by omega) hM.1 hM.2
  · exact op_kind (by omega) (by omega) hD.1 (by omega)
  · exact op_kind (by omega) (by omega) (by omega) (by omega)
  · exact op_kind (by omega) (by omega) (by omega) (by omega)
section
variable {L : List Int} {E : List (Int × Int)} {M D : Int} {n m : Nat}
theorem own_first (hl : L.length = n) (hM : ∀ x ∈ L, x ≤ M) (hD : ∀ v, v < n → (Pt.deg E (v : Nat) : Int) ≤ D) : holdsB (2, M) L E = true ∧ holdsB (3, D) L E = true ∧ holdsB (4, (n : Int)) L E = true := by
  refine ⟨?_, ?_, ?_⟩
  · show (!(L.any fun x => decide (M < x))) = true
    rw [Bool.not_eq_true', List.any_eq_false]
    intro x hx
    have := hM x hx
    simp only [decide_eq_true_eq]
    omega
  · show ((List.range L.length).all fun v => decide ((Pt.deg E (v : Nat) : Int) ≤ D)) = true
    rw [List.all_eq_true]
    intro v hv
    have := hD v (by rw [← hl]; exact List.mem_range.1 hv)
    simpa using this
  · show decide ((L.length : Int) ≤ (n : Int)) = true
    rw [hl]
    simp
theorem own_keeps (hR : rightP L E) (hl : L.length = n) (he : E.length = m) (hm : m ≤ 40) (hM0 : 0 ≤ M ∧ M ≤ 255) (hD0 : 0 ≤ D ∧ D ≤ 40) (hM : ∀ x ∈ L, x ≤ M) (hD : ∀ v, v < n → (Pt.deg E (v : Nat) : Int) ≤ D) : keepsB (ownP M D n m) L E = true := by
  obtain ⟨h1, h2, h3⟩ := own_first (E := E) hl hM hD
  rw [keepsB_of (own_right hM0 hD0 (by have := hR.1.1; omega) hm) hR]
  have h4 : holdsB (5, (m : Int)) L E = true := by
    show decide ((E.length : Int) ≤ (m : Int)) = true
    rw [he]
    simp
  simp only [ownP, List.all_cons, List.all_nil, h1, h2, h3, h4, Bool.and_self]
theorem own_less (hR : rightP L E) (hl : L.length = n) (he : E.length = m + 1) (hm : m ≤ 40) (hM0 : 0 ≤ M ∧ M ≤ 255) (hD0 : 0 ≤ D ∧ D ≤ 40) (hM : ∀ x ∈ L, x ≤ M) (hD : ∀ v, v < n → (Pt.deg E (v : Nat) : Int) ≤ D) : keepsB (ownP M D n m) L E = false ∧ firstZ (fun o => !testB L E o) (ownP M D n m) 0 = 3 := by
  obtain ⟨h1, h2, h3⟩ := own_first (E := E) hl hM hD
  have hn8 : n ≤ 8 := by have := hR.1.1; omega
  have hg := own_right hM0 hD0 hn8 hm
  have h4 : holdsB (5, (m : Int)) L E = false := by
    show decide ((E.length : Int) ≤ (m : Int)) = false
    rw [he]
    exact decide_eq_false (by omega)
  constructor
  · rw [keepsB_of hg hR]
    simp only [ownP, List.all_cons, List.all_nil, h1, h2, h3, h4, Bool.and_false, Bool.false_and]
  · have t1 : testB L E (2, M) = true := by rw [testB_of (hg.2 _ (by simp [ownP])) hR]; exact h1
    have t2 : testB L E (3, D) = true := by rw [testB_of (hg.2 _ (by simp [ownP])) hR]; exact h2
    have t3 : testB L E (4, (n : Int)) = true := by rw [testB_of (hg.2 _ (by simp [ownP])) hR]; exact h3
    have t4 : testB L E (5, (m : Int)) = false := by rw [testB_of (hg.2 _ (by simp [ownP])) hR]; exact h4
    unfold ownP
    rw [firstZ, if_neg (by rw [t1]; decide), firstZ, if_neg (by rw [t2]; decide), firstZ, if_neg (by rw [t3]; decide), firstZ, if_pos (by rw [t4]; rfl)]
    rfl
end
end Ts
theorem sl_blk {w : World} {g s n : Nat} {t : TypeId} {cs : Array Value} {xs : List Value} (h : Blk w g t cs) (hl : xs.length = n * s) (hx : cs = xs.toArray) : Sl w s (some ⟨g, 0, none⟩) n xs :=
  ⟨hl, fun _ => ⟨g, 0, rfl, fun j u hu => by
    rw [Nat.zero_add, h.cell j, hx]
    simpa using hu⟩⟩
end Go.Proofs.YtapledphhfiimaaGreatDoor
/-
  A region that draws its order, by an invariant: whatever may come up keeps it; so no order is gone through by itself.
-/
namespace Go.Proofs.YtapledphhfiimaaGreatDoor
open Go.RowKit
set_option linter.unusedVariables false

theorem set_fewer : ∀ (l : List Bool) (i : Nat), l[i]? = some false → ((l.set i true).filter (! ·)).length + 1 = (l.filter (! ·)).length
  | [], i, h => by simp at h
  | b :: l, 0, h => by
    obtain rfl : b = false := by simpa using h
    simp
  | b :: l, i + 1, h => by
    have ih := set_fewer l i (by simpa using h)
    rw [List.set_cons_succ]
    cases b
    · simp only [List.filter_cons, Bool.not_false, if_true, List.length_cons]
      omega
    · simp only [List.filter_cons, Bool.not_true, Bool.false_eq_true, if_false]
      exact ih
section
variable {P : Program} {md : Region.Mode} {ops : Array Oper} {Q : Exit → Act → World → Prop}
theorem ready_open {listed : Array Bool} {i : Nat} (hi : i ∈ Region.ready md ops listed) : listed.toList[i]? = some false := by
  have h := (mem_ready.1 hi).1
  rw [Array.getElem?_toList]
  rw [Array.getD_eq_getD_getElem?] at h
  cases hx : listed[i]? with
  | none => rw [hx] at h; simp at h
  | some b => rw [hx] at h; simp at h; rw [h]
theorem wpAny_inv {I : Array Bool → Act → World → Prop}
    (hstep : ∀ (i : Nat) (listed : Array Bool) (a : Act) (w : World), i ∈ Region.ready md ops listed → I listed a w → wpOp P ops Q i (fun a' w' => I (listed.setIfInBounds i true) a' w') a w)
    (hend : ∀ (listed : Array Bool) (a : Act) (w : World), Region.ready md ops listed = [] → I listed a w → Q .normal a w) :
    ∀ (fuel : Nat) (listed : Array Bool) (a : Act) (w : World), (listed.toList.filter (! ·)).length ≤ fuel → I listed a w → wpAny P md ops Q fuel listed a w
  | 0, listed, a, w, hf, h => by
    have hnil : Region.ready md ops listed = [] := by
      refine List.eq_nil_iff_forall_not_mem.2 fun i hi => ?_
      have := set_fewer _ _ (ready_open hi)
      omega
    exact ⟨hnil, hend listed a w hnil h⟩
  | fuel + 1, listed, a, w, hf, h =>
    ⟨fun h0 => hend listed a w h0 h, fun i hi => wpOp_mono (fun a' w' h' => wpAny_inv hstep hend fuel _ a' w' (by
      have := set_fewer _ _ (ready_open hi)
      rw [Array.toList_setIfInBounds]
      omega) h') (hstep i listed a w hi h)⟩
/-- A region by an invariant. -/
theorem wp_region_inv {id : Nat} {a : Act} {w : World} (I : Array Bool → Act → World → Prop) (hm : P.follows .mixedOrders = true) (h0 : I (Array.replicate ops.size false) a w.drew)
    (hstep : ∀ (i : Nat) (listed : Array Bool) (a : Act) (w : World), i ∈ Region.ready .any ops listed → I listed a w → wpOp P ops Q i (fun a' w' => I (listed.setIfInBounds i true) a' w') a w)
    (hend : ∀ (listed : Array Bool) (a : Act) (w : World), Region.ready .any ops listed = [] → I listed a w → Q .normal a w) : (Code.region id ops true).wp P Q a w :=
  wp_region_any hm (wpAny_inv hstep hend _ _ _ _ (by simp) h0)
end
section
variable {P : Program} {ops : Array Oper} {C : World → Prop}
/-- A region whose operations leave the world in a class: one walk in the order of the text serves every order. -/
theorem wp_region_cls {id : Nat} {Q : Exit → Act → World → Prop} {a : Act} {w : World} {l : List Oper} (C : World → Prop) (hm : P.follows .mixedOrders = true) (hB : Region.lexB .any l.toArray = true) (hC : C w.drew)
    (h : wpQuiet P l.toArray C (fun a' => ∀ w', C w' → Q .normal a' w') l a) : (Code.region id l.toArray true).wp P Q a w :=
  wp_region_quiet hm hB hC (by simpa using h)
theorem wpQ_want {Q : Act → Prop} {a : Act} {o : Oper} {rest : List Oper} {v : Value} (hw : Region.wanted o (yielded ops a.tmps) = true) (h1 : ∀ W, C W → o.quietAt P a C W v) (h2 : wpQuiet P ops C Q rest (a.put o.dst v)) : wpQuiet P ops C Q (o :: rest) a := by
  unfold wpQuiet
  rw [if_pos hw]
  exact ⟨v, h1, h2⟩
theorem wpQ_pass {Q : Act → Prop} {a : Act} {o : Oper} {rest : List Oper} (hw : Region.wanted o (yielded ops a.tmps) = false) (h2 : wpQuiet P ops C Q rest (a.put o.dst undef)) : wpQuiet P ops C Q (o :: rest) a := by
  unfold wpQuiet
  rw [if_neg (by rw [hw]; decide)]
  exact h2
theorem if_wanted {c : Bool} {p q : Prop} (hc : c = true) (h : p) : if c = true then p else q := by rw [if_pos hc]; exact h
theorem if_passed {c : Bool} {p q : Prop} (hc : c = false) (h : q) : if c = true then p else q := by rw [if_neg (by rw [hc]; decide)]; exact h
end
end Go.Proofs.YtapledphhfiimaaGreatDoor
/-
  A region that draws its order, its values fixed, step by step in a closed word (so that no step evaluates what comes behind it).
-/
namespace Go.Proofs.YtapledphhfiimaaGreatDoor
open Go.RowKit
set_option linter.unusedVariables false

/-- What wpQuiet says, closed. -/
structure QQ (P : Program) (ops : Array Oper) (C : World → Prop) (Q : Act → Prop) (l : List Oper) (a : Act) : Prop where
  out : wpQuiet P ops C Q l a
section
variable {P : Program} {ops : Array Oper} {C : World → Prop}
theorem wp_region_qq {id : Nat} {Q : Exit → Act → World → Prop} {a : Act} {w : World} {l : List Oper} (C : World → Prop) (hm : P.follows .mixedOrders = true) (hB : Region.lexB .any l.toArray = true) (hC : C w.drew)
    (h : QQ P l.toArray C (fun a' => ∀ w', C w' → Q .normal a' w') l a) : (Code.region id l.toArray true).wp P Q a w := wp_region_cls C hm hB hC h.out
theorem qq_want {Q : Act → Prop} {a : Act} {o : Oper} {rest : List Oper} {v : Value} (hw : Region.wanted o (yielded ops a.tmps) = true) (h1 : ∀ W, C W → o.quietAt P a C W v) (h2 : QQ P ops C Q rest (a.put o.dst v)) : QQ P ops C Q (o :: rest) a := ⟨wpQ_want hw h1 h2.out⟩
theorem qq_pass {Q : Act → Prop} {a : Act} {o : Oper} {rest : List Oper} (hw : Region.wanted o (yielded ops a.tmps) = false) (h2 : QQ P ops C Q rest (a.put o.dst undef)) : QQ P ops C Q (o :: rest) a := ⟨wpQ_pass hw h2.out⟩
theorem qq_nil {Q : Act → Prop} {a : Act} (h : Q a) : QQ P ops C Q [] a := ⟨wpQuiet_nil h⟩
end
end Go.Proofs.YtapledphhfiimaaGreatDoor
/-
  All choices of k of a list, plainly.
-/
namespace Go.Proofs.YtapledphhfiimaaGreatDoor
set_option linter.unusedVariables false

def combos : Nat → List Int → List (List Int)
  | 0, _ => [[]]
  | _ + 1, [] => []
  | k + 1, x :: S => (combos k S).map (x :: ·) ++ combos (k + 1) S
theorem combos_zero (S : List Int) : combos 0 S = [[]] := by cases S <;> rfl
theorem combos_short : ∀ (S : List Int) (k : Nat), S.length < k → combos k S = []
  | [], k + 1, _ => rfl
  | x :: S, k + 1, h => by
    rw [combos, combos_short S (k + 1) (by simp at h; omega), List.append_nil]
    rw [combos_short S k (by simp at h; omega)]; rfl
  | _, 0, h => by omega
theorem combos_at {S : List Int} {i : Nat} {x : Int} (k : Nat) (h : S[i]? = some x) : combos (k + 1) (S.drop i) = (combos k (S.drop (i + 1))).map (x :: ·) ++ combos (k + 1) (S.drop (i + 1)) := by
  obtain ⟨hi, he⟩ := List.getElem?_eq_some_iff.1 h
  rw [List.drop_eq_getElem_cons hi, he, combos]
theorem combos_el : ∀ (k : Nat) (S : List Int), ∀ q ∈ combos k S, q.length = k
  | 0, S, q, h => by rw [combos_zero] at h; obtain rfl : q = [] := by simpa using h
                     rfl
  | k + 1, [], q, h => by simp [combos] at h
  | k + 1, x :: S, q, h => by
    rw [combos] at h
    rcases List.mem_append.1 h with h | h
    · obtain ⟨r, hr, rfl⟩ := List.mem_map.1 h
      rw [List.length_cons, combos_el k S r hr]
    · exact combos_el (k + 1) S q h
/-- The choices of k; none where there are none. -/
def choices (S : List Int) (k : Int) : List (List Int) := if 0 ≤ k ∧ k ≤ S.length then combos k.toNat S else []
end Go.Proofs.YtapledphhfiimaaGreatDoor
