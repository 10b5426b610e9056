/-
  Part 15 of the proof of PatBack: PgF, PgG, TsA, RegI, RegQ.
-/
import Derived.Test.YtapledphhfiimaaGreatDoorPatBackM14
import Derived.Test.YtapledphhfiimaaGreatDoorPatBackM4
import Derived.BigQuiet
import Derived.WalkKit
import Derived.Lib.Hide
import Derived.Deep.RegionWith
import Derived.Deep.QuietTactic
set_option linter.unusedVariables false
/-
  The walk of the example of chapter 17: a program that keeps a pattern of one vertex.
-/
namespace Go.Proofs.YtapledphhfiimaaGreatDoor
open Go.RowKit Go.Proofs.YtapledphhfiimaaGreatDoor.Pg
attribute [local go_sem ↓] Go.wp_at_zero Go.wp_at_succ
set_option maxRecDepth 100000
set_option linter.unusedVariables false

theorem one_sl {b : Nat} {w : World} (h : w.cell? ⟨b, 0, none⟩ = some (.int .i64 3)) : Sl w 1 (some ⟨b, 0, none⟩) 1 (([3] : List Int).map (Value.int .i64)) :=
  ⟨rfl, fun _ => ⟨_, _, rfl, fun j u hu => by
    rcases j with _ | j
    · rw [show some u = some (Value.int .i64 3) from hu.symm]; exact h
    · simp at hu⟩⟩
theorem Over_17 (g : Nat) (w : World) (hK : Blk w g 40 #[.int .i64 2, .int .i64 3]) : Calls Tryz.prog 97 #[.int .i64 3, .pointer (some ⟨g, 0, none⟩)] w fun e w' => e = .returned (.bool false) ∧ w = w' := by
  have c0 := hK.cell 0
  have c1 := hK.cell 1
  simp at c0 c1
  clear hK
  go_enter Tryz.func97, Tryz.ntmps97
  go_wp2_with fail
  go_ret
  exact ⟨rfl, rfl⟩
theorem Index_17 (b g : Nat) (w : World) (hc : w.cell? ⟨b, 0, none⟩ = some (.int .i64 3)) (hK : Blk w g 40 #[.int .i64 2, .int .i64 3]) :
    Calls Tryz.prog 134 #[.slice (some ⟨b, 0, none⟩) 1 1, .func (.func 97) #[] #[.pointer (some ⟨g, 0, none⟩)]] w fun e w' => e = .returned (.int .i64 (-1)) ∧ w = w' := by
  have HC := Lib.hid (Over_17 g w hK)
  clear hK
  go_enter Tryz.func134, Tryz.ntmps134
  go_wp2_with fail
  go_loop [8] (fun i => ∃ k : Nat, k ≤ 1 ∧ i = .int .i64 k) (fun i => 1 - (intOf i).toNat)
  case atStart => exact ⟨0, Nat.zero_le _, rfl⟩
  case round =>
    obtain ⟨k, hk, rfl⟩ := hrel
    by_cases hlt : k < 1
    · obtain rfl : k = 0 := by omega
      go_wp2_with (go_at_call 97; refine HC.out.mono ?_; rintro e w' ⟨rfl, rfl⟩)
      go_round
      case rel => exact ⟨1, by omega, by go_num⟩
      case measure => simp [intOf]
    · obtain rfl : k = 1 := by omega
      go_wp2_with fail
      go_ret
      exact ⟨rfl, rfl⟩
theorem Contains_17 (b g : Nat) (w : World) (hc : w.cell? ⟨b, 0, none⟩ = some (.int .i64 3)) (hK : Blk w g 40 #[.int .i64 2, .int .i64 3]) :
    Calls Tryz.prog 96 #[.slice (some ⟨b, 0, none⟩) 1 1, .func (.func 97) #[] #[.pointer (some ⟨g, 0, none⟩)]] w fun e w' => e = .returned (.bool false) ∧ w = w' := by
  have HC := Lib.hid (Index_17 b g w hc hK)
  clear hc hK
  go_enter Tryz.func96, Tryz.ntmps96
  go_wp2_with (go_at_call 134; refine HC.out.mono ?_; rintro e w' ⟨rfl, rfl⟩)
  go_ret
  exact ⟨rfl, rfl⟩
/-- The program's two tests. -/
def two17 (o : Int × Int) : Prop := o = (1, 0) ∨ o = (2, 3)
set_option maxHeartbeats 4000000 in
theorem Holds_17 (o : Int × Int) (ho : two17 o) (b : Nat) (w : World) (hc : w.cell? ⟨b, 0, none⟩ = some (.int .i64 3)) :
    Calls Tryz.prog 72 #[.agg #[.int .i64 o.1, .int .i64 o.2], pv (some ⟨b, 0, none⟩) 1 1 none 0 0] w fun e w' => e = .returned (.bool true) ∧ Below w.heap.size w w' := by
  obtain ⟨W, hW⟩ : ∃ W, W = (w.alloc (.cells #[.int .i64 o.1, .int .i64 o.2] 40)).alloc (.cells #[.slice (some ⟨b, 0, none⟩) 1 1, .slice none 0 0] 30) := ⟨_, rfl⟩
  have HB := Lib.hid (show Below w.heap.size w W from by rw [hW]; exact bel_al (bel_al (Below.refl _ _) _) _)
  have hcW := (HB.out.cell (World.block_lt_of_cell? w _ hc)).trans hc
  rcases ho with rfl | rfl
  · clear hc
    go_enter Tryz.func72, Tryz.ntmps72
    go_wp2_with fail
    go_ret
    exact ⟨rfl, by rw [← hW]; exact HB.out⟩
  · have HC := Lib.hid (Contains_17 b w.heap.size W hcW (by rw [hW]; exact (Blk.new w _ _).alloc _))
    clear hcW
    go_enter Tryz.func72, Tryz.ntmps72
    rw [hW] at HC HB
    go_wp2_with (go_at_call 96; refine HC.out.mono ?_; rintro e w' ⟨rfl, rfl⟩)
    go_ret
    exact ⟨rfl, HB.out⟩
theorem two17_ok {o : Int × Int} (h : two17 o) : opOK o := by
  rcases h with rfl | rfl
  · exact ⟨⟨by decide, by decide⟩, ⟨by decide, by decide⟩, fun _ => rfl⟩
  · exact ⟨⟨by decide, by decide⟩, ⟨by decide, by decide⟩, fun h => absurd h (by decide)⟩
theorem right17p : rightP [3] [] := ⟨⟨by decide, by decide⟩, fun i e h => by simp at h⟩
theorem PatRight_17 (b : Nat) (w : World) (hc : w.cell? ⟨b, 0, none⟩ = some (.int .i64 3)) : Calls Tryz.prog 10 #[pv (some ⟨b, 0, none⟩) 1 1 none 0 0] w fun e w' => e = .returned .nilIface ∧ Below w.heap.size w w' :=
  (PatRight_any [3] [] _ none 1 1 0 0 _ rfl (by omega) (by omega) (one_sl hc) (Sl.nil _ _ _)).mono fun e w' h => by
    rcases h with ⟨_, h1, h2⟩ | ⟨h, _⟩
    · exact ⟨h1, h2⟩
    · exact absurd right17p h
theorem right_17 (o : Int × Int) (ho : two17 o) (w : World) : Calls Tryz.prog 34 #[.agg #[.int .i64 o.1, .int .i64 o.2], .int .i64 0] w fun e w' => e = .returned .nilIface ∧ Below w.heap.size w w' :=
  (right_any o.1 o.2 0 w).mono fun e w' h => by
    rcases h with ⟨_, h1, h2⟩ | ⟨h, _⟩
    · exact ⟨h1, h2⟩
    · exact absurd (two17_ok ho) h
set_option maxHeartbeats 4000000 in
theorem Test_17 (o : Int × Int) (ho : two17 o) (b : Nat) (w : World) (hc : w.cell? ⟨b, 0, none⟩ = some (.int .i64 3)) :
    Calls Tryz.prog 40 #[.agg #[.int .i64 o.1, .int .i64 o.2], pv (some ⟨b, 0, none⟩) 1 1 none 0 0] w fun e w' => e = .returned (.bool true) ∧ Below w.heap.size w w' := by
  have HB := Lib.hid (show Below w.heap.size w ((w.alloc (.cells #[.int .i64 o.1, .int .i64 o.2] 40)).alloc (.cells #[.slice (some ⟨b, 0, none⟩) 1 1, .slice none 0 0] 30)) from bel_al (bel_al (Below.refl _ _) _) _)
  have HC := Lib.hid hc
  have HO := Lib.hid ho
  have HR := Lib.hid (fun W => right_17 o ho W)
  have HK1 := Lib.hid ((Blk.new w 40 #[.int .i64 o.1, .int .i64 o.2]).alloc (.cells #[.slice (some ⟨b, 0, none⟩) 1 1, .slice none 0 0] 30))
  have HK2 := Lib.hid (Blk.new (w.alloc (.cells #[.int .i64 o.1, .int .i64 o.2] 40)) 30 #[.slice (some ⟨b, 0, none⟩) 1 1, .slice none 0 0])
  obtain ⟨x, y⟩ := o
  simp only at HB HR HK1 HK2 ⊢
  clear hc ho
  go_enter Tryz.func40, Tryz.ntmps40
  go_wp2_with (first
    | (go_at_call 34; refine (HR.out _).mono ?_; clear HR; rintro e w2 ⟨rfl, hb2⟩; have HB2 := Lib.hid (HB.out.andThen hb2); have k0 := (HK1.out.keep hb2).cell 0; have k1 := (HK1.out.keep hb2).cell 1; have k2 := (HK2.out.keep hb2).cell 0; have k3 := (HK2.out.keep hb2).cell 1; simp at k0 k1 k2 k3; have HKa := Lib.hid (HK1.out.keep hb2); have HKb := Lib.hid (HK2.out.keep hb2); have HP := Lib.hid (PatRight_17 b w2 ((HB2.out.cell (World.block_lt_of_cell? w _ HC.out)).trans HC.out)); clear hb2)
    | (go_at_call 10; refine HP.out.mono ?_; clear HP; rintro e w3 ⟨rfl, hb3⟩; have HB3 := Lib.hid (HB2.out.andThen hb3); clear k0 k1 k2 k3; have k0 := (HKa.out.keep hb3).cell 0; have k1 := (HKa.out.keep hb3).cell 1; have k2 := (HKb.out.keep hb3).cell 0; have k3 := (HKb.out.keep hb3).cell 1; simp at k0 k1 k2 k3; have HH := Lib.hid (Holds_17 (x, y) HO.out b w3 ((HB3.out.cell (World.block_lt_of_cell? w _ HC.out)).trans HC.out)); clear hb3)
    | (go_at_call 72; refine HH.out.mono ?_; clear HH; rintro e w4 ⟨rfl, hb4⟩; have HB4 := Lib.hid (HB3.out.andThen hb4); clear hb4))
  go_ret
  exact ⟨rfl, HB4.out⟩
theorem First1_17 (o : Int × Int) (ho : two17 o) (b g : Nat) (w : World) (hc : w.cell? ⟨b, 0, none⟩ = some (.int .i64 3)) (hK : Blk w g 30 #[.slice (some ⟨b, 0, none⟩) 1 1, .slice none 0 0]) :
    Calls Tryz.prog 39 #[.agg #[.int .i64 o.1, .int .i64 o.2], .pointer (some ⟨g, 0, none⟩)] w fun e w' => e = .returned (.bool false) ∧ Below w.heap.size w w' := by
  have HB := Lib.hid (bel_al (Below.refl w.heap.size w) (.cells #[.int .i64 o.1, .int .i64 o.2] 40))
  have HT := Lib.hid (Test_17 o ho b (w.alloc (.cells #[.int .i64 o.1, .int .i64 o.2] 40)) ((HB.out.cell (World.block_lt_of_cell? w _ hc)).trans hc))
  have hk0 := (hK.alloc (.cells #[.int .i64 o.1, .int .i64 o.2] 40)).cell 0
  have hk1 := (hK.alloc (.cells #[.int .i64 o.1, .int .i64 o.2] 40)).cell 1
  have hkl := hK.lt
  simp at hk0 hk1
  clear hc ho hK
  go_enter Tryz.func39, Tryz.ntmps39
  go_wp2_with (go_at_call 40; refine HT.out.mono ?_; clear HT; rintro e w4 ⟨rfl, hb4⟩; have HB4 := Lib.hid (HB.out.andThen hb4); clear hb4)
  go_ret
  exact ⟨rfl, HB4.out⟩
theorem IndexP_17 (A : Option Addr) (c b g : Nat) (w : World) (hs : Sl w 2 A 2 (Rk.cells [(1, 0), (2, 3)])) (hc : w.cell? ⟨b, 0, none⟩ = some (.int .i64 3)) (hK : Blk w g 30 #[.slice (some ⟨b, 0, none⟩) 1 1, .slice none 0 0]) :
    Calls Tryz.prog 38 #[.slice A 2 c, .func (.func 39) #[] #[.pointer (some ⟨g, 0, none⟩)]] w fun e w' => e = .returned (.int .i64 (-1)) ∧ Below w.heap.size w w' := by
  have HS := Lib.hid hs
  have HC := Lib.hid hc
  have HK := Lib.hid hK
  clear hs hc hK
  go_enter Tryz.func38, Tryz.ntmps38
  go_wp2_with fail
  go_loopw [8] (fun i wr => ∃ k : Nat, k ≤ 2 ∧ i = .int .i64 k ∧ Hid (Below w.heap.size w wr)) (fun i _ => 2 - (intOf i).toNat)
  case atStart => exact ⟨0, Nat.zero_le _, rfl, Lib.hid (Below.refl _ _)⟩
  case round =>
    obtain ⟨k, hk, rfl, HB⟩ := hrel
    by_cases hlt : k < 2
    · have hlt' : (k : Int) < 2 := by omega
      have hk0 : (0 : Int) ≤ (k : Int) := by omega
      obtain ⟨⟨x, y⟩, he⟩ : ∃ e, [((1 : Int), (0 : Int)), (2, 3)][k]? = some e := ⟨_, List.getElem?_eq_getElem hlt⟩
      have ho : two17 (x, y) := by
        have := List.mem_of_getElem? he
        simp only [List.mem_cons, List.not_mem_nil, or_false] at this
        exact this
      obtain ⟨b1, off1, rfl, c0, c1⟩ := (HS.out.keep HB.out).edge hlt he
      simp only at c0 c1
      have HF := Lib.hid (First1_17 (x, y) ho b g wr ((HB.out.cell (World.block_lt_of_cell? w _ HC.out)).trans HC.out) (HK.out.keep HB.out))
      simp only at HF
      clear he ho
      go_wp2_with (go_at_call 39; refine HF.out.mono ?_; rintro e w' ⟨rfl, hb2⟩; have HB2 := Lib.hid (HB.out.andThen hb2); clear hb2)
      go_roundw
      case rel => exact ⟨k + 1, by omega, by go_num, HB2⟩
      case measure => simp [intOf]; omega
    · obtain rfl : k = 2 := by omega
      go_wp2_with fail
      go_ret
      exact ⟨rfl, HB.out⟩
theorem First_17 (A : Option Addr) (c b : Nat) (w : World) (hs : Sl w 2 A 2 (Rk.cells [(1, 0), (2, 3)])) (hc : w.cell? ⟨b, 0, none⟩ = some (.int .i64 3)) :
    Calls Tryz.prog 12 #[.slice A 2 c, pv (some ⟨b, 0, none⟩) 1 1 none 0 0] w fun e w' => e = .returned (.int .i64 (-1)) ∧ Below w.heap.size w w' := by
  have HB := Lib.hid (bel_al (Below.refl w.heap.size w) (.cells #[.slice (some ⟨b, 0, none⟩) 1 1, .slice none 0 0] 30))
  have HI := Lib.hid (IndexP_17 A c b w.heap.size _ (hs.keep HB.out) ((HB.out.cell (World.block_lt_of_cell? w _ hc)).trans hc) (Blk.new w 30 #[.slice (some ⟨b, 0, none⟩) 1 1, .slice none 0 0]))
  clear hs hc
  go_enter Tryz.func12, Tryz.ntmps12
  go_wp2_with (go_at_call 38; refine HI.out.mono ?_; clear HI; rintro e w4 ⟨rfl, hb4⟩; have HB4 := Lib.hid (HB.out.andThen hb4); clear hb4)
  go_ret
  exact ⟨rfl, HB4.out⟩
theorem ProgRight_17 (A : Option Addr) (c : Nat) (w : World) (hs : Sl w 2 A 2 (Rk.cells [(1, 0), (2, 3)])) : Calls Tryz.prog 9 #[.slice A 2 c] w fun e w' => e = .returned .nilIface ∧ Below w.heap.size w w' :=
  (ProgRight_any [(1, 0), (2, 3)] A 2 c w (by omega) hs).mono fun e w' h => by
    rcases h with ⟨_, h1, h2⟩ | ⟨h, _⟩
    · exact ⟨h1, h2⟩
    · exact absurd ⟨by decide, fun o ho => two17_ok (by simp only [List.mem_cons, List.not_mem_nil, or_false] at ho; exact ho)⟩ h
set_option maxHeartbeats 4000000 in
theorem Keeps_17 (A : Option Addr) (c b : Nat) (w : World) (hs : Sl w 2 A 2 (Rk.cells [(1, 0), (2, 3)])) (hc : w.cell? ⟨b, 0, none⟩ = some (.int .i64 3)) :
    Calls Tryz.prog 11 #[.slice A 2 c, pv (some ⟨b, 0, none⟩) 1 1 none 0 0] w fun e w' => e = .returned (.bool true) ∧ Below w.heap.size w w' := by
  have HB := Lib.hid (bel_al (Below.refl w.heap.size w) (.cells #[.slice (some ⟨b, 0, none⟩) 1 1, .slice none 0 0] 30))
  have HK2 := Lib.hid (Blk.new w 30 #[.slice (some ⟨b, 0, none⟩) 1 1, .slice none 0 0])
  have HR := Lib.hid (ProgRight_17 A c _ (hs.keep HB.out))
  have HS := Lib.hid hs
  have HC := Lib.hid hc
  clear hs hc
  go_enter Tryz.func11, Tryz.ntmps11
  go_wp2_with (first
    | (go_at_call 9; refine HR.out.mono ?_; clear HR; rintro e w2 ⟨rfl, hb2⟩; have HB2 := Lib.hid (HB.out.andThen hb2); have k2 := (HK2.out.keep hb2).cell 0; have k3 := (HK2.out.keep hb2).cell 1; simp at k2 k3; have HKb := Lib.hid (HK2.out.keep hb2); have HP := Lib.hid (PatRight_17 b w2 ((HB2.out.cell (World.block_lt_of_cell? w _ HC.out)).trans HC.out)); clear hb2)
    | (go_at_call 10; refine HP.out.mono ?_; clear HP; rintro e w3 ⟨rfl, hb3⟩; have HB3 := Lib.hid (HB2.out.andThen hb3); clear k2 k3; have k2 := (HKb.out.keep hb3).cell 0; have k3 := (HKb.out.keep hb3).cell 1; simp at k2 k3; have HF := Lib.hid (First_17 A c b w3 (HS.out.keep HB3.out) ((HB3.out.cell (World.block_lt_of_cell? w _ HC.out)).trans HC.out)); clear hb3)
    | (go_at_call 12; refine HF.out.mono ?_; clear HF; rintro e w4 ⟨rfl, hb4⟩; have HB4 := Lib.hid (HB3.out.andThen hb4); clear hb4))
  go_ret
  exact ⟨rfl, HB4.out⟩
end Go.Proofs.YtapledphhfiimaaGreatDoor
/-
  Chapter 17's statements: alive.
-/
namespace Go.Proofs.YtapledphhfiimaaGreatDoor
open Go.RowKit Go.Proofs.YtapledphhfiimaaGreatDoor.Pg
attribute [local go_sem ↓] Go.wp_at_zero Go.wp_at_succ
set_option maxRecDepth 100000
set_option linter.unusedVariables false

def t17 : List UInt8 := [99, 108, 105, 113, 117, 101, 59, 108, 97, 98, 101, 108, 115, 32, 51]
def b17 : List UInt8 := [99, 108, 105, 113, 117, 101, 32, 49]
theorem right17 : rightG [(1, 0), (2, 3)] := ⟨by decide, fun o ho => two17_ok (by simp only [List.mem_cons, List.not_mem_nil, or_false] at ho; exact ho)⟩
theorem itoa3 : Lib.itoa 3 = [51] := by
  rw [show (3 : Int) = ((3 : Nat) : Int) from rfl]
  unfold Lib.itoa
  rw [if_neg (by omega), Int.toNat_natCast, Lib.decDigits, dif_pos (by omega)]
  rfl
theorem text17 : textG [(1, 0), (2, 3)] = t17 := by
  unfold textG
  simp only [List.map_cons, List.map_nil, opL, itoa3]
  rfl
theorem parse17 : parseG t17 = some [(1, 0), (2, 3)] := by rw [← text17]; exact parse_text right17
theorem tests17 : testsP (Tx.split1 59 b17) = none := by rfl
theorem bad17 : parseG b17 = none := by unfold parseG; rw [tests17]; rfl
theorem Parse_t17 (w : World) (hT : TabW w) (hL : LibW w) : Calls Tryz.prog 29 #[.string ⟨#[99, 108, 105, 113, 117, 101, 59, 108, 97, 98, 101, 108, 115, 32, 51]⟩] w fun e w' => ∃ D dc, e = .returned (.tuple #[.slice D 2 dc, .nilIface]) ∧ w'.ownsRow w.heap.size 40 2 (.slice D 2 dc) 2 (Rk.cells [(1, 0), (2, 3)]) ∧ Below w.heap.size w w' :=
  (PgParse_any t17 w (by decide) hL hT).mono fun e w' h => by
    rcases h with ⟨hb1, ⟨p, D, dc, hp, h1, hown⟩ | ⟨hp, _⟩⟩
    · rw [parse17] at hp
      injection hp with hp
      subst hp
      exact ⟨D, dc, h1, hown, hb1⟩
    · rw [parse17] at hp
      cases hp
theorem Parse_b17 (w : World) (hT : TabW w) (hL : LibW w) : Calls Tryz.prog 29 #[.string ⟨#[99, 108, 105, 113, 117, 101, 32, 49]⟩] w fun e w' => ∃ a s g, e = .returned (.tuple #[.slice none 0 0, .iface 111 (.pointer (some ⟨g, 0, none⟩))]) ∧ Blk w' g 114 #[.int .i64 2, .int .i64 a, .string s] ∧ Below w.heap.size w w' :=
  (PgParse_any b17 w (by decide) hL hT).mono fun e w' h => by
    rcases h with ⟨hb1, ⟨p, D, dc, hp, h1, hown⟩ | ⟨hp, c, a, s, g, he, ⟨g', hg', hv⟩, _, hc⟩⟩
    · rw [bad17] at hp
      cases hp
    · cases hg'
      have hc2 := hc tests17
      subst hc2
      exact ⟨a, s, g, he, hv, hb1⟩
theorem Text_t17 (D : Option Addr) (dc : Nat) (w : World) (hT : TabW w) (hs : Sl w 2 D 2 (Rk.cells [(1, 0), (2, 3)])) : Calls Tryz.prog 30 #[.slice D 2 dc] w fun e w' => e = .returned (.string ⟨#[99, 108, 105, 113, 117, 101, 59, 108, 97, 98, 101, 108, 115, 32, 51]⟩) ∧ Below w.heap.size w w' :=
  (PgText_any [(1, 0), (2, 3)] D 2 dc w (by omega) hs (fun o ho => ⟨(right17.2 o ho).1, by have := (right17.2 o ho).2.1; omega, by have := (right17.2 o ho).2.1; omega⟩) hT).mono fun e w' h => ⟨by rw [h.1, text17]; rfl, h.2⟩
set_option maxHeartbeats 1000000 in
theorem alive17 (w : World) (hg : ErrT w) (hT : TabW w) (hL : LibW w) : Calls Tryz.prog 6 #[] w fun e w' => e = .returned (.bool true) ∧ Below w.heap.size w w' := by
  have HP1 := Lib.hid (Parse_t17 w hT hL)
  have HP2 := Lib.hid (fun W (hW : Below w.heap.size w W) => Parse_b17 W (hT.keep hW) (hL.keep hW))
  have HG := Lib.hid hg
  have HT := Lib.hid hT
  clear hg hT hL
  go_enter Tryz.func6, Tryz.ntmps6
  go_upto_region 2 with (go_at_call 29; refine HP1.out.mono ?_; clear HP1; rintro e w1 ⟨D, dc, rfl, hown, hb1⟩; have HB1 := Lib.hid hb1; have HO1 := Lib.hid hown; clear hb1 hown)
  go_upto_region 3 with (go_at_call 29; refine (HP2.out w1 HB1.out).mono ?_; clear HP2; rintro e w2 ⟨a, s, g, rfl, hv, hb2⟩; have HB2 := Lib.hid (HB1.out.andThen hb2); have HV2 := Lib.hid hv; have HO2 := Lib.hid (own_block HO1.out fun g hg => hb2.block g (HO1.out.lt g hg).2); clear hb2 hv)
  have HS2 := Lib.hid (show Sl w2 2 D 2 (Rk.cells [(1, 0), (2, 3)]) from by obtain ⟨D1, dc1, h1, h2⟩ := Sl.own HO2.out; cases h1; exact h2)
  have HTx := Lib.hid (Text_t17 D dc w2 (HT.out.keep HB2.out) HS2.out)
  clear HO1 HO2
  go_wp2_with (first
    | (go_at_call 30; refine HTx.out.mono ?_; clear HTx; rintro e w3 ⟨rfl, hb3⟩; have HB3 := Lib.hid (HB2.out.andThen hb3); have HS3 := Lib.hid (HS2.out.keep hb3); have HC := Lib.hid (Code_flt g 2 a s w3 (HG.out.keep HB3.out) (HV2.out.keep hb3)); clear hb3)
    | (go_at_call 31; refine HC.out.mono ?_; clear HC; rintro e w4 ⟨rfl, hb4⟩; have HB4 := Lib.hid (bel_al (HB3.out.andThen hb4) (.cells #[.int .i64 3] 3)); have HK := Lib.hid (Keeps_17 D dc w4.heap.size (w4.alloc (.cells #[.int .i64 3] 3)) ((HS3.out.keep hb4).alloc _) (by rw [World.cell?_alloc_new]; rfl)); clear hb4)
    | (go_at_call 11; refine HK.out.mono ?_; clear HK; rintro e w5 ⟨rfl, hb5⟩; have HB5 := Lib.hid (HB4.out.andThen hb5); clear hb5))
  go_ret
  exact ⟨rfl, HB5.out⟩
end Go.Proofs.YtapledphhfiimaaGreatDoor
/-
  Tests of patterns: the walks of holds (kinds 1 to 5, and 7), Test, First, Keeps.
-/
namespace Go.Proofs.YtapledphhfiimaaGreatDoor
open Go.RowKit Go.Proofs.YtapledphhfiimaaGreatDoor.Pg
attribute [local go_sem ↓] Go.wp_at_zero Go.wp_at_succ
set_option maxRecDepth 100000
set_option linter.unusedVariables false

theorem Over_1 (x k N : Int) (g : Nat) (w : World) (hK : Blk w g 40 #[.int .i64 k, .int .i64 N]) : Calls Tryz.prog 97 #[.int .i64 x, .pointer (some ⟨g, 0, none⟩)] w fun e w' => e = .returned (.bool (decide (N < x))) ∧ w = w' := by
  have c1 := hK.cell 1
  simp at c1
  clear hK
  go_enter Tryz.func97, Tryz.ntmps97
  go_wp2_with fail
  go_ret
  exact ⟨rfl, rfl⟩
theorem Over_2 (x k N : Int) (g : Nat) (w : World) (hK : Blk w g 40 #[.int .i64 k, .int .i64 N]) : Calls Tryz.prog 102 #[.int .i64 x, .pointer (some ⟨g, 0, none⟩)] w fun e w' => e = .returned (.bool (!decide (x = N))) ∧ w = w' := by
  have c1 := hK.cell 1
  simp at c1
  clear hK
  by_cases h : x = N
  · subst h
    have HD := Lib.hid (show (!decide (x = x)) = false from by simp)
    go_enter Tryz.func102, Tryz.ntmps102
    go_wp2_with fail
    go_ret
    exact ⟨ret_bool HD.out.symm, rfl⟩
  · have HD := Lib.hid (show (!decide (x = N)) = true from by simp [h])
    have h1 : (x == N) = false := by simpa using h
    have h2 : (x != N) = true := by simpa using h
    clear h
    go_enter Tryz.func102, Tryz.ntmps102
    go_wp2_with fail
    go_ret
    exact ⟨ret_bool HD.out.symm, rfl⟩
set_option maxHeartbeats 1000000 in
theorem IndexL_1 (l : List Int) (A : Option Addr) (n c g : Nat) (k0 N : Int) (w : World) (hl : l.length = n) (hn : n ≤ 1000000) (hs : Sl w 1 A n (l.map (Value.int .i64))) (hK : Blk w g 40 #[.int .i64 k0, .int .i64 N]) :
    Calls Tryz.prog 134 #[.slice A n c, .func (.func 97) #[] #[.pointer (some ⟨g, 0, none⟩)]] w fun e w' => ∃ r : Int, e = .returned (.int .i64 r) ∧ decide (0 ≤ r) = (l.any fun x => decide (N < x)) ∧ w = w' := by
  have HC := Lib.hid (fun x => Over_1 x k0 N g w hK)
  have HS := Lib.hid hs
  have HL := Lib.hid hl
  clear hs hK hl
  go_enter Tryz.func134, Tryz.ntmps134
  go_wp2_with fail
  go_loop [8] (fun i => ∃ k : Nat, k ≤ n ∧ i = .int .i64 (k : Int) ∧ Hid (∀ x ∈ l.take k, (decide (N < x)) = false)) (fun i => n - (intOf i).toNat)
  case atStart => exact ⟨0, Nat.zero_le _, rfl, Lib.hid (fun x hx => by simp at hx)⟩
  case round =>
    obtain ⟨k, hk, rfl, HD⟩ := hrel
    by_cases hlt : k < n
    · have hlt' : (k : Int) < (n : Int) := by omega
      have hk0 : (0 : Int) ≤ (k : Int) := by omega
      obtain ⟨x, hx⟩ : ∃ x, l[k]? = some x := ⟨_, List.getElem?_eq_getElem (by rw [HL.out]; exact hlt)⟩
      obtain ⟨b, off, u, rfl, e1, c0⟩ := HS.out.one hlt
      rw [List.getElem?_map, hx] at e1
      obtain rfl : Value.int .i64 x = u := Option.some.inj e1
      have HX := Lib.hid hx
      clear hx e1
      have HCx := Lib.hid (HC.out x)
      cases hq : (decide (N < x)) with
      | true =>
        rw [hq] at HCx
        have HA := Lib.hid (show decide ((0 : Int) ≤ (k : Int)) = (l.any fun x => decide (N < x)) from by
          rw [decide_eq_true hk0]
          exact (List.any_eq_true.2 ⟨x, List.mem_of_getElem? HX.out, hq⟩).symm)
        clear hq
        go_wp2_with (go_at_call 97; refine HCx.out.mono ?_; rintro e w' ⟨rfl, rfl⟩)
        go_ret
        exact ⟨(k : Int), rfl, HA.out, rfl⟩
      | false =>
        rw [hq] at HCx
        have HD2 := Lib.hid (show ∀ y ∈ l.take (k + 1), (decide (N < y)) = false from fun y hy => by
          obtain ⟨h1, h2⟩ := List.getElem?_eq_some_iff.1 HX.out
          rw [List.take_succ_eq_append_getElem h1, h2] at hy
          rcases List.mem_append.1 hy with h | h
          · exact HD.out y h
          · rw [List.mem_singleton.1 h]; exact hq)
        clear hq
        go_wp2_with (go_at_call 97; refine HCx.out.mono ?_; rintro e w' ⟨rfl, rfl⟩)
        go_round
        case rel => exact ⟨k + 1, by omega, by go_num, HD2⟩
        case measure => simp [intOf]; omega
    · obtain rfl : k = n := by omega
      have hlt' : ¬ (k : Int) < (k : Int) := by omega
      have HA := Lib.hid (show decide ((0 : Int) ≤ -1) = (l.any fun x => decide (N < x)) from by
        have h := HD.out
        rw [List.take_of_length_le (by rw [HL.out]; exact Nat.le_refl _)] at h
        cases ha : l.any fun x => decide (N < x) with
        | false => rfl
        | true =>
          obtain ⟨x, hx, hq⟩ := List.any_eq_true.1 ha
          rw [h x hx] at hq
          cases hq)
      go_wp2_with fail
      go_ret
      exact ⟨-1, rfl, HA.out, rfl⟩
theorem ContainsL_1 (l : List Int) (A : Option Addr) (n c g : Nat) (k0 N : Int) (w : World) (hl : l.length = n) (hn : n ≤ 1000000) (hs : Sl w 1 A n (l.map (Value.int .i64))) (hK : Blk w g 40 #[.int .i64 k0, .int .i64 N]) :
    Calls Tryz.prog 96 #[.slice A n c, .func (.func 97) #[] #[.pointer (some ⟨g, 0, none⟩)]] w fun e w' => e = .returned (.bool (l.any fun x => decide (N < x))) ∧ w = w' := by
  have HC := Lib.hid (IndexL_1 l A n c g k0 N w hl hn hs hK)
  clear hs hK hl hn
  go_enter Tryz.func96, Tryz.ntmps96
  go_wp2_with (go_at_call 134; refine HC.out.mono ?_; rintro e w' ⟨r, rfl, hr, rfl⟩; have HR := Lib.hid hr; clear hr)
  go_ret
  exact ⟨ret_bool HR.out, rfl⟩
set_option maxHeartbeats 1000000 in
theorem IndexL_2 (l : List Int) (A : Option Addr) (n c g : Nat) (k0 N : Int) (w : World) (hl : l.length = n) (hn : n ≤ 1000000) (hs : Sl w 1 A n (l.map (Value.int .i64))) (hK : Blk w g 40 #[.int .i64 k0, .int .i64 N]) :
    Calls Tryz.prog 134 #[.slice A n c, .func (.func 102) #[] #[.pointer (some ⟨g, 0, none⟩)]] w fun e w' => ∃ r : Int, e = .returned (.int .i64 r) ∧ decide (0 ≤ r) = (l.any fun x => !decide (x = N)) ∧ w = w' := by
  have HC := Lib.hid (fun x => Over_2 x k0 N g w hK)
  have HS := Lib.hid hs
  have HL := Lib.hid hl
  clear hs hK hl
  go_enter Tryz.func134, Tryz.ntmps134
  go_wp2_with fail
  go_loop [8] (fun i => ∃ k : Nat, k ≤ n ∧ i = .int .i64 (k : Int) ∧ Hid (∀ x ∈ l.take k, (!decide (x = N)) = false)) (fun i => n - (intOf i).toNat)
  case atStart => exact ⟨0, Nat.zero_le _, rfl, Lib.hid (fun x hx => by simp at hx)⟩
  case round =>
    obtain ⟨k, hk, rfl, HD⟩ := hrel
    by_cases hlt : k < n
    · have hlt' : (k : Int) < (n : Int) := by omega
      have hk0 : (0 : Int) ≤ (k : Int) := by omega
      obtain ⟨x, hx⟩ : ∃ x, l[k]? = some x := ⟨_, List.getElem?_eq_getElem (by rw [HL.out]; exact hlt)⟩
      obtain ⟨b, off, u, rfl, e1, c0⟩ := HS.out.one hlt
      rw [List.getElem?_map, hx] at e1
      obtain rfl : Value.int .i64 x = u := Option.some.inj e1
      have HX := Lib.hid hx
      clear hx e1
      have HCx := Lib.hid (HC.out x)
      cases hq : (!decide (x = N)) with
      | true =>
        rw [hq] at HCx
        have HA := Lib.hid (show decide ((0 : Int) ≤ (k : Int)) = (l.any fun x => !decide (x = N)) from by
          rw [decide_eq_true hk0]
          exact (List.any_eq_true.2 ⟨x, List.mem_of_getElem? HX.out, hq⟩).symm)
        clear hq
        go_wp2_with (go_at_call 102; refine HCx.out.mono ?_; rintro e w' ⟨rfl, rfl⟩)
        go_ret
        exact ⟨(k : Int), rfl, HA.out, rfl⟩
      | false =>
        rw [hq] at HCx
        have HD2 := Lib.hid (show ∀ y ∈ l.take (k + 1), (!decide (y = N)) = false from fun y hy => by
          obtain ⟨h1, h2⟩ := List.getElem?_eq_some_iff.1 HX.out
          rw [List.take_succ_eq_append_getElem h1, h2] at hy
          rcases List.mem_append.1 hy with h | h
          · exact HD.out y h
          · rw [List.mem_singleton.1 h]; exact hq)
        clear hq
        go_wp2_with (go_at_call 102; refine HCx.out.mono ?_; rintro e w' ⟨rfl, rfl⟩)
        go_round
        case rel => exact ⟨k + 1, by omega, by go_num, HD2⟩
        case measure => simp [intOf]; omega
    · obtain rfl : k = n := by omega
      have hlt' : ¬ (k : Int) < (k : Int) := by omega
      have HA := Lib.hid (show decide ((0 : Int) ≤ -1) = (l.any fun x => !decide (x = N)) from by
        have h := HD.out
        rw [List.take_of_length_le (by rw [HL.out]; exact Nat.le_refl _)] at h
        cases ha : l.any fun x => !decide (x = N) with
        | false => rfl
        | true =>
          obtain ⟨x, hx, hq⟩ := List.any_eq_true.1 ha
          rw [h x hx] at hq
          cases hq)
      go_wp2_with fail
      go_ret
      exact ⟨-1, rfl, HA.out, rfl⟩
theorem ContainsL_2 (l : List Int) (A : Option Addr) (n c g : Nat) (k0 N : Int) (w : World) (hl : l.length = n) (hn : n ≤ 1000000) (hs : Sl w 1 A n (l.map (Value.int .i64))) (hK : Blk w g 40 #[.int .i64 k0, .int .i64 N]) :
    Calls Tryz.prog 96 #[.slice A n c, .func (.func 102) #[] #[.pointer (some ⟨g, 0, none⟩)]] w fun e w' => e = .returned (.bool (l.any fun x => !decide (x = N))) ∧ w = w' := by
  have HC := Lib.hid (IndexL_2 l A n c g k0 N w hl hn hs hK)
  clear hs hK hl hn
  go_enter Tryz.func96, Tryz.ntmps96
  go_wp2_with (go_at_call 134; refine HC.out.mono ?_; rintro e w' ⟨r, rfl, hr, rfl⟩; have HR := Lib.hid hr; clear hr)
  go_ret
  exact ⟨ret_bool HR.out, rfl⟩
set_option maxHeartbeats 1000000 in
theorem Degrees_any (L : List Int) (E : List (Int × Int)) (A B : Option Addr) (n c m d : Nat) (N : Int) (w : World) (hl : L.length = n) (hn : n ≤ 1000000) (hm : m ≤ 1000000) (ht : Sl w 2 B m (Rk.cells E)) :
    Calls Tryz.prog 98 #[pv A n c B m d, .int .i64 N] w fun e w' => e = .returned (.bool ((List.range n).all fun v => decide ((Pt.deg E (v : Nat) : Int) ≤ N))) ∧ Below w.heap.size w w' := by
  have HB0 := Lib.hid (bel_al (Below.refl w.heap.size w) (.cells #[.slice A n c, .slice B m d] 30))
  have HK := Lib.hid (Blk.new w 30 #[.slice A n c, .slice B m d])
  have HT := Lib.hid ht
  have HD := Lib.hid (fun (v : Int) (W : World) (hW : Below w.heap.size w W) => Degree_any E A B n c m d v W hm (ht.keep hW))
  clear ht
  go_enter Tryz.func98, Tryz.ntmps98
  go_wp2_with fail
  go_loopw [9] (fun i wr => ∃ k : Nat, k ≤ n ∧ i = .int .i64 (k : Int) ∧ Hid (∀ v, v < k → decide ((Pt.deg E (v : Nat) : Int) ≤ N) = true) ∧ Hid (Below w.heap.size w wr) ∧ Hid (Blk wr w.heap.size 30 #[.slice A n c, .slice B m d])) (fun i _ => n - (intOf i).toNat)
  case atStart => exact ⟨0, Nat.zero_le _, rfl, Lib.hid (fun v hv => by omega), HB0, HK⟩
  case round =>
    obtain ⟨k, hk, rfl, HA, HB, HKr⟩ := hrel
    by_cases hlt : k < n
    · have hlt' : (k : Int) < (n : Int) := by omega
      have k0 := HKr.out.cell 0
      have k1 := HKr.out.cell 1
      simp at k0 k1
      have HDk := Lib.hid (HD.out (k : Int) wr HB.out)
      obtain ⟨z, hz⟩ : ∃ z : Int, z = (Pt.deg E (k : Int) : Nat) := ⟨_, rfl⟩
      rw [← hz] at HDk
      by_cases hq : z ≤ N
      · have hq' : ¬ N < z := by omega
        have HA2 := Lib.hid (show ∀ v, v < k + 1 → decide ((Pt.deg E (v : Nat) : Int) ≤ N) = true from fun v hv => by
          rcases Nat.lt_or_ge v k with h | h
          · exact HA.out v h
          · obtain rfl : v = k := by omega
            exact decide_eq_true (by rw [← hz]; exact hq))
        clear hz hq
        go_wp2_with (go_at_call 28; refine HDk.out.mono ?_; clear HDk; rintro e w2 ⟨rfl, hb2⟩; have HB2 := Lib.hid (HB.out.andThen hb2); have HK2 := Lib.hid (HKr.out.keep hb2); clear hb2)
        go_roundw
        case rel => exact ⟨k + 1, by omega, by go_num, HA2, HB2, HK2⟩
        case measure => simp [intOf]; omega
      · have hq' : N < z := by omega
        have HF := Lib.hid (show ((List.range n).all fun v => decide ((Pt.deg E (v : Nat) : Int) ≤ N)) = false from by
          rw [List.all_eq_false]
          exact ⟨k, List.mem_range.2 hlt, by rw [decide_eq_true_eq, ← hz]; exact hq⟩)
        clear hz hq
        go_wp2_with (go_at_call 28; refine HDk.out.mono ?_; clear HDk; rintro e w2 ⟨rfl, hb2⟩; have HB2 := Lib.hid (HB.out.andThen hb2); clear hb2)
        go_ret
        exact ⟨ret_bool HF.out.symm, HB2.out⟩
    · obtain rfl : k = n := by omega
      have hlt' : ¬ (k : Int) < (k : Int) := by omega
      have HF := Lib.hid (show ((List.range k).all fun v => decide ((Pt.deg E (v : Nat) : Int) ≤ N)) = true from by
        rw [List.all_eq_true]
        exact fun v hv => HA.out v (List.mem_range.1 hv))
      go_wp2_with fail
      go_ret
      exact ⟨ret_bool HF.out.symm, HB.out⟩
/-- holds answers what the plain test says. -/
def HoldsOK (o : Int × Int) (L : List Int) (E : List (Int × Int)) : Prop :=
  ∀ (A B : Option Addr) (n c m d : Nat) (w : World), L.length = n → m ≤ 1000000 → Sl w 1 A n (L.map (Value.int .i64)) → Sl w 2 B m (Rk.cells E) →
    Calls Tryz.prog 72 #[.agg #[.int .i64 o.1, .int .i64 o.2], pv A n c B m d] w fun e w' => e = .returned (.bool (Ts.holdsB o L E)) ∧ Below w.heap.size w w'
set_option maxHeartbeats 1000000 in
theorem holds_2 (N : Int) (L : List Int) (E : List (Int × Int)) (h8 : L.length ≤ 8) : HoldsOK (2, N) L E := by
  intro A B n c m d w hl hm hs ht
  have HB0 := Lib.hid (bel_al (bel_al (Below.refl w.heap.size w) (.cells #[.int .i64 2, .int .i64 N] 40)) (.cells #[.slice A n c, .slice B m d] 30))
  have HK1 := Lib.hid ((Blk.new w 40 #[.int .i64 2, .int .i64 N]).alloc (.cells #[.slice A n c, .slice B m d] 30))
  have HMl := Lib.hid ht.len2
  have hn8 : n ≤ 8 := by omega
  have HC := Lib.hid (ContainsL_1 L A n c w.heap.size 2 N ((w.alloc (.cells #[.int .i64 2, .int .i64 N] 40)).alloc (.cells #[.slice A n c, .slice B m d] 30)) hl (by omega) (hs.keep HB0.out) HK1.out)
  have HR := Lib.hid (show Ts.holdsB (2, N) L E = !(L.any fun x => decide (N < x)) from rfl)
  clear hs ht
  go_enter Tryz.func72, Tryz.ntmps72
  go_wp2_with (go_at_call 96; refine HC.out.mono ?_; rintro e w' ⟨rfl, rfl⟩)
  go_ret
  exact ⟨ret_bool HR.out.symm, HB0.out⟩
set_option maxHeartbeats 1000000 in
theorem holds_3 (N : Int) (L : List Int) (E : List (Int × Int)) (h8 : L.length ≤ 8) : HoldsOK (3, N) L E := by
  intro A B n c m d w hl hm hs ht
  have HB0 := Lib.hid (bel_al (bel_al (Below.refl w.heap.size w) (.cells #[.int .i64 3, .int .i64 N] 40)) (.cells #[.slice A n c, .slice B m d] 30))
  have HK1 := Lib.hid ((Blk.new w 40 #[.int .i64 3, .int .i64 N]).alloc (.cells #[.slice A n c, .slice B m d] 30))
  have HMl := Lib.hid ht.len2
  have hn8 : n ≤ 8 := by omega
  have HC := Lib.hid (Degrees_any L E A B n c m d N ((w.alloc (.cells #[.int .i64 3, .int .i64 N] 40)).alloc (.cells #[.slice A n c, .slice B m d] 30)) hl (by omega) hm (ht.keep HB0.out))
  have HR := Lib.hid (show Ts.holdsB (3, N) L E = (List.range n).all fun v => decide ((Pt.deg E (v : Nat) : Int) ≤ N) from by rw [← hl]; rfl)
  clear hs ht
  go_enter Tryz.func72, Tryz.ntmps72
  go_wp2_with (go_at_call 98; refine HC.out.mono ?_; rintro e w2 ⟨rfl, hb2⟩; have HB2 := Lib.hid (HB0.out.andThen hb2); clear hb2)
  go_ret
  exact ⟨ret_bool HR.out.symm, HB2.out⟩
set_option maxHeartbeats 1000000 in
theorem holds_4 (N : Int) (L : List Int) (E : List (Int × Int)) (h8 : L.length ≤ 8) : HoldsOK (4, N) L E := by
  intro A B n c m d w hl hm hs ht
  have HB0 := Lib.hid (bel_al (bel_al (Below.refl w.heap.size w) (.cells #[.int .i64 4, .int .i64 N] 40)) (.cells #[.slice A n c, .slice B m d] 30))
  have HK1 := Lib.hid ((Blk.new w 40 #[.int .i64 4, .int .i64 N]).alloc (.cells #[.slice A n c, .slice B m d] 30))
  have HMl := Lib.hid ht.len2
  have hn8 : n ≤ 8 := by omega
  have HR := Lib.hid (show Ts.holdsB (4, N) L E = decide ((n : Int) ≤ N) from by rw [← hl]; rfl)
  clear hs ht
  go_enter Tryz.func72, Tryz.ntmps72
  go_wp2_with fail
  go_ret
  exact ⟨ret_bool HR.out.symm, HB0.out⟩
set_option maxHeartbeats 1000000 in
theorem holds_5 (N : Int) (L : List Int) (E : List (Int × Int)) (h8 : L.length ≤ 8) : HoldsOK (5, N) L E := by
  intro A B n c m d w hl hm hs ht
  have HB0 := Lib.hid (bel_al (bel_al (Below.refl w.heap.size w) (.cells #[.int .i64 5, .int .i64 N] 40)) (.cells #[.slice A n c, .slice B m d] 30))
  have HK1 := Lib.hid ((Blk.new w 40 #[.int .i64 5, .int .i64 N]).alloc (.cells #[.slice A n c, .slice B m d] 30))
  have HMl := Lib.hid ht.len2
  have hn8 : n ≤ 8 := by omega
  have HR := Lib.hid (show Ts.holdsB (5, N) L E = decide ((m : Int) ≤ N) from by rw [← HMl.out]; rfl)
  clear hs ht
  go_enter Tryz.func72, Tryz.ntmps72
  go_wp2_with fail
  go_ret
  exact ⟨ret_bool HR.out.symm, HB0.out⟩
set_option maxHeartbeats 1000000 in
theorem holds_7 (N : Int) (L : List Int) (E : List (Int × Int)) (h8 : L.length ≤ 8) : HoldsOK (7, N) L E := by
  intro A B n c m d w hl hm hs ht
  have HB0 := Lib.hid (bel_al (bel_al (Below.refl w.heap.size w) (.cells #[.int .i64 7, .int .i64 N] 40)) (.cells #[.slice A n c, .slice B m d] 30))
  have HK1 := Lib.hid ((Blk.new w 40 #[.int .i64 7, .int .i64 N]).alloc (.cells #[.slice A n c, .slice B m d] 30))
  have HMl := Lib.hid ht.len2
  have hn8 : n ≤ 8 := by omega
  have HC := Lib.hid (ContainsL_2 L A n c w.heap.size 7 N ((w.alloc (.cells #[.int .i64 7, .int .i64 N] 40)).alloc (.cells #[.slice A n c, .slice B m d] 30)) hl (by omega) (hs.keep HB0.out) HK1.out)
  have HR := Lib.hid (show Ts.holdsB (7, N) L E = !(L.any fun x => !decide (x = N)) from rfl)
  clear hs ht
  go_enter Tryz.func72, Tryz.ntmps72
  go_wp2_with (go_at_call 96; refine HC.out.mono ?_; rintro e w' ⟨rfl, rfl⟩)
  go_ret
  exact ⟨ret_bool HR.out.symm, HB0.out⟩
end Go.Proofs.YtapledphhfiimaaGreatDoor
/-
  A region that draws its order, by an invariant: whatever may come up keeps it; so no order is gone through by itself.
-/
namespace Go.Proofs.YtapledphhfiimaaGreatDoor
open Go.RowKit
set_option linter.unusedVariables false

theorem set_fewer : ∀ (l : List Bool) (i : Nat), l[i]? = some false → ((l.set i true).filter (! ·)).length + 1 = (l.filter (! ·)).length
  | [], i, h => by simp at h
  | b :: l, 0, h => by
    obtain rfl : b = false := by simpa using h
    simp
  | b :: l, i + 1, h => by
    have ih := set_fewer l i (by simpa using h)
    rw [List.set_cons_succ]
    cases b
    · simp only [List.filter_cons, Bool.not_false, if_true, List.length_cons]
      omega
    · simp only [List.filter_cons, Bool.not_true, Bool.false_eq_true, if_false]
      exact ih
section
variable {P : Program} {md : Region.Mode} {ops : Array Oper} {Q : Exit → Act → World → Prop}
theorem ready_open {listed : Array Bool} {i : Nat} (hi : i ∈ Region.ready md ops listed) : listed.toList[i]? = some false := by
  have h := (mem_ready.1 hi).1
  rw [Array.getElem?_toList]
  rw [Array.getD_eq_getD_getElem?] at h
  cases hx : listed[i]? with
  | none => rw [hx] at h; simp at h
  | some b => rw [hx] at h; simp at h; rw [h]
theorem wpAny_inv {I : Array Bool → Act → World → Prop}
    (hstep : ∀ (i : Nat) (listed : Array Bool) (a : Act) (w : World), i ∈ Region.ready md ops listed → I listed a w → wpOp P ops Q i (fun a' w' => I (listed.setIfInBounds i true) a' w') a w)
    (hend : ∀ (listed : Array Bool) (a : Act) (w : World), Region.ready md ops listed = [] → I listed a w → Q .normal a w) :
    ∀ (fuel : Nat) (listed : Array Bool) (a : Act) (w : World), (listed.toList.filter (! ·)).length ≤ fuel → I listed a w → wpAny P md ops Q fuel listed a w
  | 0, listed, a, w, hf, h => by
    have hnil : Region.ready md ops listed = [] := by
      refine List.eq_nil_iff_forall_not_mem.2 fun i hi => ?_
      have := set_fewer _ _ (ready_open hi)
      omega
    exact ⟨hnil, hend listed a w hnil h⟩
  | fuel + 1, listed, a, w, hf, h =>
    ⟨fun h0 => hend listed a w h0 h, fun i hi => wpOp_mono (fun a' w' h' => wpAny_inv hstep hend fuel _ a' w' (by
      have := set_fewer _ _ (ready_open hi)
      rw [Array.toList_setIfInBounds]
      omega) h') (hstep i listed a w hi h)⟩
/-- A region by an invariant. -/
theorem wp_region_inv {id : Nat} {a : Act} {w : World} (I : Array Bool → Act → World → Prop) (hm : P.follows .mixedOrders = true) (h0 : I (Array.replicate ops.size false) a w.drew)
    (hstep : ∀ (i : Nat) (listed : Array Bool) (a : Act) (w : World), i ∈ Region.ready .any ops listed → I listed a w → wpOp P ops Q i (fun a' w' => I (listed.setIfInBounds i true) a' w') a w)
    (hend : ∀ (listed : Array Bool) (a : Act) (w : World), Region.ready .any ops listed = [] → I listed a w → Q .normal a w) : (Code.region id ops true).wp P Q a w :=
  wp_region_any hm (wpAny_inv hstep hend _ _ _ _ (by simp) h0)
end
section
variable {P : Program} {ops : Array Oper} {C : World → Prop}
/-- A region whose operations leave the world in a class: one walk in the order of the text serves every order. -/
theorem wp_region_cls {id : Nat} {Q : Exit → Act → World → Prop} {a : Act} {w : World} {l : List Oper} (C : World → Prop) (hm : P.follows .mixedOrders = true) (hB : Region.lexB .any l.toArray = true) (hC : C w.drew)
    (h : wpQuiet P l.toArray C (fun a' => ∀ w', C w' → Q .normal a' w') l a) : (Code.region id l.toArray true).wp P Q a w :=
  wp_region_quiet hm hB hC (by simpa using h)
theorem wpQ_want {Q : Act → Prop} {a : Act} {o : Oper} {rest : List Oper} {v : Value} (hw : Region.wanted o (yielded ops a.tmps) = true) (h1 : ∀ W, C W → o.quietAt P a C W v) (h2 : wpQuiet P ops C Q rest (a.put o.dst v)) : wpQuiet P ops C Q (o :: rest) a := by
  unfold wpQuiet
  rw [if_pos hw]
  exact ⟨v, h1, h2⟩
theorem wpQ_pass {Q : Act → Prop} {a : Act} {o : Oper} {rest : List Oper} (hw : Region.wanted o (yielded ops a.tmps) = false) (h2 : wpQuiet P ops C Q rest (a.put o.dst undef)) : wpQuiet P ops C Q (o :: rest) a := by
  unfold wpQuiet
  rw [if_neg (by rw [hw]; decide)]
  exact h2
theorem if_wanted {c : Bool} {p q : Prop} (hc : c = true) (h : p) : if c = true then p else q := by rw [if_pos hc]; exact h
theorem if_passed {c : Bool} {p q : Prop} (hc : c = false) (h : q) : if c = true then p else q := by rw [if_neg (by rw [hc]; decide)]; exact h
end
end Go.Proofs.YtapledphhfiimaaGreatDoor
/-
  A region that draws its order, its values fixed, step by step in a closed word (so that no step evaluates what comes behind it).
-/
namespace Go.Proofs.YtapledphhfiimaaGreatDoor
open Go.RowKit
set_option linter.unusedVariables false

/-- What wpQuiet says, closed. -/
structure QQ (P : Program) (ops : Array Oper) (C : World → Prop) (Q : Act → Prop) (l : List Oper) (a : Act) : Prop where
  out : wpQuiet P ops C Q l a
section
variable {P : Program} {ops : Array Oper} {C : World → Prop}
theorem wp_region_qq {id : Nat} {Q : Exit → Act → World → Prop} {a : Act} {w : World} {l : List Oper} (C : World → Prop) (hm : P.follows .mixedOrders = true) (hB : Region.lexB .any l.toArray = true) (hC : C w.drew)
    (h : QQ P l.toArray C (fun a' => ∀ w', C w' → Q .normal a' w') l a) : (Code.region id l.toArray true).wp P Q a w := wp_region_cls C hm hB hC h.out
theorem qq_want {Q : Act → Prop} {a : Act} {o : Oper} {rest : List Oper} {v : Value} (hw : Region.wanted o (yielded ops a.tmps) = true) (h1 : ∀ W, C W → o.quietAt P a C W v) (h2 : QQ P ops C Q rest (a.put o.dst v)) : QQ P ops C Q (o :: rest) a := ⟨wpQ_want hw h1 h2.out⟩
theorem qq_pass {Q : Act → Prop} {a : Act} {o : Oper} {rest : List Oper} (hw : Region.wanted o (yielded ops a.tmps) = false) (h2 : QQ P ops C Q rest (a.put o.dst undef)) : QQ P ops C Q (o :: rest) a := ⟨wpQ_pass hw h2.out⟩
theorem qq_nil {Q : Act → Prop} {a : Act} (h : Q a) : QQ P ops C Q [] a := ⟨wpQuiet_nil h⟩
end
end Go.Proofs.YtapledphhfiimaaGreatDoor
