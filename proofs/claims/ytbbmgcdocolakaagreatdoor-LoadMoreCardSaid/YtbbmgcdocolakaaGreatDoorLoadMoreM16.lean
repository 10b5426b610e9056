/-
  Part 16 of the proof of LoadMore: GrS0, GrS, GrQ, GrW0.
-/
import Derived.BigQuiet
import Derived.BigRegion
import Derived.Laws.OwnMore
import Derived.Test.YtbbmgcdocolakaaGreatDoorLoadMoreM15
import Derived.Test.YtbbmgcdocolakaaGreatDoorLoadMoreM8
import Derived.Test.YtbbmgcdocolakaaGreatDoorLoadMoreM13
set_option linter.unusedVariables false
/-
  (*Graph).rows: where the vertices beside each vertex lie.
-/
namespace Go.Proofs.YtbbmgcdocolakaaGreatDoor
open Go.RowKit
attribute [local go_sem ↓] Go.wp_at_zero Go.wp_at_succ
set_option maxRecDepth 100000
set_option linter.unusedVariables false

theorem Asd.high {g : Nat} {a w : World} (h : Asd g a w) {b : Nat} (hb : a.heap.size ≤ b) (i : Nat) (u : Value) : Asd g a (w.setCell ⟨b, i, none⟩ u) :=
  ⟨by simpa using h.1, fun k hk hl => (Below.heap_setCell w ⟨b, i, none⟩ u k (fun e => by have e' : k = b := e; omega)).trans (h.2 k hk hl)⟩
theorem Asd.then {g : Nat} {a w w' : World} (h : Asd g a w) (hb : Below w.heap.size w w') : Asd g a w' := h.trans (Asd.of hb)
/-- What lies while rows works: the box of the graph, the graph. -/
structure RG (w : World) (g : Nat) (a b f n i : Value) (W : World) : Prop where
  box : Blk W w.heap.size 25 #[.pointer (some ⟨g, 0, none⟩)]
  gr : Blk W g 74 #[a, b, f, n, i]
  asd : Asd g w W
  bel : Below g w W
theorem RG.keep {w : World} {g : Nat} {a b f n i : Value} {W W' : World} (h : RG w g a b f n i W) (hb : Below W.heap.size W W') : RG w g a b f n i W' :=
  ⟨h.box.keep hb, h.gr.keep hb, h.asd.then hb, h.bel.trans (hb.mono (Nat.le_of_lt h.gr.lt))⟩
theorem RG.high {w : World} {g : Nat} {a b f n i : Value} {W : World} (h : RG w g a b f n i W) {c : Nat} (hc : w.heap.size < c) (hg : g < w.heap.size) (j : Nat) (u : Value) : RG w g a b f n i (W.setCell ⟨c, j, none⟩ u) :=
  ⟨h.box.far (p := ⟨c, j, none⟩) (by simp only; omega) u, h.gr.far (p := ⟨c, j, none⟩) (by simp only; omega) u, h.asd.high (by omega) j u, h.bel.setCell (p := ⟨c, j, none⟩) (by simp only; omega) u⟩
theorem RG.drew {w : World} {g : Nat} {a b f n i : Value} {W : World} (h : RG w g a b f n i W) : RG w g a b f n i W.drew := h.keep (bel_drewN (Below.refl W.heap.size W) 1)
theorem RG.set2 {w : World} {g : Nat} {a b f n i : Value} {W : World} (h : RG w g a b f n i W) (hne : w.heap.size ≠ g) (u : Value) : RG w g a b u n i (W.setCell ⟨g, 2, none⟩ u) :=
  ⟨h.box.far (p := ⟨g, 2, none⟩) hne u, by have := h.gr.set_ 2 u; simpa using this, h.asd.setCell 2 u, h.bel.setCell (p := ⟨g, 2, none⟩) (Nat.le_refl _) u⟩
theorem RG.set3 {w : World} {g : Nat} {a b f n i : Value} {W : World} (h : RG w g a b f n i W) (hne : w.heap.size ≠ g) (u : Value) : RG w g a b f u i (W.setCell ⟨g, 3, none⟩ u) :=
  ⟨h.box.far (p := ⟨g, 3, none⟩) hne u, by have := h.gr.set_ 3 u; simpa using this, h.asd.setCell 3 u, h.bel.setCell (p := ⟨g, 3, none⟩) (Nat.le_refl _) u⟩
theorem RG.set4 {w : World} {g : Nat} {a b f n i : Value} {W : World} (h : RG w g a b f n i W) (hne : w.heap.size ≠ g) (u : Value) : RG w g a b f n u (W.setCell ⟨g, 4, none⟩ u) :=
  ⟨h.box.far (p := ⟨g, 4, none⟩) hne u, by have := h.gr.set_ 4 u; simpa using this, h.asd.setCell 4 u, h.bel.setCell (p := ⟨g, 4, none⟩) (Nat.le_refl _) u⟩
theorem own_rep_at {B : Nat} (W : World) (n b : Nat) (hb : W.heap.size = b) (hB : B ≤ b) (hn : n ≤ 9223372036854775807) : OL (W.alloc (.cells (Array.replicate n (.int .i64 0)) 3)) B b n n (List.replicate n 0) := by
  subst hb
  have := own_replicate (B := B) (e := 3) W n (.int .i64 0) hB hn
  unfold OL
  rw [List.map_replicate]
  exact this
theorem RG.same {w : World} {g : Nat} {a b f n i : Value} {W W' : World} (h : RG w g a b f n i W) (hb : Below W.heap.size W W') : RG w g a b f n i W' := h.keep hb

theorem two_made {w : World} {g : Nat} {a b f n i : Value} {W : World} (h : RG w g a b f n i W) (hne : w.heap.size ≠ g) (hw : w.heap.size ≤ W.heap.size) (m : Nat) (hm : m ≤ 9223372036854775807) (u v : Value) :
    RG w g a b f u v ((((W.setCell ⟨g, 3, none⟩ u).setCell ⟨g, 4, none⟩ v).alloc (.cells (Array.replicate m (.int .i64 0)) 3)).alloc (.cells (Array.replicate m (.int .i64 0)) 3)).drew ∧
    OL ((((W.setCell ⟨g, 3, none⟩ u).setCell ⟨g, 4, none⟩ v).alloc (.cells (Array.replicate m (.int .i64 0)) 3)).alloc (.cells (Array.replicate m (.int .i64 0)) 3)).drew w.heap.size W.heap.size m m (List.replicate m 0) ∧
    OL ((((W.setCell ⟨g, 3, none⟩ u).setCell ⟨g, 4, none⟩ v).alloc (.cells (Array.replicate m (.int .i64 0)) 3)).alloc (.cells (Array.replicate m (.int .i64 0)) 3)).drew w.heap.size (W.heap.size + 1) m m (List.replicate m 0) ∧
    Asd g W ((((W.setCell ⟨g, 3, none⟩ u).setCell ⟨g, 4, none⟩ v).alloc (.cells (Array.replicate m (.int .i64 0)) 3)).alloc (.cells (Array.replicate m (.int .i64 0)) 3)).drew := by
  refine ⟨((((h.set3 hne u).set4 hne v).keep (bel_al (Below.refl _ _) _)).keep (bel_al (Below.refl _ _) _)).drew, ?_, ?_, ?_⟩
  · exact ((own_rep_at _ m W.heap.size (by simp) hw hm).keep (bel_al (Below.refl _ _) _)).same rfl
  · exact (own_rep_at _ m (W.heap.size + 1) (by simp) (by omega) hm).same rfl
  · exact ((((Asd.of (Below.refl W.heap.size W)).setCell 3 u).setCell 4 v).then (bel_al (Below.refl _ _) _)).then (bel_al (Below.refl _ _) _) |>.then (bel_drewN (Below.refl _ _) 1)
theorem OL.lower {w : World} {B B' b n c : Nat} {l : List Int} (h : OL w B b n c l) (hb : B' ≤ B) : OL w B' b n c l := by
  refine ⟨h.1, ?_⟩
  rcases h.2 with h' | ⟨g, cap, cur, h1, h2, h3⟩
  · exact .inl h'
  · exact .inr ⟨g, cap, cur, h1, Nat.le_trans hb h2, h3⟩
/-- Behind a put. -/
theorem RG.put {w : World} {g : Nat} {a b f n i : Value} {W W' : World} (h : RG w g a b f n i W) {N I X : Nat} (hs : ∀ b, b ≠ N → b ≠ I → b ≠ X → W'.heap[b]? = W.heap[b]?) (hb : Below w.heap.size W W') (hg : g < w.heap.size) (hN : w.heap.size < N) (hI : w.heap.size < I) (hX : w.heap.size < X) : RG w g a b f n i W' :=
  ⟨(hs _ (by omega) (by omega) (by omega)).trans h.box, (hs _ (by omega) (by omega) (by omega)).trans h.gr, ⟨Nat.le_trans h.asd.1 hb.size, fun k hk hl => (hb.block k hl).trans (h.asd.2 k hk hl)⟩, h.bel.trans (hb.mono (Nat.le_of_lt hg))⟩
end Go.Proofs.YtbbmgcdocolakaaGreatDoor
/-
  (*Graph).rows: where the vertices beside each vertex lie.
-/
namespace Go.Proofs.YtbbmgcdocolakaaGreatDoor
open Go.RowKit
attribute [local go_sem ↓] Go.wp_at_zero Go.wp_at_succ
set_option maxRecDepth 100000
set_option linter.unusedVariables false

theorem wrap_ok {x : Int} (h1 : -9223372036854775808 ≤ x) (h2 : x ≤ 9223372036854775807) : wrap64 x = x := by unfold wrap64; omega
set_option maxHeartbeats 16000000 in
theorem rows_any (F : List (Int × Int)) (A Bd : Option Addr) (n c m d g : Nat) (w : World) (hm : F.length = m) (hn : n ≤ 4096) (hm9 : m ≤ 16384) (hF : ∀ e ∈ F, Pt.EdgeOK n e)
    (hk : Blk w g 74 #[.slice A n c, .slice Bd m d, .slice none 0 0, .slice none 0 0, .slice none 0 0]) (ht : Sl w 2 Bd m (Rk.cells F)) (hBd : ∀ x, Bd = some x → x.block ≠ g) :
    Calls Tryz.prog 62 #[.pointer (some ⟨g, 0, none⟩)] w fun e w' => e = .returned (.tuple #[]) ∧ ∃ C N I : Nat,
      Blk w' g 74 #[.slice A n c, .slice Bd m d, .slice (some ⟨C, 0, none⟩) (n + 1) (n + 1), .slice (some ⟨N, 0, none⟩) (2 * m) (2 * m), .slice (some ⟨I, 0, none⟩) (2 * m) (2 * m)] ∧
      Sl w' 1 (some ⟨C, 0, none⟩) (n + 1) ((Gh.tab (n + 1) (Gh.sumF F)).map (Value.int .i64)) ∧ (∃ xs : List Int, Sl w' 1 (some ⟨N, 0, none⟩) (2 * m) (xs.map (Value.int .i64))) ∧ (∃ xs : List Int, Sl w' 1 (some ⟨I, 0, none⟩) (2 * m) (xs.map (Value.int .i64))) ∧ Asd g w w' ∧ Below g w w' := by
  have hgl := hk.lt
  have HT := Lib.hid ht
  have HBd := Lib.hid hBd
  have HM := Lib.hid hm
  have HF := Lib.hid hF
  obtain ⟨n1, hn1⟩ : ∃ n1, n1 = n + 1 := ⟨_, rfl⟩
  obtain ⟨m2, hm2⟩ : ∃ m2, m2 = 2 * m := ⟨_, rfl⟩
  have HN1 := Lib.hid hn1
  have HM2 := Lib.hid hm2
  rw [← hn1, ← hm2]
  have hN1 : (n : Int) + 1 = (n1 : Int) := by omega
  have hN1' : wrap64 ((n : Int) + 1) = (n1 : Int) := by unfold wrap64; omega
  have hM2 : 2 * (m : Int) = (m2 : Int) := by omega
  have mk1 := fun W => make_elem (P := Tryz.prog) elemInt rfl n1 (by omega) (by omega) W
  have mk2 := fun W => make_elem (P := Tryz.prog) elemInt rfl m2 (by omega) (by omega) W
  obtain ⟨w0, hw0⟩ : ∃ W, W = w.alloc (.cells #[.pointer (some ⟨g, 0, none⟩)] 25) := ⟨_, rfl⟩
  have hz0 : w0.heap.size = w.heap.size + 1 := by rw [hw0]; simp
  have HZ0 := Lib.hid hz0
  have HR0 := Lib.hid (show RG w g (.slice A n c) (.slice Bd m d) (.slice none 0 0) (.slice none 0 0) (.slice none 0 0) w0 from by
    rw [hw0]
    exact ⟨Blk.new _ _ _, hk.alloc _, Asd.of (bel_al (Below.refl _ _) _), (bel_al (Below.refl w.heap.size w) _).mono (Nat.le_of_lt hgl)⟩)
  have hgp : g ≠ w.heap.size := by omega
  have hpg : w.heap.size ≠ g := by omega
  clear hk ht hBd hm hF hn1 hm2
  go_enter Tryz.func62, Tryz.ntmps62
  go_upto_region 1 with (fail)
  rw [← hw0]
  clear hw0
  go_cut [] from 11 to 20 (fun wx => ∃ C : Nat, C = w.heap.size + 1 ∧ Hid (RG w g (.slice A n c) (.slice Bd m d) (.slice (some ⟨C, 0, none⟩) n1 n1) (.slice none 0 0) (.slice none 0 0) wx) ∧ Hid (OL wx w.heap.size C n1 n1 (List.replicate n1 0)))
  case first =>
    have b0 := HR0.out.box.cell 0
    have ga := HR0.out.gr.cell 0
    have gc := HR0.out.gr.cell 2
    have gf := HR0.out.gr.frozen 2
    have R1 := HR0.out.keep (bel_al (Below.refl w0.heap.size w0) (.cells (Array.replicate n1 (.int .i64 0)) 3))
    have OC := own_replicate (B := w.heap.size + 1) (e := 3) w0 n1 (.int .i64 0) (by omega) (by omega)
    have HR1 := Lib.hid R1
    have HOC := Lib.hid OC
    have b1 := R1.box.cell 0
    have gc1 := R1.gr.cell 2
    have gf1 := R1.gr.frozen 2
    simp at b0 ga gc b1 gc1
    clear R1 OC
    go_region
    go_wp2_with fail
    go_meet
    exact ⟨w.heap.size + 1, rfl, Lib.hid ((HR0.out.set2 hpg _).keep (bel_al (Below.refl _ _) _)).drew, Lib.hid ((own_rep_at _ n1 (w.heap.size + 1) (by simpa using HZ0.out) (Nat.le_succ _) (by omega)).same rfl)⟩
  case rest =>
  obtain ⟨C, hC, HRa, HCa⟩ := hcut
  have HNe := Lib.hid (show C ≠ g ∧ g ≠ C ∧ C ≠ w.heap.size ∧ w.heap.size ≠ C ∧ g ≠ w.heap.size ∧ w.heap.size ≠ g from by omega)
  have HCz := Lib.hid hC
  clear hC hgp hpg hN1'
  have b0 := HRa.out.box.cell 0
  have gb := HRa.out.gr.cell 1
  simp at b0 gb
  go_wp2_with fail
  go_loopw [26] (fun kv wr => ∃ k : Nat, k ≤ m ∧ kv = .int .i64 (k : Int) ∧ Hid (RG w g (.slice A n c) (.slice Bd m d) (.slice (some ⟨C, 0, none⟩) n1 n1) (.slice none 0 0) (.slice none 0 0) wr) ∧ Hid (OL wr w.heap.size C n1 n1 (Gh.tab n1 (Gh.cntF (F.take k))))) (fun kv _ => m - (intOf kv).toNat)
  case atStart => exact ⟨0, Nat.zero_le _, rfl, HRa, by rw [List.take_zero, HN1.out, Gh.cnt_nil, ← HN1.out]; exact HCa⟩
  case round =>
    obtain ⟨k, hk, rfl, HRk, HCk⟩ := hrel
    clear HRa HCa b0 gb
    by_cases hlt : k < m
    · have hlt' : (k : Int) < (m : Int) := by omega
      obtain ⟨⟨x, y⟩, he⟩ : ∃ e, F[k]? = some e := ⟨_, List.getElem?_eq_getElem (by rw [HM.out]; exact hlt)⟩
      have ho := HF.out _ (List.mem_of_getElem? he)
      obtain ⟨b1, o1, hBB, e0, e1⟩ := (HT.out.asd HRk.out.asd HBd.out).edge hlt he
      subst hBB
      simp only at e0 e1
      have HTk := Lib.hid (show F.take (k + 1) = F.take k ++ [(x, y)] from by
        obtain ⟨h1, h2⟩ := List.getElem?_eq_some_iff.1 he
        rw [List.take_succ_eq_append_getElem h1, h2])
      obtain ⟨p0, p1, p2⟩ := ho
      simp only at p0 p1 p2
      obtain ⟨a, rfl⟩ := Int.eq_ofNat_of_zero_le p0
      obtain ⟨b, rfl⟩ := Int.eq_ofNat_of_zero_le (show 0 ≤ y by omega)
      clear he
      have han : a + 1 < n1 := by have := HN1.out; omega
      have hbn : b + 1 < n1 := by have := HN1.out; omega
      have han' : (a : Int) + 1 < (n1 : Int) := by omega
      have hbn' : (b : Int) + 1 < (n1 : Int) := by omega
      have HWa := Lib.hid (And.intro (wrap_ok (x := (a : Int) + 1) (by omega) (by omega)) (wrap_ok (x := (b : Int) + 1) (by omega) (by omega)))
      have HAb := Lib.hid (show ¬ a = b ∧ ¬ b = a from by omega)
      have hna : ¬ (a : Int) + 1 < 0 := by omega
      have hnb : ¬ (b : Int) + 1 < 0 := by omega
      have hta : ((a : Int) + 1).toNat = a + 1 := by omega
      have htb : ((b : Int) + 1).toNat = b + 1 := by omega
      have HSt := Lib.hid (show ((Gh.tab n1 (Gh.cntF (F.take k))).set (a + 1) (Gh.cntF (F.take k) (a + 1) + 1)).set (b + 1) (Gh.cntF (F.take k) (b + 1) + 1) = Gh.tab n1 (Gh.cntF (F.take k ++ [(((a : Nat) : Int), ((b : Nat) : Int))])) from by rw [HN1.out]; exact Gh.cnt_step (F.take k) n a b (by omega))
      have ca := HCk.out.cell (Gh.tab_get (N := n1) (Gh.cntF (F.take k)) han)
      have cb := HCk.out.cell (Gh.tab_get (N := n1) (Gh.cntF (F.take k)) hbn)
      have cnt9 : ∀ i, 0 ≤ Gh.cntF (F.take k) i ∧ Gh.cntF (F.take k) i ≤ 16384 := fun i => by
        unfold Gh.cntF
        split
        · omega
        · have h1 : Pt.deg (F.take k) ((i - 1 : Nat) : Int) ≤ (F.take k).length := List.length_filter_le _ _
          rw [List.length_take, HM.out] at h1
          omega
      have xa9 := cnt9 (a + 1)
      have xb9 := cnt9 (b + 1)
      obtain ⟨xa, hxa⟩ : ∃ x, x = Gh.cntF (F.take k) (a + 1) := ⟨_, rfl⟩
      obtain ⟨xb, hxb⟩ : ∃ x, x = Gh.cntF (F.take k) (b + 1) := ⟨_, rfl⟩
      rw [← hxa] at ca xa9 HSt
      rw [← hxb] at cb xb9 HSt
      clear hxa hxb cnt9
      have HWx := Lib.hid (And.intro (wrap_ok (x := xa + 1) (by omega) (by omega)) (wrap_ok (x := xb + 1) (by omega) (by omega)))
      go_upto_region 5 with (fail)
      obtain ⟨we, hwe⟩ : ∃ W, W = wr.alloc (.cells #[.int .i64 (a : Int), .int .i64 (b : Int)] 76) := ⟨_, rfl⟩
      obtain ⟨q, hq⟩ : ∃ q, q = wr.heap.size := ⟨_, rfl⟩
      have HBe := Lib.hid (show Below wr.heap.size wr we from by rw [hwe]; exact bel_al (Below.refl _ _) _)
      have HKe := Lib.hid (show Blk we q 76 #[.int .i64 (a : Int), .int .i64 (b : Int)] from by rw [hwe, hq]; exact Blk.new _ _ _)
      have HRe := Lib.hid (HRk.out.keep HBe.out)
      have HCe := Lib.hid (HCk.out.keep HBe.out)
      have HQc := Lib.hid (show q ≠ C ∧ C ≠ q from by have := HCk.out.lt.2; omega)
      rw [← hwe, ← hq]
      have ca := (ca : wr.cell? ⟨C, a + 1, none⟩ = some (.int .i64 xa))
      have ca' : we.cell? ⟨C, a + 1, none⟩ = some (.int .i64 xa) := (HBe.out.cell (World.block_lt_of_cell? _ _ ca)).trans ca
      have cb' : we.cell? ⟨C, b + 1, none⟩ = some (.int .i64 xb) := (HBe.out.cell (World.block_lt_of_cell? _ _ cb)).trans cb
      clear hwe hq ca cb e0 e1 HBe
      have b0 := HRe.out.box.cell 0
      have gc := HRe.out.gr.cell 2
      have q0 := HKe.out.cell 0
      have q1 := HKe.out.cell 1
      have fa := HCe.out.frozen (a + 1)
      have fb := HCe.out.frozen (b + 1)
      simp at b0 gc q0 q1
      obtain ⟨n1_, n2_, n3_, n4_, n5_, n6_⟩ := HNe.out
      obtain ⟨n7_, n8_⟩ := HQc.out
      obtain ⟨n9_, n10_⟩ := HAb.out
      clear mk1 mk2
      go_region
      go_wp2_with fail
      go_region
      go_wp2_with fail
      go_roundw
      case rel => exact ⟨k + 1, by omega, by go_num, Lib.hid ((HRe.out.high (by have := HCz.out; omega) hgl _ _).high (by have := HCz.out; omega) hgl _ _).drew.drew, Lib.hid (by
        rw [HTk.out, ← HSt.out]
        exact ((HCe.out.set (a + 1) (xa + 1)).set (b + 1) (xb + 1)).same rfl)⟩
      case measure => simp [intOf]; omega
    obtain rfl : k = m := by omega
    rw [List.take_of_length_le (Nat.le_of_eq HM.out), HN1.out, Gh.ps_zero, ← HN1.out] at HCk
    have b0 := HRk.out.box.cell 0
    have ga := HRk.out.gr.cell 0
    simp at b0 ga
    go_wp2_with fail
    go_loopw [58] (fun vv wr => ∃ v : Nat, v ≤ n ∧ vv = .int .i64 (v : Int) ∧ Hid (RG w g (.slice A n c) (.slice Bd k d) (.slice (some ⟨C, 0, none⟩) n1 n1) (.slice none 0 0) (.slice none 0 0) wr) ∧ Hid (OL wr w.heap.size C n1 n1 (Gh.tab n1 (Gh.psF F v)))) (fun vv _ => n - (intOf vv).toNat)
    case atStart => exact ⟨0, Nat.zero_le _, rfl, HRk, HCk⟩
    case round =>
      obtain ⟨v, hv, rfl, HRv, HCv⟩ := hrel
      clear HRk HCk b0 ga
      have hdg : ∀ i, i ≤ n → Pt.degs F i ≤ 2 * k := fun i hi => by
        have h1 := Gh.degs_mono F hi
        rw [Pt.degs_all F HF.out, HM.out] at h1
        exact h1
      have HDg := Lib.hid hdg
      clear hdg
      by_cases hvt : v < n
      · have hvt' : (v : Int) < (n : Int) := by omega
        have hv1 : v + 1 < n1 := by have := HN1.out; omega
        have hv0 : v < n1 := by omega
        have hv1' : (v : Int) + 1 < (n1 : Int) := by omega
        have hv0' : (v : Int) < (n1 : Int) := by omega
        have hvn : ¬ (v : Int) + 1 < 0 := by omega
        have hvt2 : ((v : Int) + 1).toNat = v + 1 := by omega
        have HSt := Lib.hid (show (Gh.tab n1 (Gh.psF F v)).set (v + 1) (Gh.psF F v (v + 1) + Gh.psF F v v) = Gh.tab n1 (Gh.psF F (v + 1)) from by rw [HN1.out]; exact Gh.ps_step F n v)
        have c1 := HCv.out.cell (Gh.tab_get (N := n1) (Gh.psF F v) hv1)
        have c0 := HCv.out.cell (Gh.tab_get (N := n1) (Gh.psF F v) hv0)
        have x9 : 0 ≤ Gh.psF F v (v + 1) ∧ Gh.psF F v (v + 1) ≤ 32768 := by
          unfold Gh.psF
          rw [if_neg (by omega)]
          have h1 : Pt.deg F ((v + 1 - 1 : Nat) : Int) ≤ F.length := List.length_filter_le _ _
          rw [HM.out] at h1
          omega
        have y9 : 0 ≤ Gh.psF F v v ∧ Gh.psF F v v ≤ 32768 := by
          unfold Gh.psF
          rw [if_pos (Nat.le_refl _)]
          have := HDg.out v hv
          omega
        obtain ⟨xv, hxv⟩ : ∃ x, x = Gh.psF F v (v + 1) := ⟨_, rfl⟩
        obtain ⟨yv, hyv⟩ : ∃ x, x = Gh.psF F v v := ⟨_, rfl⟩
        rw [← hxv, ← hyv] at HSt
        rw [← hxv] at c1 x9
        rw [← hyv] at c0 y9
        clear hxv hyv
        have b0 := HRv.out.box.cell 0
        have gc := HRv.out.gr.cell 2
        have f1 := HCv.out.frozen (v + 1)
        simp at b0 gc
        obtain ⟨n1_, n2_, n3_, n4_, n5_, n6_⟩ := HNe.out
        clear mk1 mk2
        go_wp2_with fail
        go_region
        go_wp2_with fail
        go_roundw
        case rel => exact ⟨v + 1, by omega, by go_num, Lib.hid (HRv.out.high (by have := HCz.out; omega) hgl _ _).drew, Lib.hid (by
          rw [← HSt.out]
          exact (HCv.out.set (v + 1) (xv + yv)).same rfl)⟩
        case measure => simp [intOf]; omega
      obtain rfl : v = n := by omega
      rw [HN1.out, Gh.ps_all, ← HN1.out] at HCv
      have b0 := HRv.out.box.cell 0
      have gc := HRv.out.gr.cell 2
      simp at b0 gc
      have HCl := Lib.hid (CloneI_own (Gh.tab n1 (Gh.sumF F)) (some ⟨C, 0, none⟩) n1 n1 wr (Gh.tab_len _ _) (by omega) HCv.out.sl)
      go_upto_region 14 with (go_at_call 57; refine HCl.out.mono ?_; clear HCl; rintro e w6 ⟨v6, rfl, hown6, hb6⟩; obtain ⟨X, cx, rfl, hX0⟩ := own_form hown6 (by omega); have HX6 := Lib.hid (show OL w6 wr.heap.size X n1 cx (Gh.tab n1 (Gh.sumF F)) from hown6); have HX0 := Lib.hid hX0; have HB6 := Lib.hid hb6; clear hown6 hX0 hb6 b0 gc)
      obtain ⟨wb, hwb⟩ : ∃ W, W = w6.alloc (.cells #[.slice (some ⟨X, 0, none⟩) n1 cx] 22) := ⟨_, rfl⟩
      obtain ⟨p5, hp5⟩ : ∃ q, q = w6.heap.size := ⟨_, rfl⟩
      have HBb := Lib.hid (show Below wr.heap.size wr wb from by rw [hwb]; exact bel_al HB6.out _)
      have HK5 := Lib.hid (show Blk wb p5 22 #[.slice (some ⟨X, 0, none⟩) n1 cx] from by rw [hwb, hp5]; exact Blk.new _ _ _)
      have HRb := Lib.hid (HRv.out.keep HBb.out)
      have HCb := Lib.hid (HCv.out.keep HBb.out)
      have hCl := HCv.out.lt.2
      have HXb := Lib.hid (show OL wb w.heap.size X n1 cx (Gh.tab n1 (Gh.sumF F)) from by rw [hwb]; exact (HX6.out.keep (bel_al (Below.refl _ _) _)).lower (by have := HCz.out; omega))
      have hXl := HX6.out.lt.2
      have HOr := Lib.hid (show C < X ∧ X < p5 ∧ p5 < wb.heap.size from ⟨by have := HX0.out; omega, by omega, by rw [hwb, hp5]; simp⟩)
      rw [← hwb, ← hp5]
      clear hwb hp5 HRv HCv HX6 HB6 HBb hCl hXl HX0
      go_cut [] from 84 to 103 (fun wx => ∃ N I : Nat, wb.heap.size ≤ N ∧ wb.heap.size ≤ I ∧ N ≠ I ∧ Hid (RG w g (.slice A v c) (.slice Bd k d) (.slice (some ⟨C, 0, none⟩) n1 n1) (.slice (some ⟨N, 0, none⟩) m2 m2) (.slice (some ⟨I, 0, none⟩) m2 m2) wx) ∧ Hid (OL wx w.heap.size N m2 m2 (List.replicate m2 0)) ∧ Hid (OL wx w.heap.size I m2 m2 (List.replicate m2 0)) ∧ Hid (Asd g wb wx))
      case first =>
        have b0 := HRb.out.box.cell 0
        have gb := HRb.out.gr.cell 1
        have g3 := HRb.out.gr.cell 3
        have g4 := HRb.out.gr.cell 4
        have f3 := HRb.out.gr.frozen 3
        have f4 := HRb.out.gr.frozen 4
        have hgb := HRb.out.gr.lt
        have hpb := HRb.out.box.lt
        simp at b0 gb g3 g4
        have hgz : g ≠ wb.heap.size := by omega
        have hgz1 : g ≠ wb.heap.size + 1 := by omega
        have hzg : wb.heap.size ≠ g := by omega
        have hzg1 : wb.heap.size + 1 ≠ g := by omega
        obtain ⟨n1_, n2_, n3_, n4_, n5_, n6_⟩ := HNe.out
        go_region
        all_goals (
          go_wp2_with fail
          go_meet
          obtain ⟨t1, t2, t3, t4⟩ := two_made HRb.out HNe.out.2.2.2.2.2 (by omega) m2 (by omega) (.slice (some ⟨wb.heap.size, 0, none⟩) m2 m2) (.slice (some ⟨wb.heap.size + 1, 0, none⟩) m2 m2)
          obtain ⟨u1, u2, u3, u4⟩ := two_made HRb.out HNe.out.2.2.2.2.2 (by omega) m2 (by omega) (.slice (some ⟨wb.heap.size + 1, 0, none⟩) m2 m2) (.slice (some ⟨wb.heap.size, 0, none⟩) m2 m2)
          first
            | exact ⟨wb.heap.size, wb.heap.size + 1, Nat.le_refl _, Nat.le_succ _, by omega, Lib.hid t1, Lib.hid t2, Lib.hid t3, Lib.hid t4⟩
            | exact ⟨wb.heap.size + 1, wb.heap.size, Nat.le_succ _, Nat.le_refl _, by omega, Lib.hid u1, Lib.hid u3, Lib.hid u2, Lib.hid u4⟩)
      case rest =>
      obtain ⟨N, I, hNw, hIw, hNI, HRc, HNc, HIc, HAc⟩ := hcut
      have hgb := HRb.out.gr.lt
      have hpb := HRb.out.box.lt
      have HXc := Lib.hid (HXb.out.same (HAc.out.2 X (by have := HOr.out; have := HCz.out; omega) (by have := HOr.out; omega)))
      have HCc := Lib.hid (HCb.out.same (HAc.out.2 C (by have := HCz.out; omega) (by have := HOr.out; omega)))
      have HPc := Lib.hid (HAc.out.blk HK5.out (by have := HOr.out; have := HCz.out; omega))
      have HDi := Lib.hid (show N ≠ I ∧ N ≠ X ∧ I ≠ X ∧ w.heap.size ≠ N ∧ w.heap.size ≠ I ∧ p5 ≠ N ∧ p5 ≠ I ∧ g ≠ N ∧ g ≠ I ∧ w.heap.size < N ∧ w.heap.size < I ∧ w.heap.size < X ∧ C ≠ N ∧ C ≠ I ∧ C ≠ X ∧ p5 ≠ X from by
        have h1 := HOr.out
        have h2 := HCz.out
        refine ⟨hNI, ?_, ?_, ?_, ?_, ?_, ?_, ?_, ?_, ?_, ?_, ?_, ?_, ?_, ?_, ?_⟩ <;> omega)
      have HXs := Lib.hid (show OL wc w.heap.size X n1 cx (Gh.tab n1 (Gh.nx1 F 0)) from by have h := HXc.out; rw [HN1.out, Gh.nx1_zero, ← HN1.out] at h; exact h)
      clear HXc HAc HRb HCb HXb HK5 hNI mk1 mk2
      have b0 := HRc.out.box.cell 0
      have gb := HRc.out.gr.cell 1
      simp at b0 gb
      go_wp2_with fail
      go_loopw [110] (fun jv wr => ∃ (j : Nat) (ns is : List Int), j ≤ k ∧ jv = .int .i64 (j : Int) ∧ Hid (RG w g (.slice A v c) (.slice Bd k d) (.slice (some ⟨C, 0, none⟩) n1 n1) (.slice (some ⟨N, 0, none⟩) m2 m2) (.slice (some ⟨I, 0, none⟩) m2 m2) wr) ∧ Hid (OL wr w.heap.size N m2 m2 ns) ∧ Hid (OL wr w.heap.size I m2 m2 is) ∧ Hid (OL wr w.heap.size X n1 cx (Gh.tab n1 (Gh.nx1 F j))) ∧ Hid (OL wr w.heap.size C n1 n1 (Gh.tab n1 (Gh.sumF F))) ∧ Hid (Blk wr p5 22 #[.slice (some ⟨X, 0, none⟩) n1 cx])) (fun jv _ => k - (intOf jv).toNat)
      case atStart => exact ⟨0, _, _, Nat.zero_le _, rfl, HRc, HNc, HIc, HXs, HCc, HPc⟩
      case round =>
        obtain ⟨j, ns, is, hj, rfl, HRj, HNj, HIj, HXj, HCj, HPj⟩ := hrel
        clear HRc HNc HIc HXs HCc HPc
        by_cases hjt : j < k
        · have hjt' : (j : Int) < (k : Int) := by omega
          obtain ⟨⟨x, y⟩, he⟩ : ∃ e, F[j]? = some e := ⟨_, List.getElem?_eq_getElem (by rw [HM.out]; exact hjt)⟩
          have ho := HF.out _ (List.mem_of_getElem? he)
          obtain ⟨b1, o1, hBB, e0, e1⟩ := (HT.out.asd HRj.out.asd HBd.out).edge hjt he
          subst hBB
          simp only at e0 e1
          obtain ⟨p0, p1, p2⟩ := ho
          simp only at p0 p1 p2
          obtain ⟨a, rfl⟩ := Int.eq_ofNat_of_zero_le p0
          obtain ⟨b, rfl⟩ := Int.eq_ofNat_of_zero_le (show 0 ≤ y by omega)
          have HSt := Lib.hid (show (Gh.tab n1 (Gh.nx1 F j)).set b (Gh.nx1 F j b + 1) = Gh.tab n1 (Gh.nx1 F (j + 1)) from by rw [HN1.out]; exact Gh.nx1_step he)
          have hroom := Gh.nx1_room HF.out he
          rw [HM.out, ← HM2.out] at hroom
          obtain ⟨z, hz⟩ : ∃ z, z = Pt.degs F b + Gh.endsN (F.take j) ((b : Nat) : Int) := ⟨_, rfl⟩
          have HZ := Lib.hid (show Gh.nx1 F j b = ((z : Nat) : Int) from by rw [hz]; rfl)
          rw [← hz] at hroom
          clear hz he
          have hvn : b < n1 := by have := HN1.out; omega
          have HGx := Lib.hid (show (Gh.tab n1 (Gh.nx1 F j))[b]? = some ((z : Nat) : Int) from by rw [Gh.tab_get _ hvn, HZ.out])
          rw [HZ.out] at HSt
          go_upto_region 19 with (fail)
          obtain ⟨we, hwe⟩ : ∃ W, W = wr.alloc (.cells #[.int .i64 (a : Int), .int .i64 (b : Int)] 76) := ⟨_, rfl⟩
          obtain ⟨q, hq⟩ : ∃ q, q = wr.heap.size := ⟨_, rfl⟩
          have HBe := Lib.hid (show Below wr.heap.size wr we from by rw [hwe]; exact bel_al (Below.refl _ _) _)
          have HKe := Lib.hid (show Blk we q 76 #[.int .i64 (a : Int), .int .i64 (b : Int)] from by rw [hwe, hq]; exact Blk.new _ _ _)
          have HRe := Lib.hid (HRj.out.keep HBe.out)
          have HNe_ := Lib.hid (HNj.out.keep HBe.out)
          have HIe := Lib.hid (HIj.out.keep HBe.out)
          have HXe := Lib.hid (HXj.out.keep HBe.out)
          have HCe := Lib.hid (HCj.out.keep HBe.out)
          have HPe := Lib.hid (HPj.out.keep HBe.out)
          rw [← hwe, ← hq]
          clear hwe hq HRj HNj HIj HXj HCj HPj e0 e1
          have q0 := HKe.out.cell 0
          have q1 := HKe.out.cell 1
          simp at q0 q1
          have HPu := Lib.hid (put_any g w.heap.size p5 N I X m2 n1 cx w.heap.size b a j z (.slice A v c) (.slice (some ⟨b1, o1, none⟩) k d) (.slice (some ⟨C, 0, none⟩) n1 n1) ns is (Gh.tab n1 (Gh.nx1 F j)) we (HRe.out.box.cell 0) (HPe.out.cell 0) HRe.out.gr HNe_.out HIe.out HXe.out hvn HGx.out hroom (by omega) HDi.out.1 HDi.out.2.1 HDi.out.2.2.1 HDi.out.2.2.2.1 HDi.out.2.2.2.2.1 HDi.out.2.2.2.2.2.1 HDi.out.2.2.2.2.2.2.1 HDi.out.2.2.2.2.2.2.2.1 HDi.out.2.2.2.2.2.2.2.2.1)
          go_wp2_with (go_at_call 86; refine HPu.out.mono ?_; clear HPu; rintro e w7 ⟨rfl, hn7, hi7, hx7, hs7, hb7⟩; have HN7 := Lib.hid hn7; have HI7 := Lib.hid hi7; have HX7 := Lib.hid hx7; have HS7 := Lib.hid hs7; have HB7 := Lib.hid hb7; clear hn7 hi7 hx7 hs7 hb7)
          go_roundw
          case rel => exact ⟨j + 1, _, _, by omega, by go_num, Lib.hid (HRe.out.put HS7.out HB7.out hgl HDi.out.2.2.2.2.2.2.2.2.2.1 HDi.out.2.2.2.2.2.2.2.2.2.2.1 HDi.out.2.2.2.2.2.2.2.2.2.2.2.1), HN7, HI7, by rw [← HSt.out]; exact HX7, Lib.hid (HCe.out.same (HS7.out C HDi.out.2.2.2.2.2.2.2.2.2.2.2.2.1 HDi.out.2.2.2.2.2.2.2.2.2.2.2.2.2.1 HDi.out.2.2.2.2.2.2.2.2.2.2.2.2.2.2.1)), Lib.hid ((HS7.out p5 HDi.out.2.2.2.2.2.1 HDi.out.2.2.2.2.2.2.1 HDi.out.2.2.2.2.2.2.2.2.2.2.2.2.2.2.2).trans HPe.out)⟩
          case measure => simp [intOf]; omega
        obtain rfl : k = j := by omega
        rw [HN1.out, Gh.nx1_all k (Nat.le_of_eq HM.out), ← HN1.out] at HXj
        have b0 := HRj.out.box.cell 0
        have gb := HRj.out.gr.cell 1
        simp at b0 gb
        have HRl := HRj
        have HNl := HNj
        have HIl := HIj
        have HXl := HXj
        have HCl := HCj
        have HPl := HPj
        clear HRj HNj HIj HXj HCj HPj
        obtain ⟨nsl, hnsl⟩ : ∃ l, l = ns := ⟨_, rfl⟩
        obtain ⟨isl, hisl⟩ : ∃ l, l = is := ⟨_, rfl⟩
        rw [← hnsl] at HNl
        rw [← hisl] at HIl
        go_wp2_with fail
        go_loopw [128] (fun jv wr => ∃ (j : Nat) (ns is : List Int), j ≤ k ∧ jv = .int .i64 (j : Int) ∧ Hid (RG w g (.slice A v c) (.slice Bd k d) (.slice (some ⟨C, 0, none⟩) n1 n1) (.slice (some ⟨N, 0, none⟩) m2 m2) (.slice (some ⟨I, 0, none⟩) m2 m2) wr) ∧ Hid (OL wr w.heap.size N m2 m2 ns) ∧ Hid (OL wr w.heap.size I m2 m2 is) ∧ Hid (OL wr w.heap.size X n1 cx (Gh.tab n1 (Gh.nx2 F j))) ∧ Hid (OL wr w.heap.size C n1 n1 (Gh.tab n1 (Gh.sumF F))) ∧ Hid (Blk wr p5 22 #[.slice (some ⟨X, 0, none⟩) n1 cx])) (fun jv _ => k - (intOf jv).toNat)
        case atStart => exact ⟨0, nsl, isl, Nat.zero_le _, rfl, HRl, HNl, HIl, HXl, HCl, HPl⟩
        case round =>
          obtain ⟨j, ns, is, hj, rfl, HRj, HNj, HIj, HXj, HCj, HPj⟩ := hrel
          clear HRl HNl HIl HXl HCl HPl
          by_cases hjt : j < k
          · have hjt' : (j : Int) < (k : Int) := by omega
            obtain ⟨⟨x, y⟩, he⟩ : ∃ e, F[j]? = some e := ⟨_, List.getElem?_eq_getElem (by rw [HM.out]; exact hjt)⟩
            have ho := HF.out _ (List.mem_of_getElem? he)
            obtain ⟨b1, o1, hBB, e0, e1⟩ := (HT.out.asd HRj.out.asd HBd.out).edge hjt he
            subst hBB
            simp only at e0 e1
            obtain ⟨p0, p1, p2⟩ := ho
            simp only at p0 p1 p2
            obtain ⟨a, rfl⟩ := Int.eq_ofNat_of_zero_le p0
            obtain ⟨b, rfl⟩ := Int.eq_ofNat_of_zero_le (show 0 ≤ y by omega)
            have HSt := Lib.hid (show (Gh.tab n1 (Gh.nx2 F j)).set a (Gh.nx2 F j a + 1) = Gh.tab n1 (Gh.nx2 F (j + 1)) from by rw [HN1.out]; exact Gh.nx2_step he)
            have hroom := Gh.nx2_room HF.out he
            rw [HM.out, ← HM2.out] at hroom
            obtain ⟨z, hz⟩ : ∃ z, z = Pt.degs F a + Gh.endsN F ((a : Nat) : Int) + Gh.begsN (F.take j) ((a : Nat) : Int) := ⟨_, rfl⟩
            have HZ := Lib.hid (show Gh.nx2 F j a = ((z : Nat) : Int) from by rw [hz]; rfl)
            rw [← hz] at hroom
            clear hz he
            have hvn : a < n1 := by have := HN1.out; omega
            have HGx := Lib.hid (show (Gh.tab n1 (Gh.nx2 F j))[a]? = some ((z : Nat) : Int) from by rw [Gh.tab_get _ hvn, HZ.out])
            rw [HZ.out] at HSt
            go_upto_region 24 with (fail)
            obtain ⟨we, hwe⟩ : ∃ W, W = wr.alloc (.cells #[.int .i64 (a : Int), .int .i64 (b : Int)] 76) := ⟨_, rfl⟩
            obtain ⟨q, hq⟩ : ∃ q, q = wr.heap.size := ⟨_, rfl⟩
            have HBe := Lib.hid (show Below wr.heap.size wr we from by rw [hwe]; exact bel_al (Below.refl _ _) _)
            have HKe := Lib.hid (show Blk we q 76 #[.int .i64 (a : Int), .int .i64 (b : Int)] from by rw [hwe, hq]; exact Blk.new _ _ _)
            have HRe := Lib.hid (HRj.out.keep HBe.out)
            have HNe_ := Lib.hid (HNj.out.keep HBe.out)
            have HIe := Lib.hid (HIj.out.keep HBe.out)
            have HXe := Lib.hid (HXj.out.keep HBe.out)
            have HCe := Lib.hid (HCj.out.keep HBe.out)
            have HPe := Lib.hid (HPj.out.keep HBe.out)
            rw [← hwe, ← hq]
            clear hwe hq HRj HNj HIj HXj HCj HPj e0 e1
            have q0 := HKe.out.cell 0
            have q1 := HKe.out.cell 1
            simp at q0 q1
            have HPu := Lib.hid (put_any g w.heap.size p5 N I X m2 n1 cx w.heap.size a b j z (.slice A v c) (.slice (some ⟨b1, o1, none⟩) k d) (.slice (some ⟨C, 0, none⟩) n1 n1) ns is (Gh.tab n1 (Gh.nx2 F j)) we (HRe.out.box.cell 0) (HPe.out.cell 0) HRe.out.gr HNe_.out HIe.out HXe.out hvn HGx.out hroom (by omega) HDi.out.1 HDi.out.2.1 HDi.out.2.2.1 HDi.out.2.2.2.1 HDi.out.2.2.2.2.1 HDi.out.2.2.2.2.2.1 HDi.out.2.2.2.2.2.2.1 HDi.out.2.2.2.2.2.2.2.1 HDi.out.2.2.2.2.2.2.2.2.1)
            go_wp2_with (go_at_call 86; refine HPu.out.mono ?_; clear HPu; rintro e w7 ⟨rfl, hn7, hi7, hx7, hs7, hb7⟩; have HN7 := Lib.hid hn7; have HI7 := Lib.hid hi7; have HX7 := Lib.hid hx7; have HS7 := Lib.hid hs7; have HB7 := Lib.hid hb7; clear hn7 hi7 hx7 hs7 hb7)
            go_roundw
            case rel => exact ⟨j + 1, _, _, by omega, by go_num, Lib.hid (HRe.out.put HS7.out HB7.out hgl HDi.out.2.2.2.2.2.2.2.2.2.1 HDi.out.2.2.2.2.2.2.2.2.2.2.1 HDi.out.2.2.2.2.2.2.2.2.2.2.2.1), HN7, HI7, by rw [← HSt.out]; exact HX7, Lib.hid (HCe.out.same (HS7.out C HDi.out.2.2.2.2.2.2.2.2.2.2.2.2.1 HDi.out.2.2.2.2.2.2.2.2.2.2.2.2.2.1 HDi.out.2.2.2.2.2.2.2.2.2.2.2.2.2.2.1)), Lib.hid ((HS7.out p5 HDi.out.2.2.2.2.2.1 HDi.out.2.2.2.2.2.2.1 HDi.out.2.2.2.2.2.2.2.2.2.2.2.2.2.2.2).trans HPe.out)⟩
            case measure => simp [intOf]; omega
          obtain rfl : k = j := by omega
          go_wp2_with fail
          go_end0
          refine ⟨rfl, C, N, I, ?_, HCj.out.sl, ⟨ns, HNj.out.sl⟩, ⟨is, HIj.out.sl⟩, HRj.out.asd, HRj.out.bel⟩
          exact HRj.out.gr
end Go.Proofs.YtbbmgcdocolakaaGreatDoor
/-
  Graphs, plainly: which lists make the same one.
-/
namespace Go.Proofs.YtbbmgcdocolakaaGreatDoor
open Go.RowKit
set_option linter.unusedVariables false
namespace Gh
theorem turnE_ok {n : Nat} {e : Int × Int} (h : Pt.EdgeOK n e) : turnE e = e := by
  unfold turnE
  rw [if_pos (by have := h.2.1; omega)]
theorem goE_all {n : Nat} : ∀ (E acc : List (Int × Int)), Has n (acc ++ E.map turnE) → goE n acc E = .ok (acc ++ E.map turnE)
  | [], acc, _ => by simp [goE]
  | e :: E, acc, h => by
    have h' : Has n ((acc ++ [turnE e]) ++ E.map turnE) := by
      rw [List.append_assoc]
      exact h
    have hb : badE n acc e = 0 := bad_of (h.ok _ (by simp)) fun hm => by
      have := (List.nodup_append.1 h.nd).2.2 (turnE e) hm (turnE e) (by simp)
      exact this rfl
    rw [goE_step hb, goE_all E (acc ++ [turnE e]) h']
    simp
def labsOK (L : List Int) : Prop := ∀ x ∈ L, 0 ≤ x ∧ x ≤ 255
theorem labs_none {L : List Int} (h : labsOK L) : L.findIdx? labBad = none := by
  rw [List.findIdx?_eq_none_iff]
  intro x hx
  have := h x hx
  unfold labBad
  simp
  omega
theorem new_of {L : List Int} {E : List (Int × Int)} (h1 : L.length ≤ 4096) (h2 : E.length ≤ 16384) (h3 : labsOK L) (h4 : Has L.length (E.map turnE)) : newR L E = .ok (E.map turnE) := by
  unfold newR
  rw [if_neg (by omega), labs_none h3]
  have := goE_all E [] (by simpa using h4)
  simpa using this
theorem map_turn {n : Nat} {F : List (Int × Int)} (h : ∀ e ∈ F, Pt.EdgeOK n e) : F.map turnE = F := by
  conv => rhs; rw [← List.map_id F]
  exact List.map_congr_left fun e he => turnE_ok (h e he)
theorem Has.perm {n : Nat} {F G : List (Int × Int)} (h : Has n F) (hp : G.Perm F) : Has n G := ⟨fun e he => h.ok e (hp.subset he), hp.nodup_iff.2 h.nd⟩
/-- The graph's own edges make it. -/
theorem new_same {L : List Int} {F : List (Int × Int)} (h1 : L.length ≤ 4096) (h2 : F.length ≤ 16384) (h3 : labsOK L) (h4 : Has L.length F) : newR L F = .ok F := by
  have hm := map_turn h4.ok
  rw [new_of h1 h2 h3 (by rw [hm]; exact h4), hm]
theorem sort_same {n : Nat} {F : List (Int × Int)} (h : Has n F) (hr : Pt.Rise F) : sortG F = F := (sort_is h.nd (.refl _) hr).symm
/-- The other way round, from the last one on. -/
def backE (F : List (Int × Int)) : List (Int × Int) := F.reverse.map fun e => (e.2, e.1)
theorem turn_flip {n : Nat} {e : Int × Int} (h : Pt.EdgeOK n e) : turnE (e.2, e.1) = e := by
  unfold turnE
  rw [if_neg (by have := h.2.1; simp only; omega)]
theorem back_turn {n : Nat} {F : List (Int × Int)} (h : ∀ e ∈ F, Pt.EdgeOK n e) : (backE F).map turnE = F.reverse := by
  unfold backE
  rw [List.map_map]
  conv => rhs; rw [← List.map_id F.reverse]
  exact List.map_congr_left fun e he => turn_flip (h e (List.mem_reverse.1 he))
theorem new_back {L : List Int} {F : List (Int × Int)} (h1 : L.length ≤ 4096) (h2 : F.length ≤ 16384) (h3 : labsOK L) (h4 : Has L.length F) : newR L (backE F) = .ok F.reverse := by
  have hm := back_turn h4.ok
  rw [new_of h1 (by unfold backE; simpa using h2) h3 (by rw [hm]; exact h4.perm (List.reverse_perm F)), hm]
theorem back_sort {n : Nat} {F : List (Int × Int)} (h : Has n F) (hr : Pt.Rise F) : sortG F.reverse = F := (sort_is ((List.reverse_perm F).nodup_iff.2 h.nd) (List.reverse_perm F).symm hr).symm
theorem Has.more {n m : Nat} {F : List (Int × Int)} (h : Has n F) (hm : n ≤ m) : Has m F := ⟨fun e he => by
  have := h.ok e he
  exact ⟨this.1, this.2.1, by have := this.2.2; omega⟩, h.nd⟩
theorem goE_app {n : Nat} {r : List (Int × Int)} : ∀ (E acc : List (Int × Int)), Has n (acc ++ E.map turnE) → goE n acc (E ++ r) = goE n (acc ++ E.map turnE) r
  | [], acc, _ => by simp
  | e :: E, acc, h => by
    have h' : Has n ((acc ++ [turnE e]) ++ E.map turnE) := by
      rw [List.append_assoc]
      exact h
    have hb : badE n acc e = 0 := bad_of (h.ok _ (by simp)) fun hm => by
      have := (List.nodup_append.1 h.nd).2.2 (turnE e) hm (turnE e) (by simp)
      exact this rfl
    rw [List.cons_append, goE_step hb, goE_app E (acc ++ [turnE e]) h']
    simp
/-- One that is there already, behind all. -/
theorem new_twice {L : List Int} {F : List (Int × Int)} {d : Int × Int} (h1 : L.length ≤ 4096) (h2 : F.length < 16384) (h3 : labsOK L) (h4 : Has L.length F) (hd : d ∈ F) : newR L (backE F ++ [d]) = .edge 4 F.length := by
  have hm := back_turn h4.ok
  unfold newR
  rw [if_neg (by unfold backE; simp; omega), labs_none h3]
  have ho := h4.ok d hd
  have hb : badE L.length F.reverse d = 4 := by
    unfold badE
    have ht := turnE_ok ho
    have a1 := ho.1
    have a2 := ho.2.1
    have a3 := ho.2.2
    rw [ht, if_neg (by omega), if_neg (by omega), if_pos (List.mem_reverse.2 hd)]
  show goE L.length [] (backE F ++ [d]) = _
  rw [goE_app _ _ (by rw [hm]; simpa using h4.perm (List.reverse_perm F)), hm, List.nil_append, goE_bad (by rw [hb]; decide), hb, List.length_reverse]
/-- A loop ahead of all. -/
theorem new_loop {L : List Int} {E : List (Int × Int)} (h1 : L.length ≤ 4096) (h2 : E.length < 16384) (h3 : labsOK L) : ∃ c, newR L ((0, 0) :: E) = .edge c 0 := by
  unfold newR
  rw [if_neg (by rw [List.length_cons]; omega), labs_none h3]
  have hb : badE L.length [] (0, 0) ≠ 0 := fun h => by
    have := (bad_zero h).1.2.1
    unfold turnE at this
    simp at this
  exact ⟨_, goE_bad hb⟩
end Gh
end Go.Proofs.YtbbmgcdocolakaaGreatDoor
/-
  graph.New: what it answers; words for its memory.
-/
namespace Go.Proofs.YtbbmgcdocolakaaGreatDoor
open Go.RowKit
set_option maxRecDepth 100000
set_option linter.unusedVariables false

def tGraph : ByteArray := ⟨#[103, 114, 97, 112, 104]⟩
def tLabel : ByteArray := ⟨#[108, 97, 98, 101, 108]⟩
def tEdge : ByteArray := ⟨#[101, 100, 103, 101]⟩
/-- A graph in memory. -/
def GraphAt (w : World) (g : Nat) (L : List Int) (F : List (Int × Int)) : Prop :=
  ∃ (A : Option Addr) (c : Nat) (B : Option Addr) (d C N I : Nat), Blk w g 74 #[.slice A L.length c, .slice B F.length d, .slice (some ⟨C, 0, none⟩) (L.length + 1) (L.length + 1), .slice (some ⟨N, 0, none⟩) (2 * F.length) (2 * F.length), .slice (some ⟨I, 0, none⟩) (2 * F.length) (2 * F.length)] ∧
    Sl w 1 A L.length (L.map (Value.int .i64)) ∧ Sl w 2 B F.length (Rk.cells F) ∧ Sl w 1 (some ⟨C, 0, none⟩) (L.length + 1) ((Gh.tab (L.length + 1) (Gh.sumF F)).map (Value.int .i64)) ∧
    (∃ xs : List Int, Sl w 1 (some ⟨N, 0, none⟩) (2 * F.length) (xs.map (Value.int .i64))) ∧ (∃ xs : List Int, Sl w 1 (some ⟨I, 0, none⟩) (2 * F.length) (xs.map (Value.int .i64)))
theorem GraphAt.keep {w w' : World} {g : Nat} {L : List Int} {F : List (Int × Int)} (h : GraphAt w g L F) (hb : Below w.heap.size w w') : GraphAt w' g L F := by
  obtain ⟨A, c, B, d, C, N, I, h1, h2, h3, h4, ⟨xs, h5⟩, ⟨ys, h6⟩⟩ := h
  exact ⟨A, c, B, d, C, N, I, h1.keep hb, h2.keep hb, h3.keep hb, h4.keep hb, ⟨xs, h5.keep hb⟩, ⟨ys, h6.keep hb⟩⟩
/-- What New answers. -/
def NewRes (L : List Int) (E : List (Int × Int)) (w : World) (e : Ending) (w' : World) : Prop :=
  Below w.heap.size w w' ∧ match Gh.newR L E with
    | .ok F => ∃ g, e = .returned (.tuple #[.pointer (some ⟨g, 0, none⟩), .nilIface]) ∧ GraphAt w' g L (Gh.sortG F)
    | .big => ∃ v, e = .returned (.tuple #[.pointer none, v]) ∧ (Err.flt 6 0 tGraph).At w' v
    | .lab i => ∃ v, e = .returned (.tuple #[.pointer none, v]) ∧ (Err.flt 3 (i : Nat) tLabel).At w' v
    | .edge c i => ∃ v, e = .returned (.tuple #[.pointer none, v]) ∧ (Err.step tEdge (.flt c (i : Nat) tEdge)).At w' v
theorem OnEd.same {w w' : World} {b n : Nat} {f : Int → Int → Bool} (h : OnEd w b n f) (hb : w'.heap[b]? = w.heap[b]?) : OnEd w' b n f := by
  obtain ⟨D, h1, h2⟩ := h
  obtain ⟨es', clock, h3, F, hs, hD⟩ := h1
  exact ⟨D, ⟨es', clock, hb.trans h3, F, hs, hD⟩, h2⟩
/-- All blocks but two are as they were. -/
def Asd2 (p q : Nat) (w w' : World) : Prop := w.heap.size ≤ w'.heap.size ∧ ∀ k, k < w.heap.size → k ≠ p → k ≠ q → w'.heap[k]? = w.heap[k]?
theorem Asd2.refl (p q : Nat) (w : World) : Asd2 p q w w := ⟨Nat.le_refl _, fun _ _ _ _ => rfl⟩
theorem Asd2.then {p q : Nat} {a w w' : World} (h : Asd2 p q a w) (hb : Below w.heap.size w w') : Asd2 p q a w' := ⟨Nat.le_trans h.1 hb.size, fun k hk hp hq => (hb.block k (Nat.lt_of_lt_of_le hk h.1)).trans (h.2 k hk hp hq)⟩
theorem Asd2.grown {p q : Nat} {a w w' : World} (h : Asd2 p q a w) (hg : w.grownBy w' (some p)) : Asd2 p q a w' := ⟨Nat.le_trans h.1 hg.size, fun k hk hp hq => (hg.block k (Nat.lt_of_lt_of_le hk h.1) (fun e => hp (Option.some.inj e))).trans (h.2 k hk hp hq)⟩
theorem Asd2.low {p q : Nat} {a w w' : World} (h : Asd2 p q a w) (hb : Below a.heap.size w w') : Asd2 p q a w' := ⟨Nat.le_trans h.1 hb.size, fun k hk hp hq => (hb.block k hk).trans (h.2 k hk hp hq)⟩
theorem Asd2.setq {p q : Nat} {a w : World} (h : Asd2 p q a w) (i : Nat) (u : Value) : Asd2 p q a (w.setCell ⟨q, i, none⟩ u) := ⟨by simpa using h.1, fun k hk hp hq => (Below.heap_setCell w ⟨q, i, none⟩ u k hq).trans (h.2 k hk hp hq)⟩
theorem lab_first {L : List Int} {k : Nat} {x : Int} (hx : L[k]? = some x) (hb : Gh.labBad x = true) (hn : ∀ j y, j < k → L[j]? = some y → Gh.labBad y = false) : L.findIdx? Gh.labBad = some k := by
  obtain ⟨h1, h2⟩ := List.getElem?_eq_some_iff.1 hx
  rw [List.findIdx?_eq_some_iff_getElem]
  refine ⟨h1, by rw [h2]; exact hb, fun j hj => ?_⟩
  rw [hn j _ hj (List.getElem?_eq_getElem (by omega))]
  decide
theorem lab_all {L : List Int} (hn : ∀ j y, j < L.length → L[j]? = some y → Gh.labBad y = false) : L.findIdx? Gh.labBad = none := by
  rw [List.findIdx?_eq_none_iff]
  intro x hx
  obtain ⟨j, hj⟩ := List.mem_iff_getElem?.1 hx
  exact hn j x (List.getElem?_eq_some_iff.1 hj).1 hj
end Go.Proofs.YtbbmgcdocolakaaGreatDoor
