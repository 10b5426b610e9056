/-
  Part 10 of the proof of PatBack: PtD, SrtF, TxtP.
-/
import Derived.Shelf.SlSortCmp.NoneTotal
import Derived.Deep.RegionHeldLaw
import Derived.Test.YtapledphhfiimaaGreatDoorPatBackM5
import Derived.Test.YtapledphhfiimaaGreatDoorPatBackM7
import Derived.Test.YtapledphhfiimaaGreatDoorPatBackM8
import Derived.Test.YtapledphhfiimaaGreatDoorPatBackM9
import Derived.Lib.SplitLaws
import Derived.Lib.CutLaws
import Derived.Lib.IndexBytes
import Derived.Lib.Join
import Derived.Lib.ItoaNum
import Derived.Lib.AtoiAll
import Derived.RowKit
set_option linter.unusedVariables false
/-
  pat.Turn: a right pattern, turned by an order.
-/
namespace Go.Proofs.YtapledphhfiimaaGreatDoor
open Go.RowKit Go.Lib Go.Proofs
open Go.Sort hiding Below
attribute [local go_sem ↓] Go.wp_at_zero Go.wp_at_succ
set_option maxRecDepth 100000
set_option linter.unusedVariables false

/-- Two rows of which one is the other in some order. -/
theorem perm_of_permIn {n : Nat} {E : List (Int × Int)} {d : Array (Int × Int)} (hn : E.length = n) (h : PermIn 0 n E.toArray d) : d.toList.Perm E := by
  obtain ⟨hsz, _, hp⟩ := h
  have hs : d.size = n := by rw [hsz]; simpa using hn
  rw [show d.extract 0 n = d from by rw [← hs]; exact Array.extract_size, show E.toArray.extract 0 n = E.toArray from by rw [← hn, ← List.size_toArray]; exact Array.extract_size] at hp
  exact hp
theorem rise_of_sorted {n : Nat} {d : Array (Int × Int)} (hn : d.size = n) (hd : d.toList.Nodup) (h : SortedIn (ltOf Pt.ordE) 0 n d) : Pt.Rise d.toList := by
  rw [Pt.Rise, List.pairwise_iff_getElem]
  intro i j hi hj hij
  have hi' : i < d.size := by simpa using hi
  have hj' : j < d.size := by simpa using hj
  have h1 := h i j (Nat.zero_le _) hij (by omega)
  have ea : d[i]! = d.toList[i] := by rw [getElem!_pos d i hi']; simp
  have eb : d[j]! = d.toList[j] := by rw [getElem!_pos d j hj']; simp
  rw [ea, eb] at h1
  unfold ltOf at h1
  simp only [decide_eq_false_iff_not] at h1
  have h2 := Pt.cp_edge.anti d.toList[i] d.toList[j]
  have h3 : Pt.ordE d.toList[i] d.toList[j] ≠ 0 := fun e => by
    have e2 := Pt.ordE_zero e
    exact List.pairwise_iff_getElem.1 hd i j hi hj hij e2
  omega
/-- slices.SortFunc of a row of edges of the call's own, of which none is twice in it; it may be empty. -/
theorem SortE_all (E : List (Int × Int)) (v : Value) (n Bs : Nat) (w : World) (hn : n ≤ 1000000) (hl : E.length = n) (hd : E.Nodup) (hrow : w.ownsRow Bs 53 2 v n (Rk.cells E)) (hB : Bs ≤ w.heap.size) :
    Calls Tryz.prog 58 #[v, .func (.func 37) #[] #[]] w fun e w' => e = .returned (.tuple #[]) ∧ ∃ E', E'.Perm E ∧ Pt.Rise E' ∧ w'.ownsRow Bs 53 2 v n (Rk.cells E') ∧ Below Bs w w' := by
  obtain ⟨A, c, rfl, _⟩ := Sl.own hrow
  by_cases h0 : n = 0
  · subst h0
    obtain rfl : E = [] := List.length_eq_zero_iff.1 hl
    refine (AnyF.slices_SortFunc_none sortE_lays A c _ w).mono ?_
    rintro e w' ⟨rfl, rfl⟩
    exact ⟨rfl, [], .refl _, List.Pairwise.nil, hrow, Below.refl _ _⟩
  · rcases hrow.2 with ⟨h1, _⟩ | ⟨g, cap, cur, hv, _⟩
    · injection h1 with _ h2
      exact absurd h2 h0
    · cases hv
      refine (SortE_any E g n c Bs w hn hl hrow hB).mono ?_
      rintro e w' ⟨rfl, d', hp, hso, hown, hb⟩
      have hpm := perm_of_permIn hl hp
      have hz : d'.size = n := by have := hpm.length_eq; simp at this; omega
      exact ⟨rfl, d'.toList, hpm, rise_of_sorted hz (hpm.nodup_iff.2 hd) hso, hown, hb⟩

theorem map_take_succE {α β : Type} (f : α → β) (l : List α) (k : Nat) (x : α) (h : l[k]? = some x) : (l.take (k + 1)).map f = (l.take k).map f ++ [f x] := by
  obtain ⟨h1, h2⟩ := List.getElem?_eq_some_iff.1 h
  rw [List.take_succ_eq_append_getElem h1, List.map_append, h2]
  rfl
theorem nodup_map {u : List Int} {E : List (Int × Int)} (hu : Ord u) (hE : ∀ e ∈ E, Pt.EdgeOK u.length e) (hd : E.Nodup) : (E.map (Pt.mapE u)).Nodup := by
  rw [List.Nodup, List.pairwise_map]
  exact List.Pairwise.imp_of_mem (fun ha hb hne h => hne (Pt.mapE_inj hu (hE _ ha) (hE _ hb) h)) hd
theorem rise_nodup {E : List (Int × Int)} (h : Pt.Rise E) : E.Nodup :=
  List.Pairwise.imp (fun {a b} hab e => by subst e; have := Pt.cp_edge.self a; omega) h

/-- A row of ints stays while a pattern's block is written. -/
theorem Sl.off_pat {w : World} {C : Option Addr} {n R : Nat} {l : List Int} {a b : Option Addr} {n1 c1 n2 c2 : Nat} (h : Sl w 1 C n (l.map (Value.int .i64))) (hR : Blk w R 30 #[.slice a n1 c1, .slice b n2 c2]) (i : Nat) (u : Value) : Sl (w.setCell ⟨R, i, none⟩ u) 1 C n (l.map (Value.int .i64)) := by
  by_cases h0 : n = 0
  · exact ⟨h.1, fun h1 => absurd h1 (by omega)⟩
  · obtain ⟨b', off, rfl, hcc⟩ := h.2 (by omega)
    suffices hne : b' ≠ R by
      exact ⟨h.1, fun _ => ⟨b', off, rfl, fun j v hv => (World.cell?_of_block (w := w) (a := ⟨b', off + j, none⟩) (Below.heap_setCell w ⟨R, i, none⟩ u b' hne)).trans (hcc j v hv)⟩⟩
    rintro rfl
    obtain ⟨v, hv⟩ : ∃ v, l[0]? = some v := ⟨_, List.getElem?_eq_getElem (by have := h.1; simp at this; omega)⟩
    have h1 := hcc 0 (.int .i64 v) (by rw [List.getElem?_map, hv]; rfl)
    have h2 := hR.cell off
    rw [Nat.add_zero] at h1
    rw [h1] at h2
    match off, h2 with
    | 0, h2 => simp at h2
    | 1, h2 => simp at h2
    | k + 2, h2 => simp at h2

set_option maxHeartbeats 16000000 in
theorem Turn_ok (u L : List Int) (E : List (Int × Int)) (U A B : Option Addr) (n c m d k : Nat) (w : World) (hO : Ord u) (hu : u.length = n) (hl : L.length = n) (hR : rightP L E) (hU : Sl w 1 U n (u.map (Value.int .i64))) (hs : Sl w 1 A n (L.map (Value.int .i64))) (ht : Sl w 2 B m (Rk.cells E)) :
    Calls Tryz.prog 23 #[pv A n c B m d, .slice U n k] w fun e w' => ∃ A' c' B' d' L' E', e = .returned (.tuple #[pv A' n c' B' m d', .nilIface]) ∧ Pt.IsTurn u L E L' E' ∧ L'.length = n ∧ Sl w' 1 A' n (L'.map (Value.int .i64)) ∧ Sl w' 2 B' m (Rk.cells E') ∧ Below w.heap.size w w' := by
  have hn : n ≤ 8 := by rw [← hu]; exact hO.1
  have hml : E.length = m := ht.len2
  have hm : m ≤ 28 := by rw [← hml]; exact right_few hR
  have HML := Lib.hid hml
  obtain ⟨w0, hw0⟩ : ∃ w0, w0 = (w.alloc (.cells #[.slice A n c, .slice B m d] 30)).alloc (.cells #[.slice none 0 0, .slice none 0 0] 30) := ⟨_, rfl⟩
  have HB0 := Lib.hid (show Below w.heap.size w w0 from by rw [hw0]; exact bel_al (bel_al (Below.refl _ _) _) _)
  have HSz0 := Lib.hid (show w0.heap.size = w.heap.size + 2 from by rw [hw0]; simp)
  have HKB := Lib.hid (show Blk w0 w.heap.size 30 #[.slice A n c, .slice B m d] from by rw [hw0]; exact (Blk.new w _ _).alloc _)
  have HKR := Lib.hid (show Blk w0 (w.heap.size + 1) 30 #[.slice none 0 0, .slice none 0 0] from by
    rw [hw0]
    have h := Blk.new (w.alloc (.cells #[.slice A n c, .slice B m d] 30)) 30 #[.slice none 0 0, .slice none 0 0]
    rwa [World.size_alloc] at h)
  have HRn := Lib.hid (right_nil hR (PatRight_any L E A B n c m d w0 hl (by omega) (by omega) (hs.keep HB0.out) (ht.keep HB0.out)))
  have HS := Lib.hid hs
  have HT := Lib.hid ht
  have HU := Lib.hid hU
  have HO := Lib.hid hO
  have HR := Lib.hid hR
  have HLU := Lib.hid hu
  have HLL := Lib.hid hl
  clear hs ht hU hO hR hu hl hml
  go_enter Tryz.func23, Tryz.ntmps23
  go_upto_region 1 with (fail)
  rw [← hw0]
  clear hw0
  have kb0 := HKB.out.cell 0
  have kb1 := HKB.out.cell 1
  simp at kb0 kb1
  go_upto_region 4 with (go_at_call 10; refine HRn.out.mono ?_; clear HRn; rintro e w1 ⟨rfl, hb1⟩; have HB1 := Lib.hid hb1; clear hb1 kb0 kb1)
  have HKB1 := Lib.hid (HKB.out.keep HB1.out)
  have kb0 := HKB1.out.cell 0
  simp at kb0
  have HP := Lib.hid (Put_ok u L U A n k c w1 HO.out HLU.out HLL.out (HU.out.keep (HB0.out.andThen HB1.out)) (HS.out.keep (HB0.out.andThen HB1.out)))
  go_upto_region 8 with (go_at_call 55; refine HP.out.mono ?_; clear HP; rintro e w2 ⟨C, kk, rfl, hC, hb2⟩; have HC := Lib.hid hC; have HB2 := Lib.hid hb2; clear hC hb2 kb0)
  have HKB2 := Lib.hid (HKB1.out.keep HB2.out)
  obtain ⟨w3, hw3⟩ : ∃ W, W = w2.alloc (.cells #[.slice C n kk, .slice none 0 0] 30) := ⟨_, rfl⟩
  have HB3 := Lib.hid (show Below w2.heap.size w2 w3 from by rw [hw3]; exact bel_al (Below.refl _ _) _)
  have HSz3 := Lib.hid (show w3.heap.size = w2.heap.size + 1 from by rw [hw3]; simp)
  have HK3 := Lib.hid (show Blk w3 w2.heap.size 30 #[.slice C n kk, .slice none 0 0] from by rw [hw3]; exact Blk.new _ _ _)
  rw [← hw3]
  clear hw3
  have HKB3 := Lib.hid (HKB2.out.keep HB3.out)
  have kb1 := HKB3.out.cell 1
  simp at kb1
  have HB2w := Lib.hid (show Below w.heap.size w w2 from (HB0.out.andThen HB1.out).andThen HB2.out)
  go_wp2_with fail
  clear kb1
  go_loopw [35] (fun iv wr => ∃ (j : Nat) (fv : Value), j ≤ m ∧ iv = .int .i64 j ∧ Hid (wr.ownsRow w3.heap.size 53 2 fv j (Rk.cells ((E.take j).map (Pt.mapE u)))) ∧ Hid (Blk wr w2.heap.size 30 #[.slice C n kk, fv]) ∧ Hid (Below w2.heap.size w2 wr)) (fun iv _ => m - (intOf iv).toNat)
  case atStart => exact ⟨0, .slice none 0 0, Nat.zero_le _, rfl, Lib.hid (World.ownsRow_nil _ _ _ _), HK3, HB3⟩
  case round =>
    obtain ⟨j, fv, hj, rfl, HOw, HKp, HBr⟩ := hrel
    obtain ⟨D, dq, rfl, _⟩ := Sl.own HOw.out
    have HSzr := Lib.hid (show w3.heap.size ≤ wr.heap.size from by have h := HKp.out.lt; have h2 := HSz3.out; omega)
    by_cases hlt : j < m
    · obtain ⟨⟨x, y⟩, he⟩ : ∃ e, E[j]? = some e := ⟨_, List.getElem?_eq_getElem (by rw [HML.out]; exact hlt)⟩
      obtain ⟨b1, off1, hBB, c0, c1⟩ := (HT.out.keep (HB2w.out.andThen HBr.out)).edge hlt he
      subst hBB
      simp only at c0 c1
      have hok : Pt.EdgeOK n (x, y) := by have h := Pt.right_edge HR.out (List.mem_of_getElem? he); rwa [HLL.out] at h
      have HTk := Lib.hid (map_take_succE (Pt.mapE u) E j _ he)
      have HVX := Lib.hid (show u[x.toNat]? = some (Pt.vtx u x) from Pt.vtx_get HO.out hok.1 (by have h1 := hok.2.1; have h2 := hok.2.2; have h3 := HLU.out; simp only at h1 h2; omega))
      have HVY := Lib.hid (show u[y.toNat]? = some (Pt.vtx u y) from Pt.vtx_get HO.out (by have h1 := hok.1; have h2 := hok.2.1; simp only at h1 h2; omega) (by have h2 := hok.2.2; have h3 := HLU.out; simp only at h2; omega))
      have HME := Lib.hid (show Pt.mapE u (x, y) = turnE (Pt.vtx u x, Pt.vtx u y) from rfl)
      obtain ⟨h0x, hxy, hyn⟩ := hok
      simp only at h0x hxy hyn
      clear he
      generalize Pt.vtx u x = vx at *
      generalize Pt.vtx u y = vy at *
      obtain ⟨X, rfl⟩ := Int.eq_ofNat_of_zero_le h0x
      obtain ⟨Y, rfl⟩ := Int.eq_ofNat_of_zero_le (show 0 ≤ y by omega)
      have hXn : ((X : Nat) : Int) < (n : Int) := by omega
      have hXn' : X < n := by omega
      have hYn' : Y < n := by omega
      rw [Int.toNat_natCast] at HVX HVY
      obtain ⟨bU, offU, hUU, hUc⟩ := HU.out.at_ (show 0 < n by omega)
      subst hUU
      clear hUc
      have HNe := Lib.hid (show (Value.slice D j dq).ownBlock ≠ some wr.heap.size from fun e => absurd (HOw.out.lt _ e).2 (Nat.lt_irrefl _))
      have HBy := Lib.hid (show ∀ V, Below w.heap.size w V → V.cell? ⟨bU, offU + X, none⟩ = some (.int .i64 vx) ∧ V.cell? ⟨bU, offU + Y, none⟩ = some (.int .i64 vy) from fun V hV => by
        obtain ⟨b', off', hA', hcc⟩ := (HU.out.keep hV).2 (show 0 < n by omega)
        cases hA'
        exact ⟨hcc X _ (by rw [List.getElem?_map, HVX.out]; rfl), hcc Y _ (by rw [List.getElem?_map, HVY.out]; rfl)⟩)
      have HAll := Lib.hid (show ∀ V, Below wr.heap.size wr V → V.cell? ⟨w2.heap.size, 1, none⟩ = some (.slice D j dq) ∧ V.cell? ⟨bU, offU + X, none⟩ = some (.int .i64 vx) ∧ V.cell? ⟨bU, offU + Y, none⟩ = some (.int .i64 vy) ∧ V.frozen? ⟨w2.heap.size, 1, none⟩ = false from fun V hV => by
        have hkV := HKp.out.keep hV
        have k1 := hkV.cell 1
        simp at k1
        obtain ⟨b', off', hA', hcc⟩ := (HU.out.keep ((HB2w.out.andThen HBr.out).andThen hV)).2 (show 0 < n by omega)
        cases hA'
        exact ⟨k1, hcc X _ (by rw [List.getElem?_map, HVX.out]; rfl), hcc Y _ (by rw [List.getElem?_map, HVY.out]; rfl), hkV.frozen 1⟩)
      obtain ⟨⟨a', b'⟩, hab⟩ : ∃ p, p = turnE (vx, vy) := ⟨_, rfl⟩
      have HTn := Lib.hid (show ∀ W, Calls Tryz.prog 57 #[.agg #[.int .i64 vx, .int .i64 vy]] W fun e w' => e = .returned (.agg #[.int .i64 a', .int .i64 b']) ∧ Below W.heap.size W w' from fun W => by
        have h := turned_any vx vy W
        rw [← hab] at h
        exact h)
      rw [← hab] at HME
      clear hab
      go_upto_region 11 with (fail)
      obtain ⟨we, hwe⟩ : ∃ W, W = wr.alloc (.cells #[.int .i64 (X : Int), .int .i64 (Y : Int)] 53) := ⟨_, rfl⟩
      have HBe := Lib.hid (show Below wr.heap.size wr we from by rw [hwe]; exact bel_al (Below.refl _ _) _)
      have HKe := Lib.hid (show Blk we wr.heap.size 53 #[.int .i64 (X : Int), .int .i64 (Y : Int)] from by rw [hwe]; exact Blk.new _ _ _)
      have HOe := Lib.hid (show we.ownsRow w3.heap.size 53 2 (.slice D j dq) j (Rk.cells ((E.take j).map (Pt.mapE u))) from own_block HOw.out fun g hg => HBe.out.block g (HOw.out.lt g hg).2)
      rw [← hwe]
      clear hwe c0 c1
      have HFt := Lib.hid (show ∀ V, Below we.heap.size we V → (V.cell? ⟨w2.heap.size, 1, none⟩ = some (.slice D j dq) ∧ V.cell? ⟨bU, offU + X, none⟩ = some (.int .i64 vx) ∧ V.cell? ⟨bU, offU + Y, none⟩ = some (.int .i64 vy) ∧ V.frozen? ⟨w2.heap.size, 1, none⟩ = false) ∧ V.cell? ⟨wr.heap.size, 0, none⟩ = some (.int .i64 (X : Int)) ∧ V.cell? ⟨wr.heap.size, 1, none⟩ = some (.int .i64 (Y : Int)) from fun V hV => by
        have hkV := HKe.out.keep hV
        have k0 := hkV.cell 0
        have k1 := hkV.cell 1
        simp at k0 k1
        exact ⟨HAll.out V (HBe.out.andThen hV), k0, k1⟩)
      obtain ⟨⟨q0, q1, q2, q3⟩, q4, q5⟩ := HFt.out we (Below.refl _ _)
      go_region_law
          (first
          | (go_simp; go_at_call 57; (refine (HTn.out _).mono ?_; rintro e w5 ⟨rfl, hb5⟩; have HB5 := Lib.hid ((bel_drewN (Below.refl we.heap.size we) 1).andThen hb5); obtain ⟨⟨q0, q1, q2, q3⟩, q4, q5⟩ := HFt.out w5 HB5.out; obtain ⟨⟨p0, p1, p2, p3⟩, p4, p5⟩ := HFt.out (w5.alloc (.cells #[.int .i64 a', .int .i64 b'] 53)) (bel_al HB5.out _); have HO5 := Lib.hid (own_block HOe.out (w' := w5) fun g hg => HB5.out.block g (HOe.out.lt g hg).2); clear hb5))
          | (refine step_cat_at elemEdge (.tmp 40) (.tmp 53) (by rfl) (by rfl) (HO5.out.alloc _) (by have h1 := HB5.out.size; have h2 := HBe.out.size; have h3 := HSzr.out; simp; omega) (Sl.newE _ _ _ _) (by rfl) (by rfl) (by simp [Value.oneCell']) (by unfold lim; omega) (by unfold lim; omega) ?_; intro v6 w6 hown6 hgr; obtain ⟨D6, d6, rfl, _⟩ := Sl.own hown6; have HO6 := Lib.hid hown6; have HB6 := Lib.hid ((HBe.out.andThen (bel_al HB5.out _)).mono HSzr.out |>.trans (hgr.belowOwn (by have h1 := HB5.out.size; have h2 := HBe.out.size; have h3 := HSzr.out; simp; omega) (HO5.out.alloc _))); have HK6 := Lib.hid (HKp.out.below HB6.out (by have h := HSz3.out; omega)); have q3 := HK6.out.frozen 1; have q0 := HK6.out.cell 1; obtain ⟨q1, q2⟩ := HBy.out w6 ((HB2w.out.andThen HBr.out).trans (HB6.out.mono (by have h1 := HSz3.out; have h2 := HB2w.out.size; omega))); have hE6 := hgr.blk ((HKe.out.keep HB5.out).alloc _) HNe.out; have q4 := hE6.cell 0; have q5 := hE6.cell 1; simp at q0 q4 q5; clear hown6 hgr hE6))
      all_goals (
        have HKn := Lib.hid (show Blk (w6.setCell ⟨w2.heap.size, 1, none⟩ (.slice D6 (j + 1) d6)) w2.heap.size 30 #[.slice C n kk, .slice D6 (j + 1) d6] from by have h := HK6.out.set_ 1 (.slice D6 (j + 1) d6); simpa using h)
        have HOn := Lib.hid (show (w6.setCell ⟨w2.heap.size, 1, none⟩ (.slice D6 (j + 1) d6)).ownsRow w3.heap.size 53 2 (.slice D6 (j + 1) d6) (j + 1) (Rk.cells ((E.take (j + 1)).map (Pt.mapE u))) from by
          rw [HTk.out, HME.out, Rk.cells_snoc]
          exact own_far2 HO6.out (by have h := HSz3.out; omega) _)
        have HBn := Lib.hid (show Below w2.heap.size w2 (w6.setCell ⟨w2.heap.size, 1, none⟩ (.slice D6 (j + 1) d6)) from (HBr.out.trans (HB6.out.mono (by have h := HSz3.out; omega))).setCell (p := ⟨w2.heap.size, 1, none⟩) (Nat.le_refl _) _)
        clear q0 q1 q2 q3 q4 q5 p0 p1 p2 p3 p4 p5
        go_wp2_with fail
        go_roundw
        case rel => exact ⟨j + 1, _, by omega, by go_num, HOn, HKn, HBn⟩
        case measure => simp [intOf]; omega)
    · obtain rfl : j = m := by omega
      rw [List.take_of_length_le (by rw [HML.out]; exact Nat.le_refl _)] at HOw
      have hpk0 := HKp.out.cell 0
      have hpk1 := HKp.out.cell 1
      simp at hpk0 hpk1
      have HSo := Lib.hid (SortE_all _ (.slice D j dq) j w3.heap.size wr (by omega) (by rw [List.length_map]; exact HML.out) (nodup_map HO.out (fun e he => by have h := Pt.right_edge HR.out he; rwa [HLL.out, ← HLU.out] at h) (rise_nodup (Pt.right_rise HR.out))) HOw.out HSzr.out)
      have HBw := Lib.hid (show Below w.heap.size w wr from HB2w.out.andThen HBr.out)
      have HRe := Lib.hid (show Blk wr (w.heap.size + 1) 30 #[.slice none 0 0, .slice none 0 0] from ((HKR.out.keep HB1.out).keep HB2.out).keep HBr.out)
      have HCr := Lib.hid (HC.out.keep HBr.out)
      have hsz : w.heap.size + 2 ≤ w2.heap.size := by have h1 := HSz0.out; have h2 := HB1.out.size; have h3 := HB2.out.size; omega
      go_wp2_with (go_at_call 58; refine HSo.out.mono ?_; clear HSo hpk0 hpk1; rintro e w5 ⟨rfl, E', hpm, hri, hown, hb5⟩; have HPm := Lib.hid hpm; have HRi := Lib.hid hri; have HOF := Lib.hid hown; have HB5 := Lib.hid hb5; have HK5 := Lib.hid (HKp.out.below hb5 (by have h := HSz3.out; omega)); have s0 := HK5.out.cell 0; have s1 := HK5.out.cell 1; have HR5 := Lib.hid (HRe.out.below hb5 (by have h := HSz3.out; omega)); have f0 := HR5.out.frozen 0; have f1 := HR5.out.frozen 1; have r0 := HR5.out.cell 0; have r1 := HR5.out.cell 1; simp at s0 s1 r0 r1; clear hpm hri hown hb5)
      have hx := (HR5.out.set_ 0 (.slice C n kk)).set_ 1 (.slice D j dq)
      have x00 := hx.cell 0
      have x01 := hx.cell 1
      simp at x00 x01
      refine bodyPost_ret (v := .tuple #[pv C n kk D j dq, .nilIface]) (by simp [results, Tryz.results23, go_sem, x00, x01]) rfl ?_
      have hC5 : Sl w5 1 C n ((putL u L).map (Value.int .i64)) := HC.out.keep (HBr.out.trans (HB5.out.mono (by have h := HSz3.out; omega)))
      exact ⟨C, kk, D, dq, putL u L, E', rfl, ⟨rfl, HPm.out, HRi.out⟩, by have h := hC5.1; simpa using h, (hC5.off_pat HR5.out 0 _).off_pat (by have h := HR5.out.set_ 0 (.slice C n kk); simpa using h) 1 _, Sl.of_own (own_far2 (own_far2 HOF.out (by have h := HSz3.out; omega) _) (by have h := HSz3.out; omega) _), ((HBw.out.trans (HB5.out.mono (by have h := HSz3.out; omega))).setCell (p := ⟨w.heap.size + 1, 0, none⟩) (by simp) _).setCell (p := ⟨w.heap.size + 1, 1, none⟩) (by simp) _⟩

end Go.Proofs.YtapledphhfiimaaGreatDoor
/-
  slices.SortFunc of edges: what it leaves as it is.
-/
namespace Go.Proofs.YtapledphhfiimaaGreatDoor
open Go.RowKit Go.Lib Go.Proofs
open Go.Sort hiding Below
set_option maxRecDepth 100000
set_option linter.unusedVariables false

/-- slices.SortFunc of a row of edges: what else lies stays. -/
theorem SortE_gr (E : List (Int × Int)) (v : Value) (n Bs : Nat) (w : World) (hn : n ≤ 1000000) (hl : E.length = n) (hd : E.Nodup) (hrow : w.ownsRow Bs 53 2 v n (Rk.cells E)) (hB : Bs ≤ w.heap.size) :
    Calls Tryz.prog 58 #[v, .func (.func 37) #[] #[]] w fun e w' => e = .returned (.tuple #[]) ∧ ∃ E', E'.Perm E ∧ Pt.Rise E' ∧ w'.ownsRow Bs 53 2 v n (Rk.cells E') ∧ w.grownBy w' v.ownBlock := by
  obtain ⟨A, c, rfl, _⟩ := Sl.own hrow
  by_cases h0 : n = 0
  · subst h0
    obtain rfl : E = [] := List.length_eq_zero_iff.1 hl
    refine (AnyF.slices_SortFunc_none sortE_lays A c _ w).mono ?_
    rintro e w' ⟨rfl, rfl⟩
    exact ⟨rfl, [], .refl _, List.Pairwise.nil, hrow, gb_refl _ _⟩
  · rcases hrow.2 with ⟨h1, _⟩ | ⟨g, cap', cur, hv, hbase, hgb, r1, r2, r3, r4⟩
    · injection h1 with _ h2
      exact absurd h2 h0
    cases hv
    have hz : E.toArray.size = n := by simpa using hl
    have hH : HoldsK encE 2 w g 0 E.toArray := by
      unfold HoldsK
      rw [flat_cells]
      exact holds_of_blockK hgb (by rw [cells_size, hl]; exact r4)
    have hglt : g < w.heap.size := (Array.getElem?_eq_some_iff.1 hgb).1
    have hs := AnyQ.slices_SortFunc sortE_lays 2 Tryz.isAgg53 Tryz.sizeOf53 encE (fun _ => rfl) (fun x v hv => by simp [encE] at hv; rcases hv with rfl | rfl <;> rfl) Pt.ordE ltE_swo 37 #[] g 0 c E.toArray w (enters_of Tryz.func37 (by kernel_rfl) rfl) (order_lays g 0 E.toArray.size w) hH hglt (by rw [hz]; omega)
    rw [hz] at hs
    refine hs.mono ?_
    rintro e w' ⟨rfl, d', q, os, hp, hso, rfl⟩
    have hd0 : d'.size = n := by rw [← hz]; exact hp.1
    have hd2 : d'.toList.length = n := by simpa using hd0
    have hf : flatK encE 2 d' = (Rk.cells d'.toList).toArray := by
      have := flat_cells d'.toList
      simpa using this
    have hcz := cells_size d'.toList
    rw [hd2] at hcz
    have hpm := perm_of_permIn hl hp
    unfold sortWorldK putRowK
    rw [hf]
    refine ⟨rfl, d'.toList, hpm, rise_of_sorted hd0 (hpm.nodup_iff.2 hd) hso, ⟨hcz, .inr ⟨g, c, _, rfl, hbase, heap_sortedK _ hgb, r1, r2, by simp [putCells, r3], ?_⟩⟩, grownBy_sortedK _⟩
    have := take_putCellsK cur (Rk.cells d'.toList) (by rw [hcz, r3]; exact Nat.mul_le_mul_right _ r1)
    rw [hcz] at this
    exact this
end Go.Proofs.YtapledphhfiimaaGreatDoor
/-
  Texts plainly: cut and split at one byte, joined again; numbers as digits, there and back.
-/
namespace Go.Proofs.YtapledphhfiimaaGreatDoor.Tx
open Go
set_option linter.unusedVariables false

def cut1 (c : UInt8) : List UInt8 → List UInt8 × List UInt8 × Bool
  | [] => ([], [], false)
  | b :: l => if b = c then ([], l, true) else (b :: (cut1 c l).1, (cut1 c l).2.1, (cut1 c l).2.2)
theorem indexByte_split (c : UInt8) : ∀ s, Lib.indexByte s c = -1 ∨ ∃ i : Nat, Lib.indexByte s c = i := fun s => by
  have h := Lib.indexByte_ge s c
  by_cases h1 : Lib.indexByte s c = -1
  · exact .inl h1
  · exact .inr ⟨(Lib.indexByte s c).toNat, by omega⟩
theorem cut1_eq (c : UInt8) : ∀ s : List UInt8, Lib.cut s [c] = cut1 c s
  | [] => by
    unfold Lib.cut
    rw [Lib.index_one]
    rfl
  | b :: l => by
    have ih := cut1_eq c l
    unfold Lib.cut at ih ⊢
    rw [Lib.index_one] at ih ⊢
    unfold cut1
    by_cases hb : b = c
    · rw [if_pos hb]
      have e : Lib.indexByte (b :: l) c = 0 := by
        unfold Lib.indexByte
        rw [if_pos (beq_iff_eq.2 hb)]
      rw [e]
      simp
    · rw [if_neg hb, ← ih]
      have hbn : ¬ (b == c) = true := fun h => hb (beq_iff_eq.1 h)
      rcases indexByte_split c l with h | ⟨i, h⟩
      · have e : Lib.indexByte (b :: l) c = -1 := by
          unfold Lib.indexByte
          rw [if_neg hbn, h]
          rfl
        rw [e, h]
        simp
      · have e : Lib.indexByte (b :: l) c = ((i + 1 : Nat) : Int) := by
          unfold Lib.indexByte
          rw [if_neg hbn, h, if_neg (by rw [beq_iff_eq]; omega)]
          omega
        rw [e, h]
        have h0 : (0 : Int) ≤ (i : Int) + 1 := by omega
        simp [h0]
theorem cut1_none {c : UInt8} : ∀ {s : List UInt8}, c ∉ s → cut1 c s = (s, [], false)
  | [], _ => rfl
  | b :: l, h => by
    have h1 : ¬ b = c := fun e => h (by rw [e]; exact List.mem_cons_self ..)
    have h2 := cut1_none (c := c) (s := l) fun hm => h (List.mem_cons_of_mem _ hm)
    rw [cut1, if_neg h1, h2]
theorem cut1_app {c : UInt8} : ∀ {s : List UInt8} (t : List UInt8), c ∉ s → cut1 c (s ++ c :: t) = (s, t, true)
  | [], t, _ => by rw [List.nil_append, cut1, if_pos rfl]
  | b :: l, t, h => by
    have h1 : ¬ b = c := fun e => h (by rw [e]; exact List.mem_cons_self ..)
    have h2 := cut1_app (c := c) (s := l) t fun hm => h (List.mem_cons_of_mem _ hm)
    rw [List.cons_append, cut1, if_neg h1, h2]
theorem app_of_mem {c : UInt8} : ∀ {s : List UInt8}, c ∈ s → ∃ a b, s = a ++ c :: b ∧ c ∉ a
  | [], h => by cases h
  | x :: l, h => by
    by_cases hx : x = c
    · subst hx
      exact ⟨[], l, rfl, by simp⟩
    · rcases List.mem_cons.1 h with h1 | h1
      · exact absurd h1.symm hx
      · obtain ⟨a, b, e, hn⟩ := app_of_mem h1
        refine ⟨x :: a, b, by rw [e, List.cons_append], fun hm => ?_⟩
        rcases List.mem_cons.1 hm with h2 | h2
        · exact hx h2.symm
        · exact hn h2
theorem cut1_cases (c : UInt8) (s : List UInt8) : (c ∉ s ∧ cut1 c s = (s, [], false)) ∨ (∃ a b, s = a ++ c :: b ∧ c ∉ a ∧ cut1 c s = (a, b, true)) := by
  by_cases h : c ∈ s
  · right
    obtain ⟨a, b, rfl, ha⟩ := app_of_mem h
    exact ⟨a, b, rfl, ha, cut1_app b ha⟩
  · exact .inl ⟨h, cut1_none h⟩
def split1 (c : UInt8) : List UInt8 → List (List UInt8)
  | [] => [[]]
  | b :: l => if b = c then [] :: split1 c l else match split1 c l with
    | [] => [[b]]
    | x :: r => (b :: x) :: r
theorem split1_ne (c : UInt8) : ∀ s, split1 c s ≠ []
  | [] => by simp [split1]
  | b :: l => by
    unfold split1
    split
    · simp
    · split <;> simp
theorem split1_none {c : UInt8} : ∀ {s : List UInt8}, c ∉ s → split1 c s = [s]
  | [], _ => rfl
  | b :: l, h => by
    have h1 : ¬ b = c := fun e => h (by rw [e]; exact List.mem_cons_self ..)
    have h2 := split1_none (c := c) (s := l) fun hm => h (List.mem_cons_of_mem _ hm)
    rw [split1, if_neg h1, h2]
theorem split1_app {c : UInt8} : ∀ {s : List UInt8} (t : List UInt8), c ∉ s → split1 c (s ++ c :: t) = s :: split1 c t
  | [], t, _ => by rw [List.nil_append, split1, if_pos rfl]
  | b :: l, t, h => by
    have h1 : ¬ b = c := fun e => h (by rw [e]; exact List.mem_cons_self ..)
    have h2 := split1_app (c := c) (s := l) t fun hm => h (List.mem_cons_of_mem _ hm)
    rw [List.cons_append, split1, if_neg h1, h2]
theorem splitK_eq (c : UInt8) : ∀ (k : Nat) (s : List UInt8), s.count c = k → Lib.splitK [c] 0 k s = split1 c s
  | 0, s, h => by
    rw [split1_none (List.count_eq_zero.1 h)]
    rfl
  | k + 1, s, h => by
    have hc := cut1_eq c s
    rcases cut1_cases c s with ⟨h1, _⟩ | ⟨a, b, rfl, ha, hcut⟩
    · rw [List.count_eq_zero.2 h1] at h
      omega
    · rw [hcut] at hc
      unfold Lib.cut at hc
      unfold Lib.splitK
      have ih := splitK_eq c k b (by
        rw [List.count_append, List.count_eq_zero.2 ha, List.count_cons_self] at h
        omega)
      by_cases h0 : 0 ≤ Lib.index (a ++ c :: b) [c]
      · rw [if_pos h0] at hc
        rw [if_neg (by rw [beq_iff_eq]; omega), split1_app b ha]
        simp only [Prod.mk.injEq] at hc
        rw [Nat.add_zero, hc.1, hc.2.1, ih]
      · rw [if_neg h0] at hc
        simp at hc
theorem split_eq (c : UInt8) (s : ByteArray) : (Lib.splitB ⟨#[c]⟩ 0 (Lib.countB s ⟨#[c]⟩) s).map (·.data.toList) = split1 c s.data.toList := by
  rw [Lib.splitB_data]
  refine splitK_eq c _ _ ?_
  have h := Lib.count_one c s.data.toList
  exact h.symm
theorem join_split (c : UInt8) : ∀ s : List UInt8, Lib.join (split1 c s) [c] = s
  | [] => by rw [split1, Lib.join_one]
  | b :: l => by
    have ih := join_split c l
    unfold split1
    by_cases hb : b = c
    · rw [if_pos hb]
      cases hs : split1 c l with
      | nil => exact absurd hs (split1_ne c l)
      | cons x r =>
        rw [hs, Lib.join_cons] at ih
        rw [Lib.join_cons, List.nil_append, Lib.joinTail, List.map_cons, List.flatten_cons, hb]
        unfold Lib.joinTail at ih
        rw [List.append_assoc, ih]
        rfl
    · rw [if_neg hb]
      cases hs : split1 c l with
      | nil => exact absurd hs (split1_ne c l)
      | cons x r =>
        rw [hs, Lib.join_cons] at ih
        show Lib.join ((b :: x) :: r) [c] = b :: l
        rw [Lib.join_cons, List.cons_append, ih]
theorem split_join (c : UInt8) : ∀ (x : List UInt8) (r : List (List UInt8)), c ∉ x → (∀ y ∈ r, c ∉ y) → split1 c (Lib.join (x :: r) [c]) = x :: r
  | x, [], hx, _ => by rw [Lib.join_one, split1_none hx]
  | x, y :: r, hx, hr => by
    have ih := split_join c y r (hr y (List.mem_cons_self ..)) fun z hz => hr z (List.mem_cons_of_mem _ hz)
    rw [Lib.join_cons] at ih ⊢
    rw [Lib.joinTail, List.map_cons, List.flatten_cons, List.append_assoc]
    unfold Lib.joinTail at ih
    show split1 c (x ++ c :: (y ++ _)) = _
    rw [split1_app _ hx, ih]

theorem parse_app : ∀ (l r : List UInt8) (acc : Nat), Lib.parseUint10 acc (l ++ r) = match Lib.parseUint10 acc l with
    | .ok a => Lib.parseUint10 a r
    | e => e
  | [], r, acc => rfl
  | b :: l, r, acc => by
    rw [List.cons_append]
    simp only [Lib.parseUint10]
    split
    · split
      · rfl
      · split
        · rfl
        · exact parse_app l r _
    · rfl
theorem digit_nat {d : Nat} (h : d < 10) : (UInt8.ofNat (48 + d)).toNat = 48 + d := by
  rw [UInt8.toNat_ofNat']
  omega
theorem parse_dec : ∀ u : Nat, u < 18446744073709551616 → Lib.parseUint10 0 (Lib.decDigits u) = .ok u := by
  intro u
  induction u using Nat.strongRecOn with
  | ind u ih =>
    intro hu
    by_cases h : u < 10
    · rw [Lib.decDigits, dif_pos h]
      unfold Lib.parseUint10 Lib.parseUint10
      rw [digit_nat h, if_pos (by omega), if_neg (by omega), if_neg (by omega)]
      congr 1
      omega
    · have h2 := ih (u / 10) (by omega) (by omega)
      rw [Lib.decDigits, dif_neg h, parse_app, h2]
      show Lib.parseUint10 (u / 10) [UInt8.ofNat (48 + u % 10)] = _
      unfold Lib.parseUint10 Lib.parseUint10
      rw [digit_nat (Nat.mod_lt _ (by omega)), if_pos (by omega), if_neg (by omega), if_neg (by omega)]
      congr 1
      omega
theorem dec_ne (u : Nat) : Lib.decDigits u ≠ [] := by
  by_cases h : u < 10
  · rw [Lib.decDigits, dif_pos h]; simp
  · rw [Lib.decDigits, dif_neg h]; simp
theorem dec_digit : ∀ (u : Nat), ∀ b ∈ Lib.decDigits u, 48 ≤ b.toNat ∧ b.toNat ≤ 57 := by
  intro u
  induction u using Nat.strongRecOn with
  | ind u ih =>
    intro b hb
    by_cases h : u < 10
    · rw [Lib.decDigits, dif_pos h] at hb
      rw [List.mem_singleton.1 hb, digit_nat h]
      omega
    · rw [Lib.decDigits, dif_neg h] at hb
      rcases List.mem_append.1 hb with hb | hb
      · exact ih _ (by omega) b hb
      · rw [List.mem_singleton.1 hb, digit_nat (Nat.mod_lt _ (by omega))]
        omega
/-- The digits of a number are parsed as it. -/
theorem atoi_dec {u : Nat} (h : u ≤ 9223372036854775807) : Lib.atoiAll (Lib.decDigits u) = .ok (u : Int) := by
  have hp := parse_dec u (by omega)
  have hd := dec_digit u
  cases he : Lib.decDigits u with
  | nil => exact absurd he (dec_ne u)
  | cons c r =>
    rw [he] at hp hd
    have hc := hd c (List.mem_cons_self ..)
    unfold Lib.atoiAll
    simp only
    rw [if_neg (show ¬ (c.toNat = 43 ∨ c.toNat = 45) by omega)]
    unfold Lib.parseMag
    rw [if_neg (by simp), hp]
    simp only
    rw [if_neg (by omega), if_neg (by omega), if_neg (by omega)]
/-- The digits that a number's text is, no more than so many of them. -/
theorem itoa_nat (u : Nat) : Lib.itoa (u : Int) = Lib.decDigits u := by
  unfold Lib.itoa
  rw [if_neg (by omega), Int.toNat_natCast]
theorem dec_inj {u v : Nat} (hu : u ≤ 9223372036854775807) (hv : v ≤ 9223372036854775807) (h : Lib.decDigits u = Lib.decDigits v) : u = v := by
  have h1 := atoi_dec hu
  rw [h, atoi_dec hv] at h1
  injection h1 with h1
  omega
theorem dec_len_lt : ∀ (k u : Nat), 1 ≤ k → ((Lib.decDigits u).length ≤ k ↔ u < 10 ^ k)
  | 0, u, h => by omega
  | k + 1, u, _ => by
    by_cases h : u < 10
    · rw [Lib.decDigits, dif_pos h]
      have : 10 ^ 1 ≤ 10 ^ (k + 1) := Nat.pow_le_pow_right (by omega) (by omega)
      simp
      omega
    · rw [Lib.decDigits, dif_neg h, List.length_append, List.length_singleton]
      rcases Nat.eq_zero_or_pos k with hk | hk
      · subst hk
        have := List.length_pos_iff.2 (dec_ne (u / 10))
        omega
      · have ih := dec_len_lt k (u / 10) hk
        rw [Nat.pow_succ]
        omega
end Go.Proofs.YtapledphhfiimaaGreatDoor.Tx
