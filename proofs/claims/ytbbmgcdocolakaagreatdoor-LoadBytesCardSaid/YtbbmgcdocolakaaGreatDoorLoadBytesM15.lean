/-
  Part 15 of the proof of LoadBytes: ListS, GrS0, GrS.
-/
import Derived.Test.YtbbmgcdocolakaaGreatDoorLoadBytesM11
import Derived.Shelf.Spec.SlicesGrow
import Derived.BigQuiet
import Derived.BigRegion
import Derived.Laws.OwnMore
import Derived.Test.YtbbmgcdocolakaaGreatDoorLoadBytesM12
import Derived.Test.YtbbmgcdocolakaaGreatDoorLoadBytesM14
set_option linter.unusedVariables false
/-
  slices.Clip, Clone, Grow, Concat at ints; append onto a slice that is cut to its length.
-/
namespace Go.Proofs.YtbbmgcdocolakaaGreatDoor
open Go.RowKit Go.Shelf
set_option maxRecDepth 100000
set_option linter.unusedVariables false

section
variable {P : Program} {ops : Array Oper} {o : Oper} {a : Act} {Q : Exit → Act → World → Prop}
/-- append(s[:n:n], x...): a new row. -/
theorem run_full {t ty e : TypeId} {z : Value} {size bytes : Nat} (E : Elem P t e z size bytes) {W : World}
    {A : Option Addr} {n : Nat} {xs : List Value} (hxs : Sl W size A n xs) (hA : A = none → n = 0)
    {b off m c : Nat} {ys : List Value} (hy : Sl W size (some ⟨b, off, none⟩) m ys) (hm : 0 < m) (h1 : ∀ u ∈ ys, u.oneCell' = true)
    (hlim : (n + m) * bytes ≤ lim) (hlim' : n + m ≤ lim) :
    ∃ v' w', (Builtin.append_ #[t, t] ty #[.slice A n n, .slice (some ⟨b, off, none⟩) m c]).run P W = .ok v' w' ∧ w'.ownsRow W.heap.size e size v' (n + m) (xs ++ ys) ∧ Below W.heap.size W w' := by
  obtain ⟨i, hi, hz, hsize, hby⟩ := info_parts E.hi
  unfold lim at hlim hlim'
  have hadd : ∀ (b off j : Nat), (⟨b, off, none⟩ : Addr).add j = ⟨b, off + j, none⟩ := fun b off j => by unfold Addr.add; split <;> simp_all
  obtain ⟨b1, off1, h2, hc⟩ := hy.2 hm
  injection h2 with h2
  injection h2 with h2 h3 _
  subst h2 h3
  have hc' : ∀ j u, ys[j]? = some u → W.cell? ((⟨b, off, none⟩ : Addr).add j) = some u := fun j u hu => by rw [hadd]; exact hc j u hu
  rcases A with _ | A
  · obtain rfl : n = 0 := hA rfl
    obtain rfl : xs = [] := List.eq_nil_of_length_eq_zero (by simpa using hxs.1)
    obtain ⟨v', w', hr, h2, h3, _⟩ := run_append_own (P := P) W W.heap.size t ty e i z size bytes E.ht hi hz hsize hby E.hzs E.hsz (.slice none 0 0) 0 [] (World.ownsRow_nil W _ e size) ⟨b, off, none⟩ m c ys hy.1 hc' h1 (by unfold maxLen; omega) hlim (Nat.le_refl _)
    exact ⟨v', w', hr, h2, h3.os, h3.tape, h3.output, h3.size, fun k hk => h3.block k hk (fun e => by cases e)⟩
  · obtain ⟨v', w', hr, h2, h3⟩ := run_append_arg_grows (P := P) W t ty e i z size bytes E.ht hi hz hsize hby E.hzs E.hsz A n n xs hxs.1 (fun j u hu => by
      have hn : 0 < n := by
        have := (List.getElem?_eq_some_iff.1 hu).1
        rw [hxs.1] at this
        exact Nat.pos_of_ne_zero fun h => by rw [h, Nat.zero_mul] at this; omega
      obtain ⟨b2, off2, h2, h3⟩ := hxs.2 hn
      cases h2
      rw [hadd]; exact h3 j u hu) ⟨b, off, none⟩ m c ys hy.1 hc' (by omega) (by unfold maxLen; omega) hlim
    exact ⟨v', w', hr, h2, h3.os, h3.tape, h3.output, h3.size, fun k hk => h3.block k hk (fun e => by cases e)⟩
/-- The same as a step of a region that draws its order. -/
theorem step_full {t e : TypeId} {z : Value} {size bytes : Nat} (E : Elem P t e z size bytes) {W : World} {K : Act → World → Prop} {L : Prop} (s x : Operand)
    (hgd : o.guard = none) (ho : o.op = .call { callee := .builtin .append, args := #[s, x], argTypes := #[t, t] })
    {A : Option Addr} {n : Nat} {xs : List Value} (hxs : Sl W size A n xs) (hA : A = none → n = 0)
    {b off m c : Nat} {ys : List Value} (hy : Sl W size (some ⟨b, off, none⟩) m ys) (hm : 0 < m)
    (hs : a.eval s = .slice A n n) (hx : a.eval x = .slice (some ⟨b, off, none⟩) m c) (h1 : ∀ u ∈ ys, u.oneCell' = true)
    (hlim : (n + m) * bytes ≤ lim) (hlim' : n + m ≤ lim)
    (h : ∀ v' w', w'.ownsRow W.heap.size e size v' (n + m) (xs ++ ys) → Below W.heap.size W w' → K (a.put o.dst v') w') :
    if Region.wanted o (yielded ops a.tmps) = true then Oper.wp P o a W K Q else L := by
  have hw : Region.wanted o (yielded ops a.tmps) = true := by simp [Region.wanted, hgd]
  rw [if_pos hw]
  obtain ⟨v', w', hr, h2, h3⟩ := run_full (P := P) (ty := o.type) (c := c) E hxs hA hy hm h1 hlim hlim'
  unfold Oper.wp execOp
  simp only [ho, resolve, invoke, builtin, Sem.run_bind, Sem.run_pure, Result.andThen_ok, List.map_toArray, List.map_cons, List.map_nil, hs, hx, hr]
  exact h v' w' h2 h3
end

set_option maxHeartbeats 2000000 in
theorem CloneI_own (l : List Int) (A : Option Addr) (n c : Nat) (w : World) (hl : l.length = n) (hn : n ≤ 1099511627776) (hs : Sl w 1 A n (l.map (Value.int .i64))) :
    Calls Tryz.prog 57 #[.slice A n c] w fun e w' => ∃ v, e = .returned v ∧ w'.ownsRow w.heap.size 3 1 v n (l.map (Value.int .i64)) ∧ Below w.heap.size w w' := by
  have nn := fun (w : World) (a : Option Addr) (n c : Nat) => Lib.run_eql_slice_nil (P := Tryz.prog) w 22 3 a n c 0 0 Tryz.underlying22
  have HS := Lib.hid hs
  go_enter Tryz.func57, Tryz.ntmps57
  rcases A with _ | A
  · have hn0 : n = 0 := by
      rcases Nat.eq_zero_or_pos n with h | h
      · exact h
      · obtain ⟨_, _, h, _⟩ := hs.2 h; cases h
    subst hn0
    clear hs
    go_wp2_with fail
    go_ret
    obtain rfl := List.eq_nil_of_length_eq_zero hl
    exact ⟨_, rfl, World.ownsRow_nil _ _ _ _, Below.refl _ _⟩
  · have hbA := bel_al (Below.refl w.heap.size w) (.cells #[] 3)
    have HOE := Lib.hid (World.ownsRow_made (e := 3) (size := 1) w #[] 0 (Nat.le_refl _) (Nat.zero_le _) rfl)
    have HBA := Lib.hid hbA
    have SPA := Lib.hid (HS.out.keep hbA)
    clear hs hbA
    go_wp2_with (at_builtin; refine wpList_cat_at elemInt _ _ rfl rfl HOE.out HBA.out.size SPA.out rfl rfl (one_i64 _) (by unfold lim; omega) (by unfold lim; omega) ?_; intro v8 w8 hown8 hg8; have HO8 := Lib.hid hown8; have HB8 := Lib.hid (HBA.out.trans (hg8.belowOwn HBA.out.size HOE.out)); clear hown8 hg8 HOE HBA SPA)
    go_ret
    have hown := HO8.out
    rw [List.nil_append, Nat.zero_add] at hown
    exact ⟨_, rfl, hown, HB8.out⟩
theorem CloneI_any (l : List Int) (A : Option Addr) (n c : Nat) (w : World) (hl : l.length = n) (hn : n ≤ 1099511627776) (hs : Sl w 1 A n (l.map (Value.int .i64))) :
    Calls Tryz.prog 57 #[.slice A n c] w fun e w' => ∃ C k, e = .returned (.slice C n k) ∧ Sl w' 1 C n (l.map (Value.int .i64)) ∧ (n ≤ k ∧ k ≤ 9223372036854775807) ∧ Below w.heap.size w w' :=
  (CloneI_own l A n c w hl hn hs).mono fun e w' ⟨v, he, hown, hb⟩ => by
    obtain ⟨C, k, rfl, hsl⟩ := Sl.own hown
    exact ⟨C, k, he, hsl, own_cap hown, hb⟩

/-- All that some lists hold. -/
def flat (L : List (Option Addr × Nat × List Int)) : List Int := L.flatMap (·.2.2)
theorem flat_snoc {L : List (Option Addr × Nat × List Int)} {k : Nat} {D : Option Addr} {d : Nat} {l : List Int} (h : L[k]? = some (D, d, l)) : flat (L.take (k + 1)) = flat (L.take k) ++ l := by
  obtain ⟨hk, he⟩ := List.getElem?_eq_some_iff.1 h
  unfold flat
  rw [List.take_succ_eq_append_getElem hk, List.flatMap_append, he]; simp
theorem flat_part (L : List (Option Addr × Nat × List Int)) (k : Nat) : (flat (L.take k)).length ≤ (flat L).length := by
  have h : flat L = flat (L.take k) ++ flat (L.drop k) := by unfold flat; rw [← List.flatMap_append, List.take_append_drop]
  rw [h, List.length_append]; omega

end Go.Proofs.YtbbmgcdocolakaaGreatDoor
/-
  (*Graph).rows: where the vertices beside each vertex lie.
-/
namespace Go.Proofs.YtbbmgcdocolakaaGreatDoor
open Go.RowKit
attribute [local go_sem ↓] Go.wp_at_zero Go.wp_at_succ
set_option maxRecDepth 100000
set_option linter.unusedVariables false

theorem Asd.high {g : Nat} {a w : World} (h : Asd g a w) {b : Nat} (hb : a.heap.size ≤ b) (i : Nat) (u : Value) : Asd g a (w.setCell ⟨b, i, none⟩ u) :=
  ⟨by simpa using h.1, fun k hk hl => (Below.heap_setCell w ⟨b, i, none⟩ u k (fun e => by have e' : k = b := e; omega)).trans (h.2 k hk hl)⟩
theorem Asd.then {g : Nat} {a w w' : World} (h : Asd g a w) (hb : Below w.heap.size w w') : Asd g a w' := h.trans (Asd.of hb)
/-- What lies while rows works: the box of the graph, the graph. -/
structure RG (w : World) (g : Nat) (a b f n i : Value) (W : World) : Prop where
  box : Blk W w.heap.size 25 #[.pointer (some ⟨g, 0, none⟩)]
  gr : Blk W g 74 #[a, b, f, n, i]
  asd : Asd g w W
  bel : Below g w W
theorem RG.keep {w : World} {g : Nat} {a b f n i : Value} {W W' : World} (h : RG w g a b f n i W) (hb : Below W.heap.size W W') : RG w g a b f n i W' :=
  ⟨h.box.keep hb, h.gr.keep hb, h.asd.then hb, h.bel.trans (hb.mono (Nat.le_of_lt h.gr.lt))⟩
theorem RG.high {w : World} {g : Nat} {a b f n i : Value} {W : World} (h : RG w g a b f n i W) {c : Nat} (hc : w.heap.size < c) (hg : g < w.heap.size) (j : Nat) (u : Value) : RG w g a b f n i (W.setCell ⟨c, j, none⟩ u) :=
  ⟨h.box.far (p := ⟨c, j, none⟩) (by simp only; omega) u, h.gr.far (p := ⟨c, j, none⟩) (by simp only; omega) u, h.asd.high (by omega) j u, h.bel.setCell (p := ⟨c, j, none⟩) (by simp only; omega) u⟩
theorem RG.drew {w : World} {g : Nat} {a b f n i : Value} {W : World} (h : RG w g a b f n i W) : RG w g a b f n i W.drew := h.keep (bel_drewN (Below.refl W.heap.size W) 1)
theorem RG.set2 {w : World} {g : Nat} {a b f n i : Value} {W : World} (h : RG w g a b f n i W) (hne : w.heap.size ≠ g) (u : Value) : RG w g a b u n i (W.setCell ⟨g, 2, none⟩ u) :=
  ⟨h.box.far (p := ⟨g, 2, none⟩) hne u, by have := h.gr.set_ 2 u; simpa using this, h.asd.setCell 2 u, h.bel.setCell (p := ⟨g, 2, none⟩) (Nat.le_refl _) u⟩
theorem RG.set3 {w : World} {g : Nat} {a b f n i : Value} {W : World} (h : RG w g a b f n i W) (hne : w.heap.size ≠ g) (u : Value) : RG w g a b f u i (W.setCell ⟨g, 3, none⟩ u) :=
  ⟨h.box.far (p := ⟨g, 3, none⟩) hne u, by have := h.gr.set_ 3 u; simpa using this, h.asd.setCell 3 u, h.bel.setCell (p := ⟨g, 3, none⟩) (Nat.le_refl _) u⟩
theorem RG.set4 {w : World} {g : Nat} {a b f n i : Value} {W : World} (h : RG w g a b f n i W) (hne : w.heap.size ≠ g) (u : Value) : RG w g a b f n u (W.setCell ⟨g, 4, none⟩ u) :=
  ⟨h.box.far (p := ⟨g, 4, none⟩) hne u, by have := h.gr.set_ 4 u; simpa using this, h.asd.setCell 4 u, h.bel.setCell (p := ⟨g, 4, none⟩) (Nat.le_refl _) u⟩
theorem own_rep_at {B : Nat} (W : World) (n b : Nat) (hb : W.heap.size = b) (hB : B ≤ b) (hn : n ≤ 9223372036854775807) : OL (W.alloc (.cells (Array.replicate n (.int .i64 0)) 3)) B b n n (List.replicate n 0) := by
  subst hb
  have := own_replicate (B := B) (e := 3) W n (.int .i64 0) hB hn
  unfold OL
  rw [List.map_replicate]
  exact this
theorem RG.same {w : World} {g : Nat} {a b f n i : Value} {W W' : World} (h : RG w g a b f n i W) (hb : Below W.heap.size W W') : RG w g a b f n i W' := h.keep hb

theorem two_made {w : World} {g : Nat} {a b f n i : Value} {W : World} (h : RG w g a b f n i W) (hne : w.heap.size ≠ g) (hw : w.heap.size ≤ W.heap.size) (m : Nat) (hm : m ≤ 9223372036854775807) (u v : Value) :
    RG w g a b f u v ((((W.setCell ⟨g, 3, none⟩ u).setCell ⟨g, 4, none⟩ v).alloc (.cells (Array.replicate m (.int .i64 0)) 3)).alloc (.cells (Array.replicate m (.int .i64 0)) 3)).drew ∧
    OL ((((W.setCell ⟨g, 3, none⟩ u).setCell ⟨g, 4, none⟩ v).alloc (.cells (Array.replicate m (.int .i64 0)) 3)).alloc (.cells (Array.replicate m (.int .i64 0)) 3)).drew w.heap.size W.heap.size m m (List.replicate m 0) ∧
    OL ((((W.setCell ⟨g, 3, none⟩ u).setCell ⟨g, 4, none⟩ v).alloc (.cells (Array.replicate m (.int .i64 0)) 3)).alloc (.cells (Array.replicate m (.int .i64 0)) 3)).drew w.heap.size (W.heap.size + 1) m m (List.replicate m 0) ∧
    Asd g W ((((W.setCell ⟨g, 3, none⟩ u).setCell ⟨g, 4, none⟩ v).alloc (.cells (Array.replicate m (.int .i64 0)) 3)).alloc (.cells (Array.replicate m (.int .i64 0)) 3)).drew := by
  refine ⟨((((h.set3 hne u).set4 hne v).keep (bel_al (Below.refl _ _) _)).keep (bel_al (Below.refl _ _) _)).drew, ?_, ?_, ?_⟩
  · exact ((own_rep_at _ m W.heap.size (by simp) hw hm).keep (bel_al (Below.refl _ _) _)).same rfl
  · exact (own_rep_at _ m (W.heap.size + 1) (by simp) (by omega) hm).same rfl
  · exact ((((Asd.of (Below.refl W.heap.size W)).setCell 3 u).setCell 4 v).then (bel_al (Below.refl _ _) _)).then (bel_al (Below.refl _ _) _) |>.then (bel_drewN (Below.refl _ _) 1)
theorem OL.lower {w : World} {B B' b n c : Nat} {l : List Int} (h : OL w B b n c l) (hb : B' ≤ B) : OL w B' b n c l := by
  refine ⟨h.1, ?_⟩
  rcases h.2 with h' | ⟨g, cap, cur, h1, h2, h3⟩
  · exact .inl h'
  · exact .inr ⟨g, cap, cur, h1, Nat.le_trans hb h2, h3⟩
/-- Behind a put. -/
theorem RG.put {w : World} {g : Nat} {a b f n i : Value} {W W' : World} (h : RG w g a b f n i W) {N I X : Nat} (hs : ∀ b, b ≠ N → b ≠ I → b ≠ X → W'.heap[b]? = W.heap[b]?) (hb : Below w.heap.size W W') (hg : g < w.heap.size) (hN : w.heap.size < N) (hI : w.heap.size < I) (hX : w.heap.size < X) : RG w g a b f n i W' :=
  ⟨(hs _ (by omega) (by omega) (by omega)).trans h.box, (hs _ (by omega) (by omega) (by omega)).trans h.gr, ⟨Nat.le_trans h.asd.1 hb.size, fun k hk hl => (hb.block k hl).trans (h.asd.2 k hk hl)⟩, h.bel.trans (hb.mono (Nat.le_of_lt hg))⟩
end Go.Proofs.YtbbmgcdocolakaaGreatDoor
/-
  (*Graph).rows: where the vertices beside each vertex lie.
-/
namespace Go.Proofs.YtbbmgcdocolakaaGreatDoor
open Go.RowKit
attribute [local go_sem ↓] Go.wp_at_zero Go.wp_at_succ
set_option maxRecDepth 100000
set_option linter.unusedVariables false

theorem wrap_ok {x : Int} (h1 : -9223372036854775808 ≤ x) (h2 : x ≤ 9223372036854775807) : wrap64 x = x := by unfold wrap64; omega
set_option maxHeartbeats 16000000 in
theorem rows_any (F : List (Int × Int)) (A Bd : Option Addr) (n c m d g : Nat) (w : World) (hm : F.length = m) (hn : n ≤ 4096) (hm9 : m ≤ 16384) (hF : ∀ e ∈ F, Pt.EdgeOK n e)
    (hk : Blk w g 74 #[.slice A n c, .slice Bd m d, .slice none 0 0, .slice none 0 0, .slice none 0 0]) (ht : Sl w 2 Bd m (Rk.cells F)) (hBd : ∀ x, Bd = some x → x.block ≠ g) :
    Calls Tryz.prog 62 #[.pointer (some ⟨g, 0, none⟩)] w fun e w' => e = .returned (.tuple #[]) ∧ ∃ C N I : Nat,
      Blk w' g 74 #[.slice A n c, .slice Bd m d, .slice (some ⟨C, 0, none⟩) (n + 1) (n + 1), .slice (some ⟨N, 0, none⟩) (2 * m) (2 * m), .slice (some ⟨I, 0, none⟩) (2 * m) (2 * m)] ∧
      Sl w' 1 (some ⟨C, 0, none⟩) (n + 1) ((Gh.tab (n + 1) (Gh.sumF F)).map (Value.int .i64)) ∧ (∃ xs : List Int, Sl w' 1 (some ⟨N, 0, none⟩) (2 * m) (xs.map (Value.int .i64))) ∧ (∃ xs : List Int, Sl w' 1 (some ⟨I, 0, none⟩) (2 * m) (xs.map (Value.int .i64))) ∧ Asd g w w' ∧ Below g w w' := by
  have hgl := hk.lt
  have HT := Lib.hid ht
  have HBd := Lib.hid hBd
  have HM := Lib.hid hm
  have HF := Lib.hid hF
  obtain ⟨n1, hn1⟩ : ∃ n1, n1 = n + 1 := ⟨_, rfl⟩
  obtain ⟨m2, hm2⟩ : ∃ m2, m2 = 2 * m := ⟨_, rfl⟩
  have HN1 := Lib.hid hn1
  have HM2 := Lib.hid hm2
  rw [← hn1, ← hm2]
  have hN1 : (n : Int) + 1 = (n1 : Int) := by omega
  have hN1' : wrap64 ((n : Int) + 1) = (n1 : Int) := by unfold wrap64; omega
  have hM2 : 2 * (m : Int) = (m2 : Int) := by omega
  have mk1 := fun W => make_elem (P := Tryz.prog) elemInt rfl n1 (by omega) (by omega) W
  have mk2 := fun W => make_elem (P := Tryz.prog) elemInt rfl m2 (by omega) (by omega) W
  obtain ⟨w0, hw0⟩ : ∃ W, W = w.alloc (.cells #[.pointer (some ⟨g, 0, none⟩)] 25) := ⟨_, rfl⟩
  have hz0 : w0.heap.size = w.heap.size + 1 := by rw [hw0]; simp
  have HZ0 := Lib.hid hz0
  have HR0 := Lib.hid (show RG w g (.slice A n c) (.slice Bd m d) (.slice none 0 0) (.slice none 0 0) (.slice none 0 0) w0 from by
    rw [hw0]
    exact ⟨Blk.new _ _ _, hk.alloc _, Asd.of (bel_al (Below.refl _ _) _), (bel_al (Below.refl w.heap.size w) _).mono (Nat.le_of_lt hgl)⟩)
  have hgp : g ≠ w.heap.size := by omega
  have hpg : w.heap.size ≠ g := by omega
  clear hk ht hBd hm hF hn1 hm2
  go_enter Tryz.func62, Tryz.ntmps62
  go_upto_region 1 with (fail)
  rw [← hw0]
  clear hw0
  go_cut [] from 11 to 20 (fun wx => ∃ C : Nat, C = w.heap.size + 1 ∧ Hid (RG w g (.slice A n c) (.slice Bd m d) (.slice (some ⟨C, 0, none⟩) n1 n1) (.slice none 0 0) (.slice none 0 0) wx) ∧ Hid (OL wx w.heap.size C n1 n1 (List.replicate n1 0)))
  case first =>
    have b0 := HR0.out.box.cell 0
    have ga := HR0.out.gr.cell 0
    have gc := HR0.out.gr.cell 2
    have gf := HR0.out.gr.frozen 2
    have R1 := HR0.out.keep (bel_al (Below.refl w0.heap.size w0) (.cells (Array.replicate n1 (.int .i64 0)) 3))
    have OC := own_replicate (B := w.heap.size + 1) (e := 3) w0 n1 (.int .i64 0) (by omega) (by omega)
    have HR1 := Lib.hid R1
    have HOC := Lib.hid OC
    have b1 := R1.box.cell 0
    have gc1 := R1.gr.cell 2
    have gf1 := R1.gr.frozen 2
    simp at b0 ga gc b1 gc1
    clear R1 OC
    go_region
    go_wp2_with fail
    go_meet
    exact ⟨w.heap.size + 1, rfl, Lib.hid ((HR0.out.set2 hpg _).keep (bel_al (Below.refl _ _) _)).drew, Lib.hid ((own_rep_at _ n1 (w.heap.size + 1) (by simpa using HZ0.out) (Nat.le_succ _) (by omega)).same rfl)⟩
  case rest =>
  obtain ⟨C, hC, HRa, HCa⟩ := hcut
  have HNe := Lib.hid (show C ≠ g ∧ g ≠ C ∧ C ≠ w.heap.size ∧ w.heap.size ≠ C ∧ g ≠ w.heap.size ∧ w.heap.size ≠ g from by omega)
  have HCz := Lib.hid hC
  clear hC hgp hpg hN1'
  have b0 := HRa.out.box.cell 0
  have gb := HRa.out.gr.cell 1
  simp at b0 gb
  go_wp2_with fail
  go_loopw [26] (fun kv wr => ∃ k : Nat, k ≤ m ∧ kv = .int .i64 (k : Int) ∧ Hid (RG w g (.slice A n c) (.slice Bd m d) (.slice (some ⟨C, 0, none⟩) n1 n1) (.slice none 0 0) (.slice none 0 0) wr) ∧ Hid (OL wr w.heap.size C n1 n1 (Gh.tab n1 (Gh.cntF (F.take k))))) (fun kv _ => m - (intOf kv).toNat)
  case atStart => exact ⟨0, Nat.zero_le _, rfl, HRa, by rw [List.take_zero, HN1.out, Gh.cnt_nil, ← HN1.out]; exact HCa⟩
  case round =>
    obtain ⟨k, hk, rfl, HRk, HCk⟩ := hrel
    clear HRa HCa b0 gb
    by_cases hlt : k < m
    · have hlt' : (k : Int) < (m : Int) := by omega
      obtain ⟨⟨x, y⟩, he⟩ : ∃ e, F[k]? = some e := ⟨_, List.getElem?_eq_getElem (by rw [HM.out]; exact hlt)⟩
      have ho := HF.out _ (List.mem_of_getElem? he)
      obtain ⟨b1, o1, hBB, e0, e1⟩ := (HT.out.asd HRk.out.asd HBd.out).edge hlt he
      subst hBB
      simp only at e0 e1
      have HTk := Lib.hid (show F.take (k + 1) = F.take k ++ [(x, y)] from by
        obtain ⟨h1, h2⟩ := List.getElem?_eq_some_iff.1 he
        rw [List.take_succ_eq_append_getElem h1, h2])
      obtain ⟨p0, p1, p2⟩ := ho
      simp only at p0 p1 p2
      obtain ⟨a, rfl⟩ := Int.eq_ofNat_of_zero_le p0
      obtain ⟨b, rfl⟩ := Int.eq_ofNat_of_zero_le (show 0 ≤ y by omega)
      clear he
      have han : a + 1 < n1 := by have := HN1.out; omega
      have hbn : b + 1 < n1 := by have := HN1.out; omega
      have han' : (a : Int) + 1 < (n1 : Int) := by omega
      have hbn' : (b : Int) + 1 < (n1 : Int) := by omega
      have HWa := Lib.hid (And.intro (wrap_ok (x := (a : Int) + 1) (by omega) (by omega)) (wrap_ok (x := (b : Int) + 1) (by omega) (by omega)))
      have HAb := Lib.hid (show ¬ a = b ∧ ¬ b = a from by omega)
      have hna : ¬ (a : Int) + 1 < 0 := by omega
      have hnb : ¬ (b : Int) + 1 < 0 := by omega
      have hta : ((a : Int) + 1).toNat = a + 1 := by omega
      have htb : ((b : Int) + 1).toNat = b + 1 := by omega
      have HSt := Lib.hid (show ((Gh.tab n1 (Gh.cntF (F.take k))).set (a + 1) (Gh.cntF (F.take k) (a + 1) + 1)).set (b + 1) (Gh.cntF (F.take k) (b + 1) + 1) = Gh.tab n1 (Gh.cntF (F.take k ++ [(((a : Nat) : Int), ((b : Nat) : Int))])) from by rw [HN1.out]; exact Gh.cnt_step (F.take k) n a b (by omega))
      have ca := HCk.out.cell (Gh.tab_get (N := n1) (Gh.cntF (F.take k)) han)
      have cb := HCk.out.cell (Gh.tab_get (N := n1) (Gh.cntF (F.take k)) hbn)
      have cnt9 : ∀ i, 0 ≤ Gh.cntF (F.take k) i ∧ Gh.cntF (F.take k) i ≤ 16384 := fun i => by
        unfold Gh.cntF
        split
        · omega
        · have h1 : Pt.deg (F.take k) ((i - 1 : Nat) : Int) ≤ (F.take k).length := List.length_filter_le _ _
          rw [List.length_take, HM.out] at h1
          omega
      have xa9 := cnt9 (a + 1)
      have xb9 := cnt9 (b + 1)
      obtain ⟨xa, hxa⟩ : ∃ x, x = Gh.cntF (F.take k) (a + 1) := ⟨_, rfl⟩
      obtain ⟨xb, hxb⟩ : ∃ x, x = Gh.cntF (F.take k) (b + 1) := ⟨_, rfl⟩
      rw [← hxa] at ca xa9 HSt
      rw [← hxb] at cb xb9 HSt
      clear hxa hxb cnt9
      have HWx := Lib.hid (And.intro (wrap_ok (x := xa + 1) (by omega) (by omega)) (wrap_ok (x := xb + 1) (by omega) (by omega)))
      go_upto_region 5 with (fail)
      obtain ⟨we, hwe⟩ : ∃ W, W = wr.alloc (.cells #[.int .i64 (a : Int), .int .i64 (b : Int)] 76) := ⟨_, rfl⟩
      obtain ⟨q, hq⟩ : ∃ q, q = wr.heap.size := ⟨_, rfl⟩
      have HBe := Lib.hid (show Below wr.heap.size wr we from by rw [hwe]; exact bel_al (Below.refl _ _) _)
      have HKe := Lib.hid (show Blk we q 76 #[.int .i64 (a : Int), .int .i64 (b : Int)] from by rw [hwe, hq]; exact Blk.new _ _ _)
      have HRe := Lib.hid (HRk.out.keep HBe.out)
      have HCe := Lib.hid (HCk.out.keep HBe.out)
      have HQc := Lib.hid (show q ≠ C ∧ C ≠ q from by have := HCk.out.lt.2; omega)
      rw [← hwe, ← hq]
      have ca := (ca : wr.cell? ⟨C, a + 1, none⟩ = some (.int .i64 xa))
      have ca' : we.cell? ⟨C, a + 1, none⟩ = some (.int .i64 xa) := (HBe.out.cell (World.block_lt_of_cell? _ _ ca)).trans ca
      have cb' : we.cell? ⟨C, b + 1, none⟩ = some (.int .i64 xb) := (HBe.out.cell (World.block_lt_of_cell? _ _ cb)).trans cb
      clear hwe hq ca cb e0 e1 HBe
      have b0 := HRe.out.box.cell 0
      have gc := HRe.out.gr.cell 2
      have q0 := HKe.out.cell 0
      have q1 := HKe.out.cell 1
      have fa := HCe.out.frozen (a + 1)
      have fb := HCe.out.frozen (b + 1)
      simp at b0 gc q0 q1
      obtain ⟨n1_, n2_, n3_, n4_, n5_, n6_⟩ := HNe.out
      obtain ⟨n7_, n8_⟩ := HQc.out
      obtain ⟨n9_, n10_⟩ := HAb.out
      clear mk1 mk2
      go_region
      go_wp2_with fail
      go_region
      go_wp2_with fail
      go_roundw
      case rel => exact ⟨k + 1, by omega, by go_num, Lib.hid ((HRe.out.high (by have := HCz.out; omega) hgl _ _).high (by have := HCz.out; omega) hgl _ _).drew.drew, Lib.hid (by
        rw [HTk.out, ← HSt.out]
        exact ((HCe.out.set (a + 1) (xa + 1)).set (b + 1) (xb + 1)).same rfl)⟩
      case measure => simp [intOf]; omega
    obtain rfl : k = m := by omega
    rw [List.take_of_length_le (Nat.le_of_eq HM.out), HN1.out, Gh.ps_zero, ← HN1.out] at HCk
    have b0 := HRk.out.box.cell 0
    have ga := HRk.out.gr.cell 0
    simp at b0 ga
    go_wp2_with fail
    go_loopw [58] (fun vv wr => ∃ v : Nat, v ≤ n ∧ vv = .int .i64 (v : Int) ∧ Hid (RG w g (.slice A n c) (.slice Bd k d) (.slice (some ⟨C, 0, none⟩) n1 n1) (.slice none 0 0) (.slice none 0 0) wr) ∧ Hid (OL wr w.heap.size C n1 n1 (Gh.tab n1 (Gh.psF F v)))) (fun vv _ => n - (intOf vv).toNat)
    case atStart => exact ⟨0, Nat.zero_le _, rfl, HRk, HCk⟩
    case round =>
      obtain ⟨v, hv, rfl, HRv, HCv⟩ := hrel
      clear HRk HCk b0 ga
      have hdg : ∀ i, i ≤ n → Pt.degs F i ≤ 2 * k := fun i hi => by
        have h1 := Gh.degs_mono F hi
        rw [Pt.degs_all F HF.out, HM.out] at h1
        exact h1
      have HDg := Lib.hid hdg
      clear hdg
      by_cases hvt : v < n
      · have hvt' : (v : Int) < (n : Int) := by omega
        have hv1 : v + 1 < n1 := by have := HN1.out; omega
        have hv0 : v < n1 := by omega
        have hv1' : (v : Int) + 1 < (n1 : Int) := by omega
        have hv0' : (v : Int) < (n1 : Int) := by omega
        have hvn : ¬ (v : Int) + 1 < 0 := by omega
        have hvt2 : ((v : Int) + 1).toNat = v + 1 := by omega
        have HSt := Lib.hid (show (Gh.tab n1 (Gh.psF F v)).set (v + 1) (Gh.psF F v (v + 1) + Gh.psF F v v) = Gh.tab n1 (Gh.psF F (v + 1)) from by rw [HN1.out]; exact Gh.ps_step F n v)
        have c1 := HCv.out.cell (Gh.tab_get (N := n1) (Gh.psF F v) hv1)
        have c0 := HCv.out.cell (Gh.tab_get (N := n1) (Gh.psF F v) hv0)
        have x9 : 0 ≤ Gh.psF F v (v + 1) ∧ Gh.psF F v (v + 1) ≤ 32768 := by
          unfold Gh.psF
          rw [if_neg (by omega)]
          have h1 : Pt.deg F ((v + 1 - 1 : Nat) : Int) ≤ F.length := List.length_filter_le _ _
          rw [HM.out] at h1
          omega
        have y9 : 0 ≤ Gh.psF F v v ∧ Gh.psF F v v ≤ 32768 := by
          unfold Gh.psF
          rw [if_pos (Nat.le_refl _)]
          have := HDg.out v hv
          omega
        obtain ⟨xv, hxv⟩ : ∃ x, x = Gh.psF F v (v + 1) := ⟨_, rfl⟩
        obtain ⟨yv, hyv⟩ : ∃ x, x = Gh.psF F v v := ⟨_, rfl⟩
        rw [← hxv, ← hyv] at HSt
        rw [← hxv] at c1 x9
        rw [← hyv] at c0 y9
        clear hxv hyv
        have b0 := HRv.out.box.cell 0
        have gc := HRv.out.gr.cell 2
        have f1 := HCv.out.frozen (v + 1)
        simp at b0 gc
        obtain ⟨n1_, n2_, n3_, n4_, n5_, n6_⟩ := HNe.out
        clear mk1 mk2
        go_wp2_with fail
        go_region
        go_wp2_with fail
        go_roundw
        case rel => exact ⟨v + 1, by omega, by go_num, Lib.hid (HRv.out.high (by have := HCz.out; omega) hgl _ _).drew, Lib.hid (by
          rw [← HSt.out]
          exact (HCv.out.set (v + 1) (xv + yv)).same rfl)⟩
        case measure => simp [intOf]; omega
      obtain rfl : v = n := by omega
      rw [HN1.out, Gh.ps_all, ← HN1.out] at HCv
      have b0 := HRv.out.box.cell 0
      have gc := HRv.out.gr.cell 2
      simp at b0 gc
      have HCl := Lib.hid (CloneI_own (Gh.tab n1 (Gh.sumF F)) (some ⟨C, 0, none⟩) n1 n1 wr (Gh.tab_len _ _) (by omega) HCv.out.sl)
      go_upto_region 14 with (go_at_call 57; refine HCl.out.mono ?_; clear HCl; rintro e w6 ⟨v6, rfl, hown6, hb6⟩; obtain ⟨X, cx, rfl, hX0⟩ := own_form hown6 (by omega); have HX6 := Lib.hid (show OL w6 wr.heap.size X n1 cx (Gh.tab n1 (Gh.sumF F)) from hown6); have HX0 := Lib.hid hX0; have HB6 := Lib.hid hb6; clear hown6 hX0 hb6 b0 gc)
      obtain ⟨wb, hwb⟩ : ∃ W, W = w6.alloc (.cells #[.slice (some ⟨X, 0, none⟩) n1 cx] 22) := ⟨_, rfl⟩
      obtain ⟨p5, hp5⟩ : ∃ q, q = w6.heap.size := ⟨_, rfl⟩
      have HBb := Lib.hid (show Below wr.heap.size wr wb from by rw [hwb]; exact bel_al HB6.out _)
      have HK5 := Lib.hid (show Blk wb p5 22 #[.slice (some ⟨X, 0, none⟩) n1 cx] from by rw [hwb, hp5]; exact Blk.new _ _ _)
      have HRb := Lib.hid (HRv.out.keep HBb.out)
      have HCb := Lib.hid (HCv.out.keep HBb.out)
      have hCl := HCv.out.lt.2
      have HXb := Lib.hid (show OL wb w.heap.size X n1 cx (Gh.tab n1 (Gh.sumF F)) from by rw [hwb]; exact (HX6.out.keep (bel_al (Below.refl _ _) _)).lower (by have := HCz.out; omega))
      have hXl := HX6.out.lt.2
      have HOr := Lib.hid (show C < X ∧ X < p5 ∧ p5 < wb.heap.size from ⟨by have := HX0.out; omega, by omega, by rw [hwb, hp5]; simp⟩)
      rw [← hwb, ← hp5]
      clear hwb hp5 HRv HCv HX6 HB6 HBb hCl hXl HX0
      go_cut [] from 84 to 103 (fun wx => ∃ N I : Nat, wb.heap.size ≤ N ∧ wb.heap.size ≤ I ∧ N ≠ I ∧ Hid (RG w g (.slice A v c) (.slice Bd k d) (.slice (some ⟨C, 0, none⟩) n1 n1) (.slice (some ⟨N, 0, none⟩) m2 m2) (.slice (some ⟨I, 0, none⟩) m2 m2) wx) ∧ Hid (OL wx w.heap.size N m2 m2 (List.replicate m2 0)) ∧ Hid (OL wx w.heap.size I m2 m2 (List.replicate m2 0)) ∧ Hid (Asd g wb wx))
      case first =>
        have b0 := HRb.out.box.cell 0
        have gb := HRb.out.gr.cell 1
        have g3 := HRb.out.gr.cell 3
        have g4 := HRb.out.gr.cell 4
        have f3 := HRb.out.gr.frozen 3
        have f4 := HRb.out.gr.frozen 4
        have hgb := HRb.out.gr.lt
        have hpb := HRb.out.box.lt
        simp at b0 gb g3 g4
        have hgz : g ≠ wb.heap.size := by omega
        have hgz1 : g ≠ wb.heap.size + 1 := by omega
        have hzg : wb.heap.size ≠ g := by omega
        have hzg1 : wb.heap.size + 1 ≠ g := by omega
        obtain ⟨n1_, n2_, n3_, n4_, n5_, n6_⟩ := HNe.out
        go_region
        all_goals (
          go_wp2_with fail
          go_meet
          obtain ⟨t1, t2, t3, t4⟩ := two_made HRb.out HNe.out.2.2.2.2.2 (by omega) m2 (by omega) (.slice (some ⟨wb.heap.size, 0, none⟩) m2 m2) (.slice (some ⟨wb.heap.size + 1, 0, none⟩) m2 m2)
          obtain ⟨u1, u2, u3, u4⟩ := two_made HRb.out HNe.out.2.2.2.2.2 (by omega) m2 (by omega) (.slice (some ⟨wb.heap.size + 1, 0, none⟩) m2 m2) (.slice (some ⟨wb.heap.size, 0, none⟩) m2 m2)
          first
            | exact ⟨wb.heap.size, wb.heap.size + 1, Nat.le_refl _, Nat.le_succ _, by omega, Lib.hid t1, Lib.hid t2, Lib.hid t3, Lib.hid t4⟩
            | exact ⟨wb.heap.size + 1, wb.heap.size, Nat.le_succ _, Nat.le_refl _, by omega, Lib.hid u1, Lib.hid u3, Lib.hid u2, Lib.hid u4⟩)
      case rest =>
      obtain ⟨N, I, hNw, hIw, hNI, HRc, HNc, HIc, HAc⟩ := hcut
      have hgb := HRb.out.gr.lt
      have hpb := HRb.out.box.lt
      have HXc := Lib.hid (HXb.out.same (HAc.out.2 X (by have := HOr.out; have := HCz.out; omega) (by have := HOr.out; omega)))
      have HCc := Lib.hid (HCb.out.same (HAc.out.2 C (by have := HCz.out; omega) (by have := HOr.out; omega)))
      have HPc := Lib.hid (HAc.out.blk HK5.out (by have := HOr.out; have := HCz.out; omega))
      have HDi := Lib.hid (show N ≠ I ∧ N ≠ X ∧ I ≠ X ∧ w.heap.size ≠ N ∧ w.heap.size ≠ I ∧ p5 ≠ N ∧ p5 ≠ I ∧ g ≠ N ∧ g ≠ I ∧ w.heap.size < N ∧ w.heap.size < I ∧ w.heap.size < X ∧ C ≠ N ∧ C ≠ I ∧ C ≠ X ∧ p5 ≠ X from by
        have h1 := HOr.out
        have h2 := HCz.out
        refine ⟨hNI, ?_, ?_, ?_, ?_, ?_, ?_, ?_, ?_, ?_, ?_, ?_, ?_, ?_, ?_, ?_⟩ <;> omega)
      have HXs := Lib.hid (show OL wc w.heap.size X n1 cx (Gh.tab n1 (Gh.nx1 F 0)) from by have h := HXc.out; rw [HN1.out, Gh.nx1_zero, ← HN1.out] at h; exact h)
      clear HXc HAc HRb HCb HXb HK5 hNI mk1 mk2
      have b0 := HRc.out.box.cell 0
      have gb := HRc.out.gr.cell 1
      simp at b0 gb
      go_wp2_with fail
      go_loopw [110] (fun jv wr => ∃ (j : Nat) (ns is : List Int), j ≤ k ∧ jv = .int .i64 (j : Int) ∧ Hid (RG w g (.slice A v c) (.slice Bd k d) (.slice (some ⟨C, 0, none⟩) n1 n1) (.slice (some ⟨N, 0, none⟩) m2 m2) (.slice (some ⟨I, 0, none⟩) m2 m2) wr) ∧ Hid (OL wr w.heap.size N m2 m2 ns) ∧ Hid (OL wr w.heap.size I m2 m2 is) ∧ Hid (OL wr w.heap.size X n1 cx (Gh.tab n1 (Gh.nx1 F j))) ∧ Hid (OL wr w.heap.size C n1 n1 (Gh.tab n1 (Gh.sumF F))) ∧ Hid (Blk wr p5 22 #[.slice (some ⟨X, 0, none⟩) n1 cx])) (fun jv _ => k - (intOf jv).toNat)
      case atStart => exact ⟨0, _, _, Nat.zero_le _, rfl, HRc, HNc, HIc, HXs, HCc, HPc⟩
      case round =>
        obtain ⟨j, ns, is, hj, rfl, HRj, HNj, HIj, HXj, HCj, HPj⟩ := hrel
        clear HRc HNc HIc HXs HCc HPc
        by_cases hjt : j < k
        · have hjt' : (j : Int) < (k : Int) := by omega
          obtain ⟨⟨x, y⟩, he⟩ : ∃ e, F[j]? = some e := ⟨_, List.getElem?_eq_getElem (by rw [HM.out]; exact hjt)⟩
          have ho := HF.out _ (List.mem_of_getElem? he)
          obtain ⟨b1, o1, hBB, e0, e1⟩ := (HT.out.asd HRj.out.asd HBd.out).edge hjt he
          subst hBB
          simp only at e0 e1
          obtain ⟨p0, p1, p2⟩ := ho
          simp only at p0 p1 p2
          obtain ⟨a, rfl⟩ := Int.eq_ofNat_of_zero_le p0
          obtain ⟨b, rfl⟩ := Int.eq_ofNat_of_zero_le (show 0 ≤ y by omega)
          have HSt := Lib.hid (show (Gh.tab n1 (Gh.nx1 F j)).set b (Gh.nx1 F j b + 1) = Gh.tab n1 (Gh.nx1 F (j + 1)) from by rw [HN1.out]; exact Gh.nx1_step he)
          have hroom := Gh.nx1_room HF.out he
          rw [HM.out, ← HM2.out] at hroom
          obtain ⟨z, hz⟩ : ∃ z, z = Pt.degs F b + Gh.endsN (F.take j) ((b : Nat) : Int) := ⟨_, rfl⟩
          have HZ := Lib.hid (show Gh.nx1 F j b = ((z : Nat) : Int) from by rw [hz]; rfl)
          rw [← hz] at hroom
          clear hz he
          have hvn : b < n1 := by have := HN1.out; omega
          have HGx := Lib.hid (show (Gh.tab n1 (Gh.nx1 F j))[b]? = some ((z : Nat) : Int) from by rw [Gh.tab_get _ hvn, HZ.out])
          rw [HZ.out] at HSt
          go_upto_region 19 with (fail)
          obtain ⟨we, hwe⟩ : ∃ W, W = wr.alloc (.cells #[.int .i64 (a : Int), .int .i64 (b : Int)] 76) := ⟨_, rfl⟩
          obtain ⟨q, hq⟩ : ∃ q, q = wr.heap.size := ⟨_, rfl⟩
          have HBe := Lib.hid (show Below wr.heap.size wr we from by rw [hwe]; exact bel_al (Below.refl _ _) _)
          have HKe := Lib.hid (show Blk we q 76 #[.int .i64 (a : Int), .int .i64 (b : Int)] from by rw [hwe, hq]; exact Blk.new _ _ _)
          have HRe := Lib.hid (HRj.out.keep HBe.out)
          have HNe_ := Lib.hid (HNj.out.keep HBe.out)
          have HIe := Lib.hid (HIj.out.keep HBe.out)
          have HXe := Lib.hid (HXj.out.keep HBe.out)
          have HCe := Lib.hid (HCj.out.keep HBe.out)
          have HPe := Lib.hid (HPj.out.keep HBe.out)
          rw [← hwe, ← hq]
          clear hwe hq HRj HNj HIj HXj HCj HPj e0 e1
          have q0 := HKe.out.cell 0
          have q1 := HKe.out.cell 1
          simp at q0 q1
          have HPu := Lib.hid (put_any g w.heap.size p5 N I X m2 n1 cx w.heap.size b a j z (.slice A v c) (.slice (some ⟨b1, o1, none⟩) k d) (.slice (some ⟨C, 0, none⟩) n1 n1) ns is (Gh.tab n1 (Gh.nx1 F j)) we (HRe.out.box.cell 0) (HPe.out.cell 0) HRe.out.gr HNe_.out HIe.out HXe.out hvn HGx.out hroom (by omega) HDi.out.1 HDi.out.2.1 HDi.out.2.2.1 HDi.out.2.2.2.1 HDi.out.2.2.2.2.1 HDi.out.2.2.2.2.2.1 HDi.out.2.2.2.2.2.2.1 HDi.out.2.2.2.2.2.2.2.1 HDi.out.2.2.2.2.2.2.2.2.1)
          go_wp2_with (go_at_call 86; refine HPu.out.mono ?_; clear HPu; rintro e w7 ⟨rfl, hn7, hi7, hx7, hs7, hb7⟩; have HN7 := Lib.hid hn7; have HI7 := Lib.hid hi7; have HX7 := Lib.hid hx7; have HS7 := Lib.hid hs7; have HB7 := Lib.hid hb7; clear hn7 hi7 hx7 hs7 hb7)
          go_roundw
          case rel => exact ⟨j + 1, _, _, by omega, by go_num, Lib.hid (HRe.out.put HS7.out HB7.out hgl HDi.out.2.2.2.2.2.2.2.2.2.1 HDi.out.2.2.2.2.2.2.2.2.2.2.1 HDi.out.2.2.2.2.2.2.2.2.2.2.2.1), HN7, HI7, by rw [← HSt.out]; exact HX7, Lib.hid (HCe.out.same (HS7.out C HDi.out.2.2.2.2.2.2.2.2.2.2.2.2.1 HDi.out.2.2.2.2.2.2.2.2.2.2.2.2.2.1 HDi.out.2.2.2.2.2.2.2.2.2.2.2.2.2.2.1)), Lib.hid ((HS7.out p5 HDi.out.2.2.2.2.2.1 HDi.out.2.2.2.2.2.2.1 HDi.out.2.2.2.2.2.2.2.2.2.2.2.2.2.2.2).trans HPe.out)⟩
          case measure => simp [intOf]; omega
        obtain rfl : k = j := by omega
        rw [HN1.out, Gh.nx1_all k (Nat.le_of_eq HM.out), ← HN1.out] at HXj
        have b0 := HRj.out.box.cell 0
        have gb := HRj.out.gr.cell 1
        simp at b0 gb
        have HRl := HRj
        have HNl := HNj
        have HIl := HIj
        have HXl := HXj
        have HCl := HCj
        have HPl := HPj
        clear HRj HNj HIj HXj HCj HPj
        obtain ⟨nsl, hnsl⟩ : ∃ l, l = ns := ⟨_, rfl⟩
        obtain ⟨isl, hisl⟩ : ∃ l, l = is := ⟨_, rfl⟩
        rw [← hnsl] at HNl
        rw [← hisl] at HIl
        go_wp2_with fail
        go_loopw [128] (fun jv wr => ∃ (j : Nat) (ns is : List Int), j ≤ k ∧ jv = .int .i64 (j : Int) ∧ Hid (RG w g (.slice A v c) (.slice Bd k d) (.slice (some ⟨C, 0, none⟩) n1 n1) (.slice (some ⟨N, 0, none⟩) m2 m2) (.slice (some ⟨I, 0, none⟩) m2 m2) wr) ∧ Hid (OL wr w.heap.size N m2 m2 ns) ∧ Hid (OL wr w.heap.size I m2 m2 is) ∧ Hid (OL wr w.heap.size X n1 cx (Gh.tab n1 (Gh.nx2 F j))) ∧ Hid (OL wr w.heap.size C n1 n1 (Gh.tab n1 (Gh.sumF F))) ∧ Hid (Blk wr p5 22 #[.slice (some ⟨X, 0, none⟩) n1 cx])) (fun jv _ => k - (intOf jv).toNat)
        case atStart => exact ⟨0, nsl, isl, Nat.zero_le _, rfl, HRl, HNl, HIl, HXl, HCl, HPl⟩
        case round =>
          obtain ⟨j, ns, is, hj, rfl, HRj, HNj, HIj, HXj, HCj, HPj⟩ := hrel
          clear HRl HNl HIl HXl HCl HPl
          by_cases hjt : j < k
          · have hjt' : (j : Int) < (k : Int) := by omega
            obtain ⟨⟨x, y⟩, he⟩ : ∃ e, F[j]? = some e := ⟨_, List.getElem?_eq_getElem (by rw [HM.out]; exact hjt)⟩
            have ho := HF.out _ (List.mem_of_getElem? he)
            obtain ⟨b1, o1, hBB, e0, e1⟩ := (HT.out.asd HRj.out.asd HBd.out).edge hjt he
            subst hBB
            simp only at e0 e1
            obtain ⟨p0, p1, p2⟩ := ho
            simp only at p0 p1 p2
            obtain ⟨a, rfl⟩ := Int.eq_ofNat_of_zero_le p0
            obtain ⟨b, rfl⟩ := Int.eq_ofNat_of_zero_le (show 0 ≤ y by omega)
            have HSt := Lib.hid (show (Gh.tab n1 (Gh.nx2 F j)).set a (Gh.nx2 F j a + 1) = Gh.tab n1 (Gh.nx2 F (j + 1)) from by rw [HN1.out]; exact Gh.nx2_step he)
            have hroom := Gh.nx2_room HF.out he
            rw [HM.out, ← HM2.out] at hroom
            obtain ⟨z, hz⟩ : ∃ z, z = Pt.degs F a + Gh.endsN F ((a : Nat) : Int) + Gh.begsN (F.take j) ((a : Nat) : Int) := ⟨_, rfl⟩
            have HZ := Lib.hid (show Gh.nx2 F j a = ((z : Nat) : Int) from by rw [hz]; rfl)
            rw [← hz] at hroom
            clear hz he
            have hvn : a < n1 := by have := HN1.out; omega
            have HGx := Lib.hid (show (Gh.tab n1 (Gh.nx2 F j))[a]? = some ((z : Nat) : Int) from by rw [Gh.tab_get _ hvn, HZ.out])
            rw [HZ.out] at HSt
            go_upto_region 24 with (fail)
            obtain ⟨we, hwe⟩ : ∃ W, W = wr.alloc (.cells #[.int .i64 (a : Int), .int .i64 (b : Int)] 76) := ⟨_, rfl⟩
            obtain ⟨q, hq⟩ : ∃ q, q = wr.heap.size := ⟨_, rfl⟩
            have HBe := Lib.hid (show Below wr.heap.size wr we from by rw [hwe]; exact bel_al (Below.refl _ _) _)
            have HKe := Lib.hid (show Blk we q 76 #[.int .i64 (a : Int), .int .i64 (b : Int)] from by rw [hwe, hq]; exact Blk.new _ _ _)
            have HRe := Lib.hid (HRj.out.keep HBe.out)
            have HNe_ := Lib.hid (HNj.out.keep HBe.out)
            have HIe := Lib.hid (HIj.out.keep HBe.out)
            have HXe := Lib.hid (HXj.out.keep HBe.out)
            have HCe := Lib.hid (HCj.out.keep HBe.out)
            have HPe := Lib.hid (HPj.out.keep HBe.out)
            rw [← hwe, ← hq]
            clear hwe hq HRj HNj HIj HXj HCj HPj e0 e1
            have q0 := HKe.out.cell 0
            have q1 := HKe.out.cell 1
            simp at q0 q1
            have HPu := Lib.hid (put_any g w.heap.size p5 N I X m2 n1 cx w.heap.size a b j z (.slice A v c) (.slice (some ⟨b1, o1, none⟩) k d) (.slice (some ⟨C, 0, none⟩) n1 n1) ns is (Gh.tab n1 (Gh.nx2 F j)) we (HRe.out.box.cell 0) (HPe.out.cell 0) HRe.out.gr HNe_.out HIe.out HXe.out hvn HGx.out hroom (by omega) HDi.out.1 HDi.out.2.1 HDi.out.2.2.1 HDi.out.2.2.2.1 HDi.out.2.2.2.2.1 HDi.out.2.2.2.2.2.1 HDi.out.2.2.2.2.2.2.1 HDi.out.2.2.2.2.2.2.2.1 HDi.out.2.2.2.2.2.2.2.2.1)
            go_wp2_with (go_at_call 86; refine HPu.out.mono ?_; clear HPu; rintro e w7 ⟨rfl, hn7, hi7, hx7, hs7, hb7⟩; have HN7 := Lib.hid hn7; have HI7 := Lib.hid hi7; have HX7 := Lib.hid hx7; have HS7 := Lib.hid hs7; have HB7 := Lib.hid hb7; clear hn7 hi7 hx7 hs7 hb7)
            go_roundw
            case rel => exact ⟨j + 1, _, _, by omega, by go_num, Lib.hid (HRe.out.put HS7.out HB7.out hgl HDi.out.2.2.2.2.2.2.2.2.2.1 HDi.out.2.2.2.2.2.2.2.2.2.2.1 HDi.out.2.2.2.2.2.2.2.2.2.2.2.1), HN7, HI7, by rw [← HSt.out]; exact HX7, Lib.hid (HCe.out.same (HS7.out C HDi.out.2.2.2.2.2.2.2.2.2.2.2.2.1 HDi.out.2.2.2.2.2.2.2.2.2.2.2.2.2.1 HDi.out.2.2.2.2.2.2.2.2.2.2.2.2.2.2.1)), Lib.hid ((HS7.out p5 HDi.out.2.2.2.2.2.1 HDi.out.2.2.2.2.2.2.1 HDi.out.2.2.2.2.2.2.2.2.2.2.2.2.2.2.2).trans HPe.out)⟩
            case measure => simp [intOf]; omega
          obtain rfl : k = j := by omega
          go_wp2_with fail
          go_end0
          refine ⟨rfl, C, N, I, ?_, HCj.out.sl, ⟨ns, HNj.out.sl⟩, ⟨is, HIj.out.sl⟩, HRj.out.asd, HRj.out.bel⟩
          exact HRj.out.gr
end Go.Proofs.YtbbmgcdocolakaaGreatDoor
