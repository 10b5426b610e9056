/-
  Part 8 of the proof of LoadBytes: WrB, PatY, PatV, RdU, PatI, SrtE, PermC, PatG, PatW, ConP.
-/
import Derived.Test.YtbbmgcdocolakaaGreatDoorLoadBytesM6
import Derived.WalkSpells
import Derived.BigQuiet
import Derived.Test.YtbbmgcdocolakaaGreatDoorLoadBytesM3
import Derived.Test.YtbbmgcdocolakaaGreatDoorLoadBytesM7
import Derived.Shelf.Spec.SlicesInsert
import Derived.Lib.AppendZerosOnto
import Derived.Lib.AppendZeros
import Derived.Lib.Overlaps
import Derived.Laws.CopyRow
import Derived.Deep.RegionLaw
import Derived.Shelf.SlSortCmp.WholeK
import Derived.Sort.OwnSortedInts
import Derived.Test.YtbbmgcdocolakaaGreatDoorLoadBytesM2
set_option linter.unusedVariables false
/-
  Contracts of wire.Writer: Bytes; bytes.Clone.
-/
namespace Go.Proofs.YtbbmgcdocolakaaGreatDoor
open Go.RowKit
set_option maxRecDepth 100000
set_option linter.unusedVariables false

set_option maxHeartbeats 2000000 in
theorem Clone_any (l : List Int) (A : Option Addr) (n c : Nat) (w : World) (hl : l.length = n) (hn : n ≤ 1099511627776) (hs : Sl w 1 A n (l.map (Value.int .u8))) :
    Calls Tryz.prog 79 #[.slice A n c] w fun e w' => ∃ C k, e = .returned (.slice C n k) ∧ Sl w' 1 C n (l.map (Value.int .u8)) ∧ (n ≤ k ∧ k ≤ 9223372036854775807) ∧ Below w.heap.size w w' := by
  have nn := fun (w : World) (a : Option Addr) (n c : Nat) => Lib.run_eql_slice_nil (P := Tryz.prog) w 42 5 a n c 0 0 Tryz.underlying42
  have HS := Lib.hid hs
  go_enter Tryz.func79, Tryz.ntmps79
  rcases A with _ | A
  · have hn0 : n = 0 := by
      rcases Nat.eq_zero_or_pos n with h | h
      · exact h
      · obtain ⟨_, _, h, _⟩ := hs.2 h; cases h
    subst hn0
    clear hs
    go_wp2_with fail
    go_ret
    exact ⟨none, 0, rfl, HS.out, by omega, Below.refl _ _⟩
  · have hbA := bel_al (Below.refl w.heap.size w) (.cells #[] 5)
    have HOE := Lib.hid (World.ownsRow_made (e := 5) (size := 1) w #[] 0 (Nat.le_refl _) (Nat.zero_le _) rfl)
    have HBA := Lib.hid hbA
    have SPA := Lib.hid (HS.out.keep hbA)
    clear hs hbA
    go_wp2_with (at_builtin; refine wpList_cat_at elemByte _ _ rfl rfl HOE.out HBA.out.size SPA.out rfl rfl (one_u8 _) (by unfold lim; omega) (by unfold lim; omega) ?_; intro v8 w8 hown8 hg8; have HO8 := Lib.hid hown8; have HB8 := Lib.hid (HBA.out.trans (hg8.belowOwn HBA.out.size HOE.out)); clear hown8 hg8 HOE HBA SPA)
    go_ret
    have hown := HO8.out
    rw [List.nil_append, Nat.zero_add] at hown
    obtain ⟨C, k, rfl, hsl⟩ := Sl.own hown
    exact ⟨C, k, rfl, hsl, own_cap hown, HB8.out⟩

theorem Bytes_any (g B : Nat) (st : St) (w : World) (hW : Wr w B g st.1 st.2) (hl : st.1.length ≤ 1099511627776) :
    Calls Tryz.prog 46 #[.pointer (some ⟨g, 0, none⟩)] w fun e w' => ∃ C k, e = .returned (.slice C st.1.length k) ∧ Sl w' 1 C st.1.length (st.1.map (Value.int .u8)) ∧ (st.1.length ≤ k ∧ k ≤ 9223372036854775807) ∧ Below w.heap.size w w' := by
  obtain ⟨hBg, hE, bv, ev, hb, hown, he⟩ := hW
  have hc0 := hb.cell 0
  simp at hc0
  obtain ⟨A0, n0, rfl, hsl0⟩ := Sl.own hown
  have HC := Lib.hid (Clone_any st.1 A0 st.1.length n0 w rfl hl hsl0)
  clear hb hown he hsl0
  go_enter Tryz.func46, Tryz.ntmps46
  go_wp2_with fail
  refine HC.out.mono ?_
  rintro e w1 ⟨C, k, rfl, hs1, hk1, hb1⟩
  have HS1 := Lib.hid hs1
  clear hs1 HC
  go_wp2_with fail
  go_ret
  exact ⟨_, _, rfl, HS1.out, hk1, hb1⟩
end Go.Proofs.YtbbmgcdocolakaaGreatDoor
/-
  A pattern's bytes.
-/
namespace Go.Proofs.YtbbmgcdocolakaaGreatDoor
open Go.RowKit
set_option maxRecDepth 100000
set_option linter.unusedVariables false

def endsL (E : List (Int × Int)) : List Int := E.flatMap fun e => [e.1, e.2]
theorem endsL_len (E : List (Int × Int)) : (endsL E).length = 2 * E.length := by
  unfold endsL
  induction E with
  | nil => rfl
  | cons e E ih => rw [List.flatMap_cons, List.length_append, ih, List.length_cons]; simp; omega
theorem endsL_snoc (E : List (Int × Int)) (e : Int × Int) : endsL (E ++ [e]) = endsL E ++ [e.1, e.2] := by unfold endsL; rw [List.flatMap_append]; rfl
/-- A pattern in bytes. -/
def bytesP (L : List Int) (E : List (Int × Int)) : List Int := encW L ++ encW (endsL E)

end Go.Proofs.YtbbmgcdocolakaaGreatDoor
/-
  A pattern's bytes plainly: there and back.
-/
namespace Go.Proofs.YtbbmgcdocolakaaGreatDoor
open Go.RowKit
set_option linter.unusedVariables false

/-- Numbers by twos. -/
def pairsL : List Int → List (Int × Int)
  | a :: b :: r => (a, b) :: pairsL r
  | _ => []
theorem ends_pairs : ∀ (l : List Int), l.length % 2 = 0 → endsL (pairsL l) = l
  | [], _ => rfl
  | [_], h => by simp at h
  | a :: b :: r, h => by
    have e : endsL (pairsL (a :: b :: r)) = a :: b :: endsL (pairsL r) := rfl
    rw [e, ends_pairs r (by simp only [List.length_cons] at h; omega)]
theorem pairs_ends : ∀ (E : List (Int × Int)), pairsL (endsL E) = E
  | [] => rfl
  | e :: E => by
    have h : endsL (e :: E) = e.1 :: e.2 :: endsL E := rfl
    rw [h, pairsL, pairs_ends E]
theorem pairs_len : ∀ (l : List Int), (pairsL l).length = l.length / 2
  | [] => rfl
  | [_] => by simp [pairsL]
  | a :: b :: r => by
    rw [pairsL, List.length_cons, pairs_len r, List.length_cons, List.length_cons]
    omega
/-- What has been read is the bytes. -/
theorem bytesP_read {l : List Int} (hb : Bys l) {m : Nat} (h1 : okAt l 0 m) (h2 : okAt l (nxtA l 0) m) (he : nxtA l (nxtA l 0) = l.length) (hev : (lst l (nxtA l 0)).length % 2 = 0) : bytesP (lst l 0) (pairsL (lst l (nxtA l 0))) = l := by
  have e1 := enc_lst hb h1
  have e2 := enc_lst hb h2
  rw [he, List.take_of_length_le (Nat.le_refl _), e1, List.take_zero, List.nil_append] at e2
  unfold bytesP
  rw [ends_pairs _ hev]
  exact e2.symm
/-- The bytes of a pattern are read as it. -/
theorem bytesP_back {L : List Int} {E : List (Int × Int)} {l : List Int} (hl : l = bytesP L E) (hL : ∀ x ∈ L, fits x) (hE : ∀ e ∈ E, fits e.1 ∧ fits e.2) (hn : L.length ≤ 100000) (hm : E.length ≤ 100000) :
    okAt l 0 l.length ∧ lst l 0 = L ∧ okAt l (nxtA l 0) l.length ∧ lst l (nxtA l 0) = endsL E ∧ nxtA l (nxtA l 0) = l.length := by
  have hef : ∀ z ∈ endsL E, fits z := fun z hz => by
    obtain ⟨e, he, h⟩ := List.mem_flatMap.1 hz
    rcases List.mem_cons.1 h with rfl | h
    · exact (hE e he).1
    · rw [List.mem_singleton.1 h]
      exact (hE e he).2
  have hel : (endsL E).length = 2 * E.length := endsL_len E
  have hlen : l.length = (4 + 4 * L.length) + (4 + 4 * (2 * E.length)) := by rw [hl, bytesP, List.length_append, encW_len, encW_len, hel]
  have r1 : l = [] ++ (encW L ++ encW (endsL E)) := by rw [hl, List.nil_append]; rfl
  have r2 : l = encW L ++ (encW (endsL E) ++ []) := by rw [hl, List.append_nil]; rfl
  obtain ⟨a1, a2, a3⟩ := lst_enc hL (by omega) [] _ r1
  have o1 := ok_enc hL (m := l.length) (by omega) (by omega) [] _ r1
  rw [List.nil_append] at a3
  have b0 : nxtA l 0 = (encW L).length := a3
  obtain ⟨b1, b2, b3⟩ := lst_enc hef (by omega) (encW L) _ r2
  have o2 := ok_enc hef (m := l.length) (by omega) (by omega) (encW L) _ r2
  rw [← b0] at b2 b3 o2
  exact ⟨o1, a2, o2, b2, by rw [b3, List.length_append, encW_len, encW_len, hel, hlen]⟩
end Go.Proofs.YtbbmgcdocolakaaGreatDoor
/-
  The reader's List in one word; numbers by twos.
-/
namespace Go.Proofs.YtbbmgcdocolakaaGreatDoor
open Go.RowKit
set_option maxRecDepth 100000
set_option linter.unusedVariables false

/-- List, whatever the bytes are, in one word. -/
theorem List_uni (g B : Nat) (A : Option Addr) (n c a most : Nat) (E : Err) (l : List Int) (w : World) (hR : Rd w B g A n c a E) (hE : E = .nil ∨ rdBad E) (hn : n ≤ 1099511627776) (hnc : n ≤ c) (hc9 : c ≤ 9223372036854775807) (hl : l.length = n) (hb : Bys l) (hB : ∀ w', Below B w w' → Sl w' 1 A n (l.map (Value.int .u8))) :
    Calls Tryz.prog 71 #[.pointer (some ⟨g, 0, none⟩), .int .i64 (most : Int)] w fun e w' => ∃ v xs a' E', e = .returned v ∧ w'.ownsRow w.heap.size 3 1 v xs.length (xs.map (Value.int .i64)) ∧ Below B w w' ∧ Asd g w w' ∧ Rd w' B g A n c a' E' ∧ (E' = .nil ∨ rdBad E') ∧ (E' = .nil → E = .nil ∧ okAt l a most ∧ xs = lst l a ∧ a' = nxtA l a) ∧ (E = .nil → okAt l a most → E' = .nil) := by
  refine (List_rd g B A n c a most E l w hR hE hn hnc hc9 hl hb hB).mono fun e w' ⟨v, xs, h1, h2, h3, h4, h5⟩ => ?_
  rcases h5 with ⟨k1, k2, k3, k4⟩ | ⟨k1, k2, a', E', k3, k4⟩
  · exact ⟨v, xs, _, .nil, h1, h2, h3, h4, k4, .inl rfl, fun _ => ⟨k1, k2, k3, rfl⟩, fun _ _ => rfl⟩
  · exact ⟨v, xs, a', E', h1, h2, h3, h4, k4, .inr k3, fun e => absurd e k3.ne, fun e1 e2 => absurd e2 (k2 e1)⟩
theorem lst_fits {l : List Int} (hb : Bys l) (a : Nat) : ∀ x ∈ lst l a, fits x := by
  unfold lst
  generalize wordN (l.drop a) = N
  have hb2 := hb.drop (a + 4)
  generalize l.drop (a + 4) = r at hb2 ⊢
  induction N with
  | zero => intro x hx; simp [wordsL] at hx
  | succ N ih =>
    intro x hx
    rw [wordsL] at hx
    rcases List.mem_append.1 hx with h | h
    · exact ih x h
    · rw [List.mem_singleton.1 h]
      have := wordN_lt (hb2.drop (4 * N))
      unfold fits
      omega
theorem pairs_take {xs : List Int} {j : Nat} {x y : Int} (hx : xs[2 * j]? = some x) (hy : xs[2 * j + 1]? = some y) : (pairsL xs)[j]? = some (x, y) := by
  induction j generalizing xs with
  | zero =>
    match xs, hx, hy with
    | a :: b :: r, hx, hy =>
      cases hx
      cases hy
      rfl
  | succ j ih =>
    match xs, hx, hy with
    | a :: b :: r, hx, hy =>
      rw [pairsL, List.getElem?_cons_succ]
      refine ih ?_ ?_
      · rw [show 2 * (j + 1) = 2 * j + 1 + 1 by omega] at hx
        simpa using hx
      · rw [show 2 * (j + 1) + 1 = 2 * j + 1 + 1 + 1 by omega] at hy
        simpa using hy
theorem Sl.newE (w : World) (x y : Value) (e : TypeId) : Sl (w.alloc (.cells #[x, y] e)) 2 (some ⟨w.heap.size, 0, none⟩) 1 [x, y] :=
  ⟨rfl, fun _ => ⟨_, _, rfl, fun j u hu => by rw [Nat.zero_add, World.cell?_alloc_new]; simpa using hu⟩⟩
end Go.Proofs.YtbbmgcdocolakaaGreatDoor
/-
  slices.Insert of one edge into a row that the call owns.
-/
namespace Go.Proofs.YtbbmgcdocolakaaGreatDoor
open Go.RowKit Go.Proofs
attribute [local go_sem ↓] Go.wp_at_zero Go.wp_at_succ
set_option maxRecDepth 100000
set_option linter.unusedVariables false

/-- copy of elements of s cells each. -/
theorem run_copy_rowS {P : Program} (s : Nat) (w : World) (dT sT ty elem : TypeId) (g o dLen dCap : Nat) (a : Addr) (sLen sCap : Nat) (cur : Array Value) (t : TypeId) (cs : List Value)
    (hu : P.underlying dT = some (.slice elem)) (hs : (P.info? elem).map (·.size) = some s)
    (hg : w.heap[g]? = some (.cells cur t (0, 0))) (hn : cs.length = Nat.min sLen dLen * s)
    (hsrc : ∀ j v, cs[j]? = some v → w.cell? (a.add j) = some v) (hfit : o + cs.length ≤ cur.size) (h1 : ∀ v ∈ cs, v.oneCell' = true) :
    (Builtin.copy_ #[dT, sT] ty #[.slice (some ⟨g, o, none⟩) dLen dCap, .slice (some a) sLen sCap]).run P w =
      .ok (goInt (Nat.min sLen dLen)) (w.setRow g (cur.toList.take o ++ cs ++ cur.toList.drop (o + cs.length)).toArray) := by
  have hl := run_loadCells_list (P := P) w a cs hsrc
  have hst := run_storeCells_at P g o t cs 0 cur w hg (by simpa using hfit) h1
  cases hq : P.info? elem with
  | none => simp [hq] at hs
  | some i =>
    have hi : i.size = s := by simpa [hq] using hs
    simp [Builtin.copy_, run_underlying hu, Builtin.lenOf, Builtin.firstCells, sizeOf, typeInfo, hq, hi, ← hn, hl, hst]

theorem splice_shift {α : Type} (X E Y Z : List α) (hZ : E.length ≤ Z.length) :
    ∃ T, (((X ++ Y ++ Z).take (X.length + E.length) ++ Y ++ (X ++ Y ++ Z).drop (X.length + E.length + Y.length)).take X.length ++ E ++ ((X ++ Y ++ Z).take (X.length + E.length) ++ Y ++ (X ++ Y ++ Z).drop (X.length + E.length + Y.length)).drop (X.length + E.length)) = X ++ E ++ Y ++ T := by
  obtain ⟨D, hD⟩ : ∃ D, D = (X ++ Y ++ Z).drop (X.length + E.length + Y.length) := ⟨_, rfl⟩
  rw [← hD]
  have h1 : ((X ++ Y ++ Z).take (X.length + E.length)).length = X.length + E.length := by
    rw [List.length_take, List.length_append, List.length_append]; omega
  have h2 : ((X ++ Y ++ Z).take (X.length + E.length)).take X.length = X := by
    rw [List.take_take, Nat.min_eq_left (by omega), List.append_assoc, List.take_left']
    rfl
  obtain ⟨Q, hQ⟩ : ∃ Q, Q = (X ++ Y ++ Z).take (X.length + E.length) := ⟨_, rfl⟩
  rw [← hQ] at h1 h2 ⊢
  have f1 : (Q ++ Y ++ D).take X.length = X := by rw [List.append_assoc, List.take_append_of_le_length (by omega), h2]
  have f2 : (Q ++ Y ++ D).drop (X.length + E.length) = Y ++ D := by rw [List.append_assoc]; exact List.drop_left' h1
  refine ⟨D, ?_⟩
  rw [f1, f2]
  simp
theorem splice_fresh {α : Type} (X E Y R : List α) (hR : E.length + Y.length ≤ R.length) :
    ∃ T, (((X ++ R).take X.length ++ E ++ (X ++ R).drop (X.length + E.length)).take (X.length + E.length) ++ Y ++ ((X ++ R).take X.length ++ E ++ (X ++ R).drop (X.length + E.length)).drop (X.length + E.length + Y.length)) = X ++ E ++ Y ++ T := by
  have h1 : (X ++ R).take X.length = X := List.take_left' rfl
  rw [h1]
  refine ⟨(X ++ E ++ (X ++ R).drop (X.length + E.length)).drop (X.length + E.length + Y.length), ?_⟩
  have h2 : (X ++ E ++ (X ++ R).drop (X.length + E.length)).take (X.length + E.length) = X ++ E := List.take_left' (by simp)
  rw [h2]
theorem cells_take (R : List (Int × Int)) (i : Nat) : (Rk.cells R).take (i * 2) = Rk.cells (R.take i) := by
  induction R generalizing i with
  | nil => simp [Rk.cells]
  | cons a R ih =>
    cases i with
    | zero => simp [Rk.cells]
    | succ i =>
      rw [show (i + 1) * 2 = i * 2 + 1 + 1 by omega]
      have := ih i
      simp only [Rk.cells, List.take_succ_cons, List.flatMap_cons] at this ⊢
      simp only [List.cons_append, List.nil_append, List.take_succ_cons, this]
theorem cells_append (R S : List (Int × Int)) : Rk.cells (R ++ S) = Rk.cells R ++ Rk.cells S := by simp [Rk.cells]
theorem cells_one (R : List (Int × Int)) : ∀ v ∈ Rk.cells R, v.oneCell' = true := by
  intro v hv
  unfold Rk.cells at hv
  obtain ⟨e, _, h⟩ := List.mem_flatMap.1 hv
  simp at h
  rcases h with rfl | rfl <;> rfl

theorem cells_drop (R : List (Int × Int)) (i : Nat) : Rk.cells R = (Rk.cells R).take (i * 2) ++ Rk.cells (R.drop i) := by
  conv => lhs; rw [← List.take_append_drop i R, cells_append]
  rw [cells_take]
/-- A row with an edge put in. -/
def insE (R : List (Int × Int)) (i : Nat) (e : Int × Int) : List (Int × Int) := R.take i ++ e :: R.drop i
theorem cells_ins (R : List (Int × Int)) (i : Nat) (e : Int × Int) : Rk.cells (insE R i e) = Rk.cells (R.take i) ++ [.int .i64 e.1, .int .i64 e.2] ++ Rk.cells (R.drop i) := by
  unfold insE
  rw [cells_append]
  simp [Rk.cells]
theorem ins_len (R : List (Int × Int)) (i : Nat) (e : Int × Int) : (insE R i e).length = R.length + 1 := by
  unfold insE
  rw [List.length_append, List.length_cons, List.length_take, List.length_drop]
  omega
theorem grownBy_setRow (w : World) (g : Nat) (cs : Array Value) : w.grownBy (w.setRow g cs) (some g) :=
  ⟨rfl, rfl, rfl, by simp [World.setRow], fun k _ hk => setRow_other w g k cs (fun e => hk (by rw [e]))⟩

theorem Gr.like {w w' : World} {v u v' : Value} (h : Gr w w' v v') (hu : u.ownBlock = v.ownBlock) : Gr w w' u v' := ⟨by rw [hu]; exact h.g, by rw [hu]; exact h.at_⟩
end Go.Proofs.YtbbmgcdocolakaaGreatDoor
/-
  slices.SortFunc of edges, by their order.
-/
namespace Go.Proofs.YtbbmgcdocolakaaGreatDoor
open Go.RowKit Go.Lib Go.Proofs
open Go.Sort hiding Below
attribute [local go_sem ↓] Go.wp_at_zero Go.wp_at_succ
set_option maxRecDepth 100000
set_option linter.unusedVariables false

def sortE_ren : Go.Shelf.Ren := ⟨fun | 6 => 60 | 14 => 82 | 15 => 83 | 20 => 100 | 21 => 101 | 22 => 102 | 23 => 103 | 24 => 104 | 25 => 105 | 26 => 106 | 27 => 107 | 28 => 108 | 29 => 109 | 46 => 125 | 47 => 126 | 48 => 127 | 49 => 128 | 50 => 129 | 57 => 139 | n => n, fun | 0 => 0 | 3 => 3 | 4 => 4 | 5 => 5 | 9 => 9 | 22 => 61 | 24 => 76 | 25 => 112 | 39 => 139 | 45 => 167 | 46 => 168 | 50 => 114 | 53 => 132 | 55 => 102 | 66 => 193 | 70 => 197 | 76 => 207 | 77 => 208 | n => n, fun | n => n⟩
theorem sortE_lays : Go.Proofs.SlLaysF0.n6 Tryz.prog sortE_ren := {
  mixed := by kernel_rfl
  f6 := ⟨Tryz.f60.name, by kernel_rfl, Tryz.func60.trans (congrArg some (by kernel_rfl))⟩
  f14 := ⟨Tryz.f82.name, by kernel_rfl, Tryz.func82.trans (congrArg some (by kernel_rfl))⟩
  f15 := Tryz.func83.trans (congrArg some (by kernel_rfl))
  f20 := ⟨Tryz.f100.name, by kernel_rfl, Tryz.func100.trans (congrArg some (by kernel_rfl))⟩
  f21 := ⟨Tryz.f101.name, by kernel_rfl, Tryz.func101.trans (congrArg some (by kernel_rfl))⟩
  f22 := ⟨Tryz.f102.name, by kernel_rfl, Tryz.func102.trans (congrArg some (by kernel_rfl))⟩
  f23 := ⟨Tryz.f103.name, by kernel_rfl, Tryz.func103.trans (congrArg some (by kernel_rfl))⟩
  f24 := ⟨Tryz.f104.name, by kernel_rfl, Tryz.func104.trans (congrArg some (by kernel_rfl))⟩
  f25 := ⟨Tryz.f105.name, by kernel_rfl, Tryz.func105.trans (congrArg some (by kernel_rfl))⟩
  f26 := ⟨Tryz.f106.name, by kernel_rfl, Tryz.func106.trans (congrArg some (by kernel_rfl))⟩
  f27 := ⟨Tryz.f107.name, by kernel_rfl, Tryz.func107.trans (congrArg some (by kernel_rfl))⟩
  f28 := Tryz.func108.trans (congrArg some (by kernel_rfl))
  f29 := Tryz.func109.trans (congrArg some (by kernel_rfl))
  f46 := ⟨Tryz.f125.name, by kernel_rfl, Tryz.func125.trans (congrArg some (by kernel_rfl))⟩
  f47 := Tryz.func126.trans (congrArg some (by kernel_rfl))
  f48 := Tryz.func127.trans (congrArg some (by kernel_rfl))
  f49 := ⟨Tryz.f128.name, by kernel_rfl, Tryz.func128.trans (congrArg some (by kernel_rfl))⟩
  f50 := ⟨Tryz.f129.name, by kernel_rfl, Tryz.func129.trans (congrArg some (by kernel_rfl))⟩
  f57 := ⟨Tryz.f139.name, by kernel_rfl, Tryz.func139.trans (congrArg some (by kernel_rfl))⟩
  t0 := Tryz.underlying0
  a0 := Tryz.isAgg0
  z0 := Tryz.sizeOf0
  v0 := Tryz.zeroValue0
  t3 := Tryz.underlying3
  a3 := Tryz.isAgg3
  z3 := Tryz.sizeOf3
  v3 := Tryz.zeroValue3
  t4 := Tryz.underlying4
  a4 := Tryz.isAgg4
  z4 := Tryz.sizeOf4
  v4 := Tryz.zeroValue4
  t5 := Tryz.underlying5
  a5 := Tryz.isAgg5
  z5 := Tryz.sizeOf5
  v5 := Tryz.zeroValue5
  t9 := Tryz.underlying9
  a9 := Tryz.isAgg9
  z9 := Tryz.sizeOf9
  v9 := Tryz.zeroValue9
  t22 := Tryz.underlying61
  a22 := Tryz.isAgg61
  z22 := Tryz.sizeOf61
  v22 := Tryz.zeroValue61
  t25 := Tryz.underlying112
  a25 := Tryz.isAgg112
  z25 := Tryz.sizeOf112
  v25 := Tryz.zeroValue112
  t39 := Tryz.underlying139
  a39 := Tryz.isAgg139
  z39 := Tryz.sizeOf139
  v39 := Tryz.zeroValue139
  t45 := Tryz.underlying167
  a45 := Tryz.isAgg167
  z45 := Tryz.sizeOf167
  v45 := Tryz.zeroValue167
  t46 := Tryz.underlying168
  a46 := Tryz.isAgg168
  z46 := Tryz.sizeOf168
  v46 := Tryz.zeroValue168
  t50 := Tryz.underlying114
  a50 := Tryz.isAgg114
  z50 := Tryz.sizeOf114
  v50 := Tryz.zeroValue114
  t53 := Tryz.underlying132
  a53 := Tryz.isAgg132
  z53 := Tryz.sizeOf132
  v53 := Tryz.zeroValue132
  t55 := Tryz.underlying102
  a55 := Tryz.isAgg102
  z55 := Tryz.sizeOf102
  v55 := Tryz.zeroValue102
  t66 := Tryz.underlying193
  a66 := Tryz.isAgg193
  z66 := Tryz.sizeOf193
  v66 := Tryz.zeroValue193
  t70 := Tryz.underlying197
  a70 := Tryz.isAgg197
  z70 := Tryz.sizeOf197
  v70 := Tryz.zeroValue197
  t76 := Tryz.underlying207
  a76 := Tryz.isAgg207
  z76 := Tryz.sizeOf207
  v76 := Tryz.zeroValue207
  t77 := Tryz.underlying208
  a77 := Tryz.isAgg208
  z77 := Tryz.sizeOf208
  v77 := Tryz.zeroValue208 }
/-- An edge's two cells. -/
def encE (e : Int × Int) : List Value := [.int .i64 e.1, .int .i64 e.2]
theorem cells_get : ∀ (E : List (Int × Int)) (j : Nat) (e : Int × Int), E[j]? = some e → (Rk.cells E)[j * 2]? = some (.int .i64 e.1) ∧ (Rk.cells E)[j * 2 + 1]? = some (.int .i64 e.2)
  | [], j, e, h => by simp at h
  | x :: r, 0, e, h => by
    simp only [List.getElem?_cons_zero, Option.some.injEq] at h
    subst h
    exact ⟨rfl, rfl⟩
  | x :: r, j + 1, e, h => by
    have ih := cells_get r j e (by simpa using h)
    have e1 : Rk.cells (x :: r) = .int .i64 x.1 :: .int .i64 x.2 :: Rk.cells r := rfl
    rw [e1, show (j + 1) * 2 = j * 2 + 1 + 1 by omega, List.getElem?_cons_succ, List.getElem?_cons_succ, List.getElem?_cons_succ, List.getElem?_cons_succ]
    exact ih
theorem cells_size : ∀ E : List (Int × Int), (Rk.cells E).length = E.length * 2
  | [] => rfl
  | x :: r => by
    have e1 : Rk.cells (x :: r) = .int .i64 x.1 :: .int .i64 x.2 :: Rk.cells r := rfl
    rw [e1, List.length_cons, List.length_cons, cells_size r, List.length_cons]
    omega
theorem flat_cells (E : List (Int × Int)) : flatK encE 2 E.toArray = (Rk.cells E).toArray := by
  refine ext_get! (by rw [size_flatK]; simp [cells_size]) fun t ht => ?_
  have ht' : t < E.length * 2 := by simpa using ht
  rw [get_flatK _ _ _ t (by simpa using ht')]
  obtain ⟨e, he⟩ : ∃ e, E[t / 2]? = some e := ⟨_, List.getElem?_eq_getElem (by omega)⟩
  obtain ⟨h1, h2⟩ := cells_get E (t / 2) e he
  have ea : E.toArray[t / 2]! = e := by
    rw [getElem!_def]
    simp [he]
  rw [ea]
  have hz := cells_size E
  rcases (show t % 2 = 0 ∨ t % 2 = 1 by omega) with h0 | h0
  · rw [show t / 2 * 2 = t by omega] at h1
    rw [h0, getElem!_def (Rk.cells E).toArray, List.getElem?_toArray, h1]
    rfl
  · rw [show t / 2 * 2 + 1 = t by omega] at h2
    rw [h0, getElem!_def (Rk.cells E).toArray, List.getElem?_toArray, h2]
    rfl
theorem holds_of_blockK {w : World} {g : Nat} {cur : Array Value} {e : TypeId} {xs : List Value} (hb : w.heap[g]? = some (.cells cur e (0, 0))) (ht : cur.toList.take xs.length = xs) : Holds id w g 0 xs.toArray := by
  intro j hj
  have hj' : j < xs.length := by simpa using hj
  refine ⟨?_, by simp [World.frozen?, hb]⟩
  have h1 : (cur.toList.take xs.length)[j]? = xs[j]? := by rw [ht]
  rw [List.getElem?_take_of_lt hj'] at h1
  simp only [World.cell?, hb, Nat.zero_add]
  simp only [Option.isSome_none, Bool.false_eq_true, if_false]
  rw [← Array.getElem?_toList, h1]
  simp [hj']
theorem heap_sortedK {w : World} {g n : Nat} {os : Array Obj} {cur : Array Value} {e : TypeId} {fr : Nat × Nat} (d : Array Value) (hb : w.heap[g]? = some (.cells cur e fr)) :
    (grow (putRow id (Sort.ahead w n) g 0 d) os).heap[g]? = some (.cells (putCells id 0 d cur) e fr) := by
  have hg : g < w.heap.size := (Array.getElem?_eq_some_iff.1 hb).1
  rw [heap_grow_old _ _ (by simpa using hg)]
  simp [putRow, mapBlock, Sort.ahead, Array.getElem?_modify, hb, onCells]
theorem grownBy_sortedK {w : World} {g n : Nat} {os : Array Obj} (d : Array Value) : w.grownBy (grow (putRow id (Sort.ahead w n) g 0 d) os) (some g) := by
  refine ⟨rfl, rfl, rfl, by simp, fun k hk hne => ?_⟩
  rw [heap_grow_old _ _ (by simpa using hk)]
  have : g ≠ k := fun e => hne (by rw [e])
  simp [putRow, mapBlock, Sort.ahead, Array.getElem?_modify, this]
theorem take_putCellsK (cur : Array Value) (ts : List Value) (h : ts.length ≤ cur.size) : (putCells id 0 ts.toArray cur).toList.take ts.length = ts := by
  apply List.ext_getElem?
  intro j
  by_cases hj : j < ts.length
  · rw [List.getElem?_take_of_lt hj, Array.getElem?_toList]
    simp [putCells, hj, show j < cur.size by omega]
  · rw [List.getElem?_take_eq_none (by omega), List.getElem?_eq_none (by omega)]
theorem ltE_swo : SWO (ltOf Pt.ordE) where
  irrefl x := by
    unfold ltOf
    rw [Pt.cp_edge.self x]
    decide
  trans x y z h1 h2 := by
    unfold ltOf at *
    simp only [decide_eq_true_eq] at *
    exact Pt.cp_edge.lt h1 (by omega)
  ntrans x y z h1 h2 := by
    unfold ltOf at *
    simp only [decide_eq_false_iff_not] at *
    have e1 := Pt.cp_edge.anti x y
    have e2 := Pt.cp_edge.anti y z
    have e3 := Pt.cp_edge.anti x z
    have := Pt.cp_edge.trans z y x (by omega) (by omega)
    omega
end Go.Proofs.YtbbmgcdocolakaaGreatDoor
/-
  Contracts: perm.Put, perm.Back, perm.Then.
-/
namespace Go.Proofs.YtbbmgcdocolakaaGreatDoor
open Go.RowKit
set_option maxRecDepth 100000

theorem putE_ok {p l : List Int} (h : Ord p) (hl : p.length = l.length) : putE p l = .nil := by rw [putE, if_pos h, if_pos hl]

def thenE (p q : List Int) : Err := if Ord p ∧ Ord q then if p.length = q.length then .nil else .flt 1 1 order else .flt 1 0 order
theorem map_take_succ {α β : Type} (f : α → β) (l : List α) (k : Nat) (hk : k < l.length) : (l.take (k + 1)).map f = (l.take k).map f ++ [f l[k]] := by
  rw [List.take_succ_eq_append_getElem hk, List.map_append]; rfl

end Go.Proofs.YtbbmgcdocolakaaGreatDoor
/-
  The document's labels, out, less of patterns.
-/
namespace Go.Proofs.YtbbmgcdocolakaaGreatDoor
open Go.RowKit
set_option maxRecDepth 100000
set_option linter.unusedVariables false

/-- The document's out: a vertex that there isn't. -/
def outP (x y n : Int) : Prop := x < 0 ∨ y < 0 ∨ n ≤ x ∨ n ≤ y
instance (x y n : Int) : Decidable (outP x y n) := by unfold outP; exact inferInstance
/-- The document's less. -/
def lessP (x y x' y' : Int) : Prop := x < x' ∨ (x = x' ∧ y < y')
instance (x y x' y' : Int) : Decidable (lessP x y x' y') := by unfold lessP; exact inferInstance
end Go.Proofs.YtbbmgcdocolakaaGreatDoor
/-
  Patterns plainly: the document's tests of an edge and the program's.
-/
namespace Go.Proofs.YtbbmgcdocolakaaGreatDoor
open Go.RowKit
set_option linter.unusedVariables false

theorem ordE_less (a b c d : Int) : Pt.ordE (a, b) (c, d) < 0 ↔ lessP a b c d := by
  unfold Pt.ordE Pt.or2 Pt.cmpI lessP
  simp only
  by_cases h1 : a < c
  · simp [h1]
  · by_cases h2 : c < a
    · simp [h1, h2]
      omega
    · have h3 : a = c := by omega
      by_cases h4 : b < d
      · simp [h3, h4]
      · by_cases h5 : d < b
        · simp [h3, h4, h5]
        · simp [h3, h4, h5]
theorem edge_out (n : Nat) (x y : Int) : Pt.EdgeOK n (x, y) ↔ ¬ outP x y n ∧ x < y := by
  unfold Pt.EdgeOK outP
  simp only
  omega
end Go.Proofs.YtbbmgcdocolakaaGreatDoor
/-
  Connectedness plainly: what can be come to from the first vertex; breadth first, and by bit masks.
-/
namespace Go.Proofs.YtbbmgcdocolakaaGreatDoor
open Go.RowKit
set_option linter.unusedVariables false

/-- What can be come to from vertex 0. -/
inductive Rch (E : List (Int × Int)) : Int → Prop
  | zero : Rch E 0
  | fwd {a b : Int} : (a, b) ∈ E → Rch E a → Rch E b
  | bwd {a b : Int} : (a, b) ∈ E → Rch E b → Rch E a
def AdjE (E : List (Int × Int)) (a b : Int) : Prop := (a, b) ∈ E ∨ (b, a) ∈ E
instance (E : List (Int × Int)) (a b : Int) : Decidable (AdjE E a b) := by unfold AdjE; exact inferInstance
theorem Rch.adj {E : List (Int × Int)} {a b : Int} (h : Rch E a) (k : AdjE E a b) : Rch E b := by
  rcases k with k | k
  · exact .fwd k h
  · exact .bwd k h
def allR (n : Nat) (E : List (Int × Int)) : Prop := ∀ v : Nat, v < n → Rch E (v : Int)
/-- A pattern is connected. -/
def connP (L : List Int) (E : List (Int × Int)) : Prop := rightP L E ∧ 0 < L.length ∧ allR L.length E
theorem sub_lenP {α : Type} : ∀ (a b : List α), a.Nodup → (∀ x ∈ a, x ∈ b) → a.length ≤ b.length
  | [], _, _, _ => Nat.zero_le _
  | x :: a, b, hn, hs => by
    obtain ⟨s, t, rfl⟩ := List.append_of_mem (hs x (List.mem_cons_self ..))
    have h1 := List.nodup_cons.1 hn
    have h2 := sub_lenP a (s ++ t) h1.2 fun y hy => by
      have h3 := hs y (List.mem_cons_of_mem _ hy)
      rcases List.mem_append.1 h3 with h | h
      · exact List.mem_append.2 (.inl h)
      · rcases List.mem_cons.1 h with h | h
        · subst h; exact absurd hy h1.1
        · exact List.mem_append.2 (.inr h)
    simp only [List.length_append, List.length_cons] at h2 ⊢
    omega
/-- Numbers below n. -/
def uptoN (n : Nat) : List Int := (List.range n).map fun i : Nat => (i : Int)
theorem uptoN_len (n : Nat) : (uptoN n).length = n := by unfold uptoN; simp
theorem uptoN_mem {n : Nat} {x : Int} : x ∈ uptoN n ↔ 0 ≤ x ∧ x < n := by
  unfold uptoN
  rw [List.mem_map]
  constructor
  · rintro ⟨i, hi, rfl⟩
    have := List.mem_range.1 hi
    omega
  · intro h
    exact ⟨x.toNat, List.mem_range.2 (by omega), by omega⟩
theorem uptoN_nodup (n : Nat) : (uptoN n).Nodup := by
  unfold uptoN
  refine List.Pairwise.map (R := fun a b => a ≠ b) _ (fun a b h e => h (by omega)) List.nodup_range
/-- What has been seen so far, breadth first: i of it have been looked at, and of the next one what stands below v. -/
structure Bfs (n : Nat) (E : List (Int × Int)) (S : List Int) (i v : Nat) : Prop where
  nd : S.Nodup
  z : (0 : Int) ∈ S
  inn : ∀ x ∈ S, 0 ≤ x ∧ x < n ∧ Rch E x
  le : i ≤ S.length
  done : ∀ k x, k < i → S[k]? = some x → ∀ u : Nat, u < n → AdjE E x u → (u : Int) ∈ S
  part : ∀ x, S[i]? = some x → ∀ u : Nat, u < v → AdjE E x u → (u : Int) ∈ S
section
variable {n i v : Nat} {E : List (Int × Int)} {S : List Int}
theorem Bfs.start (hn : 0 < n) : Bfs n E [0] 0 0 :=
  ⟨by simp, by simp, fun x hx => by obtain rfl := List.mem_singleton.1 hx; exact ⟨by omega, by omega, .zero⟩, Nat.zero_le _, fun k x h => by omega, fun x _ u h => by omega⟩
theorem Bfs.len (h : Bfs n E S i v) : S.length ≤ n := by
  have := sub_lenP S (uptoN n) h.nd fun x hx => uptoN_mem.2 ⟨(h.inn x hx).1, (h.inn x hx).2.1⟩
  rwa [uptoN_len] at this
theorem Bfs.skip (h : Bfs n E S i v) {x : Int} (hx : S[i]? = some x) (hs : AdjE E x v → (v : Int) ∈ S) : Bfs n E S i (v + 1) :=
  ⟨h.nd, h.z, h.inn, h.le, h.done, fun y hy u hu ha => by
    rw [hx] at hy; cases hy
    by_cases hv : u < v
    · exact h.part x hx u hv ha
    · obtain rfl : u = v := by omega
      exact hs ha⟩
theorem Bfs.take (h : Bfs n E S i v) {x : Int} (hx : S[i]? = some x) (ha : AdjE E x v) (hv : v < n) (hn : ¬ (v : Int) ∈ S) : Bfs n E (S ++ [(v : Int)]) i (v + 1) := by
  have hi := (List.getElem?_eq_some_iff.1 hx).1
  have hap : ∀ k, k < S.length → (S ++ [(v : Int)])[k]? = S[k]? := fun k hk => List.getElem?_append_left hk
  refine ⟨?_, List.mem_append.2 (.inl h.z), fun y hy => ?_, by rw [List.length_append]; have := h.le; omega, fun k y hk hy u hu hau => ?_, fun y hy u hu hau => ?_⟩
  · rw [List.nodup_append]
    exact ⟨h.nd, by simp, fun a ha b hb e => by obtain rfl := List.mem_singleton.1 hb; subst e; exact hn ha⟩
  · rcases List.mem_append.1 hy with hy | hy
    · exact h.inn y hy
    · obtain rfl := List.mem_singleton.1 hy
      exact ⟨by omega, by omega, (h.inn x (List.mem_of_getElem? hx)).2.2.adj ha⟩
  · rw [hap k (by have := h.le; omega)] at hy
    exact List.mem_append.2 (.inl (h.done k y hk hy u hu hau))
  · rw [hap i hi, hx] at hy; cases hy
    by_cases hv2 : u < v
    · exact List.mem_append.2 (.inl (h.part x hx u hv2 hau))
    · obtain rfl : u = v := by omega
      exact List.mem_append.2 (.inr (List.mem_singleton.2 rfl))
theorem Bfs.next (h : Bfs n E S i n) (hi : i < S.length) : Bfs n E S (i + 1) 0 :=
  ⟨h.nd, h.z, h.inn, hi, fun k y hk hy u hu ha => by
    by_cases hk2 : k < i
    · exact h.done k y hk2 hy u hu ha
    · obtain rfl : k = i := by omega
      exact h.part y hy u hu ha, fun x _ u h => by omega⟩
theorem Bfs.all (h : Bfs n E S S.length 0) (hE : ∀ e ∈ E, 0 ≤ e.1 ∧ e.1 < n ∧ 0 ≤ e.2 ∧ e.2 < n) : S.length = n ↔ allR n E := by
  have hcl : ∀ x, Rch E x → x ∈ S := fun x hx => by
    have step : ∀ a b, a ∈ S → AdjE E a b → 0 ≤ b → b < n → b ∈ S := fun a b ha hab h0 h1 => by
      obtain ⟨k, hk, hk2⟩ := List.mem_iff_getElem.1 ha
      have := h.done k a hk (by rw [List.getElem?_eq_getElem hk, hk2]) b.toNat (by omega) (by rw [Int.toNat_of_nonneg h0]; exact hab)
      rwa [Int.toNat_of_nonneg h0] at this
    induction hx with
    | zero => exact h.z
    | fwd he _ ih => exact step _ _ ih (.inl he) (hE _ he).2.2.1 (hE _ he).2.2.2
    | bwd he _ ih => exact step _ _ ih (.inr he) (hE _ he).1 (hE _ he).2.1
  constructor
  · intro hl u hu
    refine Classical.byContradiction fun hno => ?_
    have hnm : ¬ (u : Int) ∈ S := fun hm => hno (h.inn _ hm).2.2
    have := sub_lenP ((u : Int) :: S) (uptoN n) (List.nodup_cons.2 ⟨hnm, h.nd⟩) fun x hx => by
      rcases List.mem_cons.1 hx with rfl | hx
      · exact uptoN_mem.2 ⟨by omega, by omega⟩
      · exact uptoN_mem.2 ⟨(h.inn x hx).1, (h.inn x hx).2.1⟩
    rw [uptoN_len, List.length_cons] at this
    omega
  · intro ha
    have h1 := h.len
    have h2 := sub_lenP (uptoN n) S (uptoN_nodup n) fun x hx => hcl x (by
      have := uptoN_mem.1 hx
      have h3 := ha x.toNat (by omega)
      rwa [Int.toNat_of_nonneg this.1] at h3)
    rw [uptoN_len] at h2
    omega
end

/-- One edge, by bit masks. -/
def stepM (s : Nat) (e : Int × Int) : Nat := if s.testBit e.1.toNat || s.testBit e.2.toNat then s ||| (1 <<< e.1.toNat ||| 1 <<< e.2.toNat) else s
def passM (E : List (Int × Int)) (s : Nat) : Nat := E.foldl stepM s
def iterM (E : List (Int × Int)) : Nat → Nat
  | 0 => 1
  | k + 1 => passM E (iterM E k)
theorem bit_one (a i : Nat) : (1 <<< a).testBit i = decide (i = a) := by
  rw [Nat.one_shiftLeft, Nat.testBit_two_pow]
  exact decide_eq_decide.2 ⟨fun h => h.symm, fun h => h.symm⟩
theorem stepM_bit (s : Nat) (e : Int × Int) (i : Nat) : (stepM s e).testBit i = (s.testBit i || ((s.testBit e.1.toNat || s.testBit e.2.toNat) && (decide (i = e.1.toNat) || decide (i = e.2.toNat)))) := by
  unfold stepM
  split
  · rename_i h
    rw [Nat.testBit_or, Nat.testBit_or, bit_one, bit_one, h, Bool.true_and]
  · rename_i h
    rw [Bool.not_eq_true] at h
    rw [h, Bool.false_and, Bool.or_false]
theorem stepM_mono {s : Nat} {e : Int × Int} {i : Nat} (h : s.testBit i = true) : (stepM s e).testBit i = true := by rw [stepM_bit, h, Bool.true_or]
theorem passM_mono {i : Nat} : ∀ (E : List (Int × Int)) {s : Nat}, s.testBit i = true → (passM E s).testBit i = true
  | [], _, h => h
  | e :: E, _, h => passM_mono E (stepM_mono h)
theorem stepM_lt {n s : Nat} {e : Int × Int} (hs : s < 2 ^ n) (h1 : e.1.toNat < n) (h2 : e.2.toNat < n) : stepM s e < 2 ^ n := by
  unfold stepM
  split
  · refine Nat.or_lt_two_pow hs (Nat.or_lt_two_pow ?_ ?_)
    · rw [Nat.one_shiftLeft]; exact Nat.pow_lt_pow_right (by omega) h1
    · rw [Nat.one_shiftLeft]; exact Nat.pow_lt_pow_right (by omega) h2
  · exact hs
theorem passM_lt {n : Nat} : ∀ (E : List (Int × Int)) {s : Nat}, s < 2 ^ n → (∀ e ∈ E, e.1.toNat < n ∧ e.2.toNat < n) → passM E s < 2 ^ n
  | [], _, h, _ => h
  | e :: E, _, h, hE => passM_lt E (stepM_lt h (hE e (List.mem_cons_self ..)).1 (hE e (List.mem_cons_self ..)).2) fun x hx => hE x (List.mem_cons_of_mem _ hx)
theorem passM_snd {E0 : List (Int × Int)} (h0 : ∀ e ∈ E0, 0 ≤ e.1 ∧ 0 ≤ e.2) : ∀ (E : List (Int × Int)) {s : Nat}, (∀ e ∈ E, e ∈ E0) → (∀ i, s.testBit i = true → Rch E0 (i : Int)) → ∀ i, (passM E s).testBit i = true → Rch E0 (i : Int)
  | [], _, _, h => h
  | e :: E, s, hE, h => passM_snd h0 E (fun x hx => hE x (List.mem_cons_of_mem _ hx)) fun i hi => by
    rw [stepM_bit] at hi
    have he := hE e (List.mem_cons_self ..)
    have hz := h0 e he
    have e1 : ((e.1.toNat : Nat) : Int) = e.1 := Int.toNat_of_nonneg hz.1
    have e2 : ((e.2.toNat : Nat) : Int) = e.2 := Int.toNat_of_nonneg hz.2
    have hm : (e.1, e.2) ∈ E0 := he
    simp only [Bool.or_eq_true, Bool.and_eq_true, decide_eq_true_eq] at hi
    rcases hi with hi | ⟨h1, h2⟩
    · exact h i hi
    · rcases h1 with h1 | h1
      · have hr := h _ h1
        rw [e1] at hr
        rcases h2 with rfl | rfl
        · rw [e1]; exact hr
        · rw [e2]; exact .fwd hm hr
      · have hr := h _ h1
        rw [e2] at hr
        rcases h2 with rfl | rfl
        · rw [e1]; exact .bwd hm hr
        · rw [e2]; exact hr
theorem bits_eq {s t : Nat} (h : ∀ i, s.testBit i = true → t.testBit i = true) (k : ∀ i, t.testBit i = true → s.testBit i = true) : s = t :=
  Nat.eq_of_testBit_eq fun i => by
    cases h1 : s.testBit i with
    | true => exact (h i h1).symm
    | false =>
      cases h2 : t.testBit i with
      | false => rfl
      | true => rw [k i h2] at h1; cases h1
theorem passM_fix : ∀ (E : List (Int × Int)) {s : Nat}, passM E s = s → ∀ e ∈ E, (s.testBit e.1.toNat = true ∨ s.testBit e.2.toNat = true) → s.testBit e.1.toNat = true ∧ s.testBit e.2.toNat = true
  | [], _, _, e, he, _ => by cases he
  | f :: E, s, h, e, he, hb => by
    have h1 : stepM s f = s := bits_eq (fun i hi => by
      have := passM_mono (i := i) E hi
      have e0 : passM (f :: E) s = passM E (stepM s f) := rfl
      rwa [← e0, h] at this) fun i hi => stepM_mono hi
    have h2 : passM E s = s := by
      have e0 : passM (f :: E) s = passM E (stepM s f) := rfl
      rwa [e0, h1] at h
    rcases List.mem_cons.1 he with rfl | he
    · have h3 := stepM_bit s e e.1.toNat
      have h4 := stepM_bit s e e.2.toNat
      rw [h1] at h3 h4
      rcases hb with hb | hb
      · rw [hb] at h4
        simp at h4
        exact ⟨hb, h4⟩
      · rw [hb] at h3
        simp at h3
        exact ⟨h3, hb⟩
    · exact passM_fix E h2 e he hb
def cardM (n s : Nat) : Nat := ((List.range n).filter fun i => s.testBit i).length
theorem cardM_le (n s : Nat) : cardM n s ≤ n := by
  have := List.length_filter_le (fun i => s.testBit i) (List.range n)
  rwa [List.length_range] at this
theorem filter_less {α : Type} {p q : α → Bool} : ∀ (l : List α), (∀ x ∈ l, p x = true → q x = true) → (∃ x ∈ l, p x = false ∧ q x = true) → (l.filter p).length < (l.filter q).length
  | [], _, ⟨_, h, _⟩ => by cases h
  | x :: l, h, ⟨y, hy, h1, h2⟩ => by
    have hle : (l.filter p).length ≤ (l.filter q).length := by
      clear hy h1 h2
      have h' : ∀ x ∈ l, p x = true → q x = true := fun z hz => h z (List.mem_cons_of_mem _ hz)
      clear h
      induction l with
      | nil => exact Nat.le_refl _
      | cons z l ih =>
        have i1 := ih fun u hu => h' u (List.mem_cons_of_mem _ hu)
        have i2 := h' z (List.mem_cons_self ..)
        cases hp : p z with
        | true => rw [List.filter_cons_of_pos hp, List.filter_cons_of_pos (i2 hp)]; simpa using i1
        | false =>
          cases hq : q z with
          | true => rw [List.filter_cons_of_neg (by rw [hp]; decide), List.filter_cons_of_pos hq, List.length_cons]; omega
          | false => rw [List.filter_cons_of_neg (by rw [hp]; decide), List.filter_cons_of_neg (by rw [hq]; decide)]; exact i1
    rcases List.mem_cons.1 hy with rfl | hy
    · rw [List.filter_cons_of_neg (by rw [h1]; decide), List.filter_cons_of_pos h2, List.length_cons]
      omega
    · have ih := filter_less l (fun z hz => h z (List.mem_cons_of_mem _ hz)) ⟨y, hy, h1, h2⟩
      have i2 := h x (List.mem_cons_self ..)
      cases hp : p x with
      | true => rw [List.filter_cons_of_pos hp, List.filter_cons_of_pos (i2 hp)]; simpa using ih
      | false =>
        cases hq : q x with
        | true => rw [List.filter_cons_of_neg (by rw [hp]; decide), List.filter_cons_of_pos hq, List.length_cons]; omega
        | false => rw [List.filter_cons_of_neg (by rw [hp]; decide), List.filter_cons_of_neg (by rw [hq]; decide)]; exact ih
theorem big_bit {n s i : Nat} (h : s < 2 ^ n) (hi : s.testBit i = true) : i < n := by
  rcases Nat.lt_or_ge i n with h1 | h1
  · exact h1
  · rw [Nat.testBit_lt_two_pow (Nat.lt_of_lt_of_le h (Nat.pow_le_pow_right (by omega) h1))] at hi
    cases hi
section
variable {n : Nat} {E : List (Int × Int)}
theorem iterM_lt (hn : 0 < n) (hE : ∀ e ∈ E, e.1.toNat < n ∧ e.2.toNat < n) : ∀ k, iterM E k < 2 ^ n
  | 0 => by
    have h : 2 ^ 1 ≤ 2 ^ n := Nat.pow_le_pow_right (by omega) hn
    show 1 < 2 ^ n
    omega
  | k + 1 => passM_lt E (iterM_lt hn hE k) hE
theorem iterM_grows (hn : 0 < n) (hE : ∀ e ∈ E, e.1.toNat < n ∧ e.2.toNat < n) : ∀ k, passM E (iterM E k) = iterM E k ∨ k + 1 ≤ cardM n (iterM E k)
  | 0 => by
    right
    show 1 ≤ cardM n 1
    have h0 : 0 ∈ (List.range n).filter fun i => (1 : Nat).testBit i := List.mem_filter.2 ⟨List.mem_range.2 hn, by decide⟩
    exact List.length_pos_of_mem h0
  | k + 1 => by
    rcases iterM_grows hn hE k with h | h
    · left
      have e : iterM E (k + 1) = iterM E k := h
      rw [e]
      exact h
    · by_cases he : passM E (iterM E k) = iterM E k
      · left
        have e : iterM E (k + 1) = iterM E k := he
        rw [e]
        exact he
      · right
        have hlt := iterM_lt hn hE (k + 1)
        have hg : cardM n (iterM E k) < cardM n (iterM E (k + 1)) := by
          refine filter_less _ (fun i _ hi => passM_mono E hi) ?_
          refine Classical.byContradiction fun hno => he ?_
          refine (bits_eq (fun i hi => passM_mono E hi) fun i hi => ?_).symm
          have hin := big_bit hlt hi
          cases hb : (iterM E k).testBit i with
          | true => rfl
          | false => exact absurd ⟨i, List.mem_range.2 hin, hb, hi⟩ hno
        omega
theorem iterM_fix (hn : 0 < n) (hE : ∀ e ∈ E, e.1.toNat < n ∧ e.2.toNat < n) : passM E (iterM E n) = iterM E n := by
  rcases iterM_grows hn hE n with h | h
  · exact h
  · have := cardM_le n (iterM E n)
    omega
theorem iterM_zero : ∀ k, (iterM E k).testBit 0 = true
  | 0 => (by decide : (1 : Nat).testBit 0 = true)
  | k + 1 => passM_mono E (iterM_zero k)
theorem iterM_snd (h0 : ∀ e ∈ E, 0 ≤ e.1 ∧ 0 ≤ e.2) : ∀ k i, (iterM E k).testBit i = true → Rch E (i : Int)
  | 0, i, h => by
    have h1 : (1 : Nat).testBit i = true := h
    have h2 := bit_one 0 i
    rw [show (1 : Nat) <<< 0 = 1 from rfl, h1] at h2
    have := of_decide_eq_true h2.symm
    subst this
    exact .zero
  | k + 1, i, h => passM_snd h0 E (fun _ h => h) (iterM_snd h0 k) i h
theorem all_bits {n s : Nat} (hs : s < 2 ^ n) : s = 2 ^ n - 1 ↔ ∀ i, i < n → s.testBit i = true := by
  constructor
  · rintro rfl i hi
    rw [Nat.testBit_two_pow_sub_one]
    exact decide_eq_true hi
  · intro h
    refine bits_eq (fun i hi => ?_) fun i hi => ?_
    · rw [Nat.testBit_two_pow_sub_one]
      exact decide_eq_true (big_bit hs hi)
    · rw [Nat.testBit_two_pow_sub_one] at hi
      exact h i (of_decide_eq_true hi)
/-- By bit masks: as many rounds as there are vertices, and all bits are set just if each vertex can be come to. -/
theorem mask_all (hn : 0 < n) (hE : ∀ e ∈ E, 0 ≤ e.1 ∧ e.1 < n ∧ 0 ≤ e.2 ∧ e.2 < n) : iterM E n = 2 ^ n - 1 ↔ allR n E := by
  have hE1 : ∀ e ∈ E, e.1.toNat < n ∧ e.2.toNat < n := fun e he => by have := hE e he; omega
  have h0 : ∀ e ∈ E, 0 ≤ e.1 ∧ 0 ≤ e.2 := fun e he => by have := hE e he; omega
  rw [all_bits (iterM_lt hn hE1 n)]
  constructor
  · intro h v hv
    exact iterM_snd h0 n v (h v hv)
  · intro h i hi
    have hfx := passM_fix E (iterM_fix hn hE1)
    have hcl : ∀ x, Rch E x → (iterM E n).testBit x.toNat = true := fun x hx => by
      induction hx with
      | zero => exact iterM_zero n
      | fwd he _ ih => exact (hfx _ he (.inl ih)).2
      | bwd he _ ih => exact (hfx _ he (.inr ih)).1
    have := hcl _ (h i hi)
    rwa [Int.toNat_natCast] at this
end
theorem right_edges {L : List Int} {E : List (Int × Int)} (h : rightP L E) : ∀ e ∈ E, 0 ≤ e.1 ∧ e.1 < L.length ∧ 0 ≤ e.2 ∧ e.2 < L.length := fun e he => by
  obtain ⟨i, hi, he2⟩ := List.mem_iff_getElem.1 he
  have h1 := (h.2 i e (by rw [List.getElem?_eq_getElem hi, he2])).1
  unfold Pt.EdgeOK at h1
  omega
/-- What Connected answers. -/
def ConRes (L : List Int) (E : List (Int × Int)) (w : World) (e : Ending) (w' : World) : Prop := ∃ b : Bool, e = .returned (.bool b) ∧ (b = true ↔ connP L E) ∧ Below w.heap.size w w'
end Go.Proofs.YtbbmgcdocolakaaGreatDoor
