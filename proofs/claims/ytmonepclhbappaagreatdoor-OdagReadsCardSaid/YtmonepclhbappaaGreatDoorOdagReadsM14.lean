/-
  Part 14 of the proof of OdagReads: OdRr, Vals.
-/
import Derived.BigQuiet
import Derived.Deep.DeepCutAuto
import Derived.Test.YtmonepclhbappaaGreatDoorOdagReadsM13
import Derived.Test.YtmonepclhbappaaGreatDoorOdagReadsM5
import Derived.Sort.MapsRangeIn
import Derived.RangeFuncNested
import Derived.RangeFuncBound
import Derived.RangeFuncCalls
import Derived.RangeFuncLeaves
import Derived.Shelf.Abstract
import Derived.Shelf.RegionOpen
import Derived.OwnWalkIn
import Derived.TacticsInMore
import Derived.LoopNIn
import Derived.LoopIn
import Derived.Test.YtmonepclhbappaaGreatDoorOdagReadsM2
import Derived.Test.YtmonepclhbappaaGreatDoorOdagReadsM10
import Derived.Test.YtmonepclhbappaaGreatDoorOdagReadsM4
import Derived.Test.YtmonepclhbappaaGreatDoorOdagReadsM12
/-
  Odags: read: rows, and then links.
-/
namespace Go.Proofs.YtmonepclhbappaaGreatDoor
open Go.RowKit Go.Maps
set_option maxRecDepth 100000
set_option linter.unusedVariables false

theorem mid_set {α : Type} (L R : List α) (x y : α) : (L ++ x :: R).set L.length y = L ++ y :: R := by
  induction L with
  | nil => rfl
  | cons z L ih => rw [List.cons_append, List.length_cons, List.set_cons_succ, ih]; rfl
theorem mid_get {α : Type} (L R : List α) (x : α) : (L ++ x :: R)[L.length]? = some x := by simp
/-- The rows read, those to be read. -/
def rowsK (KL : List (List Int)) (r : Rw) (m : Nat) : List Rw := KL.map bare ++ r :: List.replicate m []
theorem rowsK_get {KL : List (List Int)} {r : Rw} {m i : Nat} (h : KL.length = i) : (rowsK KL r m)[i]? = some r := by
  have := mid_get (KL.map bare) (List.replicate m []) r
  rw [List.length_map, h] at this
  exact this
theorem rowsK_set {KL : List (List Int)} {r r' : Rw} {m i : Nat} (h : KL.length = i) : (rowsK KL r m).set i r' = rowsK KL r' m := by
  have := mid_set (KL.map bare) (List.replicate m []) r r'
  rw [List.length_map, h] at this
  exact this
theorem rowsK_next {KL : List (List Int)} {xs : List Int} {N i : Nat} : rowsK KL (bare xs) (N - (i + 1)) = (KL ++ [xs]).map bare ++ List.replicate (N - (i + 1)) [] := by
  unfold rowsK
  rw [List.map_append, List.append_assoc]
  rfl
theorem rowsK_first {KL : List (List Int)} {N i : Nat} (h : i < N) : KL.map bare ++ List.replicate (N - i) [] = rowsK KL (bare []) (N - (i + 1)) := by
  unfold rowsK
  rw [show N - i = (N - (i + 1)) + 1 by omega, List.replicate_succ]
  rfl

/-- What read leaves. -/
def ReadPost (w0 : World) (B g O : Nat) (v : Value) (bs : List Nat) (A : Option Addr) (n c : Nat) (l : List Int) (N : Nat) (e : Ending) (w' : World) : Prop :=
  (∃ a E rvv its od', e = .returned .nilIface ∧ (E = .nil ∨ rdBad E) ∧ Mem w0 B g O v bs A n c a E rvv its od' w' ∧ WfO od' N ∧ (E = .nil → a ≤ l.length ∧ l.take a = bytesO od') ∧ ∀ od, WfO od N → bytesO od = l → E = .nil ∧ od' = od) ∨
  ∃ gv cc t a, (cc = 2 ∨ cc = 3) ∧ e = .returned (.iface 104 (.pointer (some ⟨gv, 0, none⟩))) ∧ Blk w' gv 107 #[.int .i64 cc, .int .i64 0, .string t] ∧ Rd w' B g A n c a .nil ∧ Below B w0 w' ∧ ∀ od, WfO od N → bytesO od ≠ l

set_option maxHeartbeats 32000000 in
theorem read_any (w0 w : World) (B g O N : Nat) (v : Value) (bs : List Nat) (A : Option Addr) (n c : Nat) (l : List Int) (hn : n ≤ 100000) (hnc : n ≤ c) (hc9 : c ≤ 9223372036854775807) (hl : l.length = n) (hb : Bys l) (hBy : ∀ W, Below B w0 W → Sl W 1 A n (l.map (Value.int .u8))) (h1 : 1 ≤ N) (h8 : N ≤ 8)
    (hM : Mem w0 B g O v bs A n c 4 .nil (.slice none 0 0) [] (List.replicate N []) w) (hbs : ∀ b ∈ bs, B ≤ b) (hI : RI l N 0 .nil 4 []) :
    Calls Tryz.prog 65 #[.pointer (some ⟨O, 0, none⟩), .pointer (some ⟨g, 0, none⟩)] w (ReadPost w0 B g O v bs A n c l N) := by
  have hown := hM.2.2.2.1.2.1
  have hbl : bs.length = N := by have := hM.2.2.2.1.1; rwa [List.length_replicate] at this
  rw [List.length_replicate] at hown
  obtain ⟨rb, c0, rfl, _⟩ := own_form hown h1
  have HM := Lib.hid hM
  have HI := Lib.hid hI
  have HBl := Lib.hid hbl
  have HBs := Lib.hid hbs
  have HBy := Lib.hid hBy
  have HL := Lib.hid hl
  have HBt := Lib.hid hb
  have HCe := Lib.hid (show ∀ (a : Nat) (E : Err) (rvv : Value) (its : List (Option Addr × Nat × List Int)) (od : List Rw) (W : World) (i b : Nat), Mem w0 B g O (.slice (some ⟨rb, 0, none⟩) N c0) bs A n c a E rvv its od W → od.length = N → bs[i]? = some b → W.cell? ⟨O, 0, none⟩ = some (.slice (some ⟨rb, 0, none⟩) N c0) ∧ W.cell? ⟨rb, i, none⟩ = some (.map (some b)) from fun a E rvv its od W i b hM hol hi => by
    obtain ⟨_, _, _, hO, _⟩ := hM
    have d0 := hO.2.2.2.2.cell 0
    simp at d0
    have ho := hO.2.1
    rw [hol] at ho
    have hlt := (List.getElem?_eq_some_iff.1 hi).1
    have d1 := (Sl.of_own ho).again (k := i) (by omega) (show (mps bs)[i]? = some (.map (some b)) by unfold mps; rw [List.getElem?_map, hi]; rfl)
    rw [Nat.zero_add] at d1
    exact ⟨d0, d1⟩)
  have d0 := (HCe.out 4 .nil _ [] _ w 0 bs[0] hM (by simp) (List.getElem?_eq_getElem (by omega))).1
  clear hM hI hown hbl hbs hBy hb hl
  go_enter Tryz.func65, Tryz.ntmps65
  go_wp2_with fail
  go_loopw [5, 21] (fun rvv iv wr => ∃ (i a : Nat) (E : Err) (its : List (Option Addr × Nat × List Int)) (KL : List (List Int)), i ≤ N ∧ iv = .int .i64 (i : Int) ∧ Hid (its.map (·.2.2) = KL ∧ (E = .nil ∨ rdBad E) ∧ RI l N i E a KL) ∧ Hid (Mem w0 B g O (.slice (some ⟨rb, 0, none⟩) N c0) bs A n c a E rvv its (KL.map bare ++ List.replicate (N - i) []) wr)) (fun _ iv _ => N - (intOf iv).toNat)
  case atStart => exact ⟨0, 4, .nil, [], [], Nat.zero_le _, rfl, Lib.hid ⟨rfl, .inl rfl, HI.out⟩, HM⟩
  case round =>
    clear HM HI d0
    obtain ⟨i, a, E, its, KL, hi, rfl, HS, HM⟩ := hrel
    by_cases hin : i < N
    · have hin' : (i : Int) < (N : Int) := by omega
      have hi0 : (0 : Int) ≤ (i : Int) := by omega
      have HLs := Lib.hid (OdList_any g B A n c a E l wr HM.out.1 HS.out.2.1 hn hnc hc9 HL.out HBt.out (fun W hW => HBy.out W (HM.out.2.2.2.2.trans hW)))
      go_upto_region 6 with (go_at_call 99; refine HLs.out.mono ?_; clear HLs; intro e w1 hp; obtain ⟨lv, ev, rfl, hb1, ha1, hd1⟩ := hp.out; have HB1 := Lib.hid hb1; have HA1 := Lib.hid ha1; have HD1 := Lib.hid hd1; clear hp hb1 ha1 hd1)
      rcases HD1.out with ⟨rfl, xs, hown, hx⟩ | ⟨gv, cc, t, hcc, rfl, hblk, hE, hok, hno, hrd⟩
      · obtain ⟨X, xc, rfl, hsl⟩ := Sl.own hown
        obtain ⟨a', E', hE', hM1, hR1, hxi⟩ : ∃ a' E', (E' = .nil ∨ rdBad E') ∧ Mem w0 B g O (.slice (some ⟨rb, 0, none⟩) N c0) bs A n c a' E' u5 its (KL.map bare ++ List.replicate (N - i) []) w1 ∧ RI l N (i + 1) E' a' (KL ++ [xs]) ∧ rightO xs := by
          rcases hx with ⟨x1, x2, x3, x4, x5⟩ | ⟨x1, x2, a', E', x3, x4⟩
          · refine ⟨_, _, .inl rfl, HM.out.read HB1.out HA1.out x5, ?_, x4⟩
            rw [x3]
            exact HS.out.2.2.good hin HBt.out x1 x2 (by rw [← x3]; exact x4)
          · refine ⟨_, _, .inr x3, HM.out.read HB1.out HA1.out x4, ?_, by rw [x1]; exact ⟨List.Pairwise.nil, fun x hx => by cases hx⟩⟩
            rw [x1]
            exact HS.out.2.2.bad hin x2 x3.ne
        have hy : RowOK w1 (X, xc, xs) ∧ IntAt w1 X := ⟨⟨hsl, own_cap hown⟩, IntAt.of_own hown⟩
        have HHx := Lib.hid hxi
        have HEx := Lib.hid hE'
        have HRx := Lib.hid hR1
        have HMx := Lib.hid hM1
        have HYx := Lib.hid hy
        have hil : its.length = i := by
          have := HS.out.2.2.1
          rw [← HS.out.1, List.length_map] at this
          exact this
        have HIl := Lib.hid hil
        have HO1 := Lib.hid (show w1.ownsRow B 22 1 u5 i (its.map rv) from by have := hM1.2.1; rwa [hil] at this)
        have HSz := Lib.hid hM1.size
        have hxl : xs.length ≤ 65536 := (hR1.2.1 xs (List.mem_append_right _ (List.mem_singleton_self _))).2
        obtain ⟨m, hm⟩ : ∃ m, m = xs.length := ⟨_, rfl⟩
        rw [← hm] at hxl ⊢
        have HMl := Lib.hid hm
        clear hown hx hsl hE' hM1 hR1 hxi hy hil hm HD1 HB1 HA1
        go_wp2_with (at_builtin; refine wpList_cat_at elemIntsQ _ _ rfl rfl (HO1.out.alloc _) (by have := HSz.out; simp; omega) (Sl.newAt w1 _ _ 1 rfl) rfl rfl (by simp [Value.oneCell']) (by unfold lim; omega) (by unfold lim; omega) ?_; intro v6 w6 hown6 hgr6; have HO6 := Lib.hid hown6; have HG6 := Lib.hid hgr6; clear hown6 hgr6)
        have HM6 := Lib.hid (show Mem w0 B g O (.slice (some ⟨rb, 0, none⟩) N c0) bs A n c a' E' v6 (its ++ [(X, xc, xs)]) (rowsK KL (bare (xs.take 0)) (N - (i + 1))) w6 from by
          have h := HMx.out.push HYx.out (by rw [HIl.out]; have h := HO6.out; simp only [rv, ← HMl.out]; exact h) HG6.out
          rw [rowsK_first hin] at h
          rw [List.take_zero]
          exact h)
        clear HMx HO1 HO6 HG6 HSz HYx
        go_loopw [38] (fun kv wr => ∃ k : Nat, k ≤ m ∧ kv = .int .i64 (k : Int) ∧ Hid (Mem w0 B g O (.slice (some ⟨rb, 0, none⟩) N c0) bs A n c a' E' v6 (its ++ [(X, xc, xs)]) (rowsK KL (bare (xs.take k)) (N - (i + 1))) wr)) (fun kv _ => m - (intOf kv).toNat)
        case atStart => exact ⟨0, Nat.zero_le _, rfl, HM6⟩
        case round =>
          clear HM6
          obtain ⟨k, hk, rfl, HMk⟩ := hrel
          by_cases hkm : k < m
          · have hkm' : (k : Int) < (m : Int) := by omega
            have hk0 : (0 : Int) ≤ (k : Int) := by omega
            obtain ⟨y, hy⟩ : ∃ y, xs[k]? = some y := ⟨_, List.getElem?_eq_getElem (by rw [← HMl.out]; exact hkm)⟩
            have hrow := (HMk.out.2.2.1 (X, xc, xs) (List.mem_append_right _ (List.mem_singleton_self _))).1.1
            simp only at hrow
            rw [← HMl.out] at hrow
            obtain ⟨xb, xo, rfl, _⟩ := hrow.at_ (show 0 < m by omega)
            have cy := hrow.again hkm (show (xs.map (Value.int .i64))[k]? = some (.int .i64 y) by rw [List.getElem?_map, hy]; rfl)
            obtain ⟨b, hb⟩ : ∃ b, bs[i]? = some b := ⟨_, List.getElem?_eq_getElem (by rw [HBl.out]; exact hin)⟩
            have hkl : KL.length = i := HS.out.2.2.1
            have hol : (rowsK KL (bare (xs.take k)) (N - (i + 1))).length = N := by unfold rowsK; simp; omega
            obtain ⟨d0, d1⟩ := HCe.out _ _ _ _ _ wr i b HMk.out hol hb
            have hxn : numOK y := HHx.out.2 y (List.mem_of_getElem? hy)
            have HPut := Lib.hid (show ∀ V, Below wr.heap.size wr V → Calls Tryz.prog 67 #[.map (some b), .int .i64 y, .slice none 0 0] V (fun e w' => e = .returned (.tuple #[]) ∧ Mem w0 B g O (.slice (some ⟨rb, 0, none⟩) N c0) bs A n c a' E' v6 (its ++ [(some ⟨xb, xo, none⟩, xc, xs)]) (rowsK KL (bare (xs.take (k + 1))) (N - (i + 1))) w') from fun V hV => by
              have hMV := HMk.out.keep hV
              have hrt := hMV.2.2.2.1.2.2.2.1 i b _ hb (rowsK_get hkl)
              refine (put_anyT b (bare (xs.take k)) y none 0 0 [] V hrt (by unfold bare; rw [List.length_map, List.length_take]; omega) (fun q hq => by obtain ⟨x, _, rfl⟩ := List.mem_map.1 hq; simp) (by unfold numOK at hxn; omega) ⟨Sl.nil _ _ _, Nat.le_refl _, Nat.zero_le _⟩ rfl (by omega)).mono fun e w' ⟨p1, p2, p3⟩ => ⟨p1, ?_⟩
              rw [bare_step HHx.out.1 hy] at p2
              have h := hMV.put hb (HBs.out b (List.mem_of_getElem? hb)) hrt.row.isMap p3 p2
              rw [rowsK_set hkl] at h
              exact h)
            clear hy hrow hb hkl hol hxn
            go_wp2_with (go_at_call 67; refine (HPut.out _ (by first | exact Below.refl _ _ | exact bel_drewN (Below.refl _ _) 1)).mono ?_; clear HPut; rintro e w3 ⟨rfl, hm3⟩; have HM3 := Lib.hid hm3; clear hm3)
            go_roundw
            case rel => exact ⟨k + 1, by omega, by go_num, HM3⟩
            case measure => simp [intOf]; omega
          · obtain rfl : k = m := by omega
            have hkm' : ¬ (k : Int) < (k : Int) := by omega
            have HMn := Lib.hid (show Mem w0 B g O (.slice (some ⟨rb, 0, none⟩) N c0) bs A n c a' E' v6 (its ++ [(X, xc, xs)]) ((KL ++ [xs]).map bare ++ List.replicate (N - (i + 1)) []) wr from by
              have h := HMk.out
              rw [List.take_of_length_le (by rw [← HMl.out]; exact Nat.le_refl _), rowsK_next] at h
              exact h)
            go_wp2_with fail
            go_roundw
            case rel => exact ⟨i + 1, a', E', _, _, by omega, by go_num, Lib.hid ⟨by rw [List.map_append, HS.out.1]; rfl, HEx.out, HRx.out⟩, HMn⟩
            case measure => simp [intOf]; omega
      · go_wp2_with fail
        go_ret
        exact .inr ⟨gv, cc, t, _, hcc, rfl, hblk, hrd, HM.out.2.2.2.2.trans HB1.out, HS.out.2.2.stop hin hno⟩
    · obtain rfl : i = N := by omega
      have hin' : ¬ (i : Int) < (i : Int) := by omega
      have HRO := Lib.hid (HS.out.2.2.done h1)
      have HKg := Lib.hid HS.out.2.2.2.1
      have hkl : KL.length = i := HS.out.2.2.1
      have hil : its.length = i := by rw [← HS.out.1, List.length_map] at hkl; exact hkl
      have hM := HM.out
      rw [Nat.sub_self, List.replicate_zero, List.append_nil] at hM
      have hro := hM.2.1
      rw [hil] at hro
      obtain ⟨rr, cr, rfl, _⟩ := own_form hro h1
      have HMe := Lib.hid hM
      have HKl := Lib.hid (And.intro hkl (And.intro hil HS.out.1))
      have HEe := Lib.hid HS.out.2.1
      have HRc := Lib.hid (show ∀ (a : Nat) (E : Err) (od : List Rw) (W : World) (j : Nat) (t : Option Addr × Nat × List Int), Mem w0 B g O (.slice (some ⟨rb, 0, none⟩) i c0) bs A n c a E (.slice (some ⟨rr, 0, none⟩) i cr) its od W → its[j]? = some t → W.cell? ⟨rr, j, none⟩ = some (rv t) from fun a E od W j t hM ht => by
        have ho := hM.2.1
        rw [hil] at ho
        have hlt := (List.getElem?_eq_some_iff.1 ht).1
        have d1 := (Sl.of_own ho).again (k := j) (by omega) (show (its.map rv)[j]? = some (rv t) by rw [List.getElem?_map, ht]; rfl)
        rw [Nat.zero_add] at d1
        exact d1)
      obtain ⟨N1, hN1⟩ : ∃ N1, i = N1 + 1 := ⟨i - 1, by omega⟩
      have hw1 : IntKind.i64.wrap ((i : Int) - 1) = (N1 : Int) := by rw [IntKind.wrap_i64]; omega
      have HN1 := Lib.hid hN1
      clear hkl hil hM hro hN1 HS HM
      go_wp2_with fail
      go_loopw [56] (fun jv wr => ∃ (j a : Nat) (E : Err) (od' : List Rw), j ≤ N1 ∧ jv = .int .i64 (j : Int) ∧ Hid ((E = .nil ∨ rdBad E) ∧ RO l i KL j E a od') ∧ Hid (Mem w0 B g O (.slice (some ⟨rb, 0, none⟩) i c0) bs A n c a E (.slice (some ⟨rr, 0, none⟩) i cr) its od' wr)) (fun jv _ => N1 - (intOf jv).toNat)
      case atStart => exact ⟨0, a, E, _, Nat.zero_le _, rfl, Lib.hid ⟨HEe.out, HRO.out⟩, HMe⟩
      case round =>
        clear HMe HEe HRO
        obtain ⟨j, a, E, od', hj, rfl, HS, HM⟩ := hrel
        by_cases hjn : j < N1
        · have hjn' : (j : Int) < (N1 : Int) := by omega
          have hj0 : (0 : Int) ≤ (j : Int) := by omega
          have hji : (j : Int) < (i : Int) := by have := HN1.out; omega
          obtain ⟨D, d, ks, ht, hks⟩ := its_row (its := its) (k := j) (by rw [HKl.out.2.1]; have := HN1.out; omega)
          rw [HKl.out.2.2] at hks
          obtain ⟨D2, d2, ks2, ht2, hks2⟩ := its_row (its := its) (k := j + 1) (by rw [HKl.out.2.1]; have := HN1.out; omega)
          rw [HKl.out.2.2] at hks2
          have hgd : KL.getD j [] = ks := by rw [List.getD_eq_getElem?_getD, hks]; rfl
          have hgd2 : KL.getD (j + 1) [] = ks2 := by rw [List.getD_eq_getElem?_getD, hks2]; rfl
          have hkr := HKg.out ks (List.mem_of_getElem? hks)
          have hkr2 := HKg.out ks2 (List.mem_of_getElem? hks2)
          have c1 := HRc.out _ _ _ _ j _ HM.out ht
          simp only [rv] at c1
          obtain ⟨b, hb⟩ : ∃ b, bs[j]? = some b := ⟨_, List.getElem?_eq_getElem (by rw [HBl.out]; have := HN1.out; omega)⟩
          have HT := Lib.hid (And.intro ht (And.intro ht2 (And.intro hgd (And.intro hgd2 (And.intro hkr (And.intro hkr2 hb))))))
          have HRN := Lib.hid HS.out.2.begin
          have HMs := Lib.hid (show Mem w0 B g O (.slice (some ⟨rb, 0, none⟩) i c0) bs A n c a E (.slice (some ⟨rr, 0, none⟩) i cr) its (od'.set j ([] ++ bare (ks.drop 0))) wr from by
            have h := HS.out.2.2.2.2.1 j (Nat.le_refl _) (by have := HN1.out; omega)
            rw [hgd] at h
            have hlo : j < od'.length := by have := HS.out.2.1; have := HN1.out; omega
            have e : od'.set j ([] ++ bare (ks.drop 0)) = od' := by
              rw [List.nil_append, List.drop_zero, ← h, getD_in hlo]
              exact List.set_getElem_self hlo
            rw [e]
            exact HM.out)
          have hEE := HS.out.1
          have HEE := Lib.hid hEE
          obtain ⟨m, hm⟩ : ∃ m, m = ks.length := ⟨_, rfl⟩
          rw [← hm] at c1
          have hmb : m ≤ 65536 := by rw [hm]; exact hkr.2
          have HMl := Lib.hid hm
          clear ht ht2 hks hks2 hgd hgd2 hkr hkr2 hb hEE hm
          go_wp2_with fail
          go_loopw [64] (fun kv wr => ∃ (k a : Nat) (E : Err) (dd : Rw), k ≤ m ∧ kv = .int .i64 (k : Int) ∧ Hid ((E = .nil ∨ rdBad E) ∧ RN l i KL j k E a od' dd) ∧ Hid (Mem w0 B g O (.slice (some ⟨rb, 0, none⟩) i c0) bs A n c a E (.slice (some ⟨rr, 0, none⟩) i cr) its (od'.set j (dd ++ bare (ks.drop k))) wr)) (fun kv _ => m - (intOf kv).toNat)
          case atStart => exact ⟨0, a, E, [], Nat.zero_le _, rfl, Lib.hid ⟨HEE.out, HRN.out⟩, HMs⟩
          case round =>
            clear HMs HRN HEE HM
            obtain ⟨k, a2, E2, dd, hk, rfl, HSk, HMk⟩ := hrel
            by_cases hkm : k < m
            · have hkm' : (k : Int) < (m : Int) := by omega
              have hk0 : (0 : Int) ≤ (k : Int) := by omega
              obtain ⟨y, hy⟩ : ∃ y, ks[k]? = some y := ⟨_, List.getElem?_eq_getElem (by rw [← HMl.out]; exact hkm)⟩
              have hrow := (HMk.out.2.2.1 (D, d, ks) (List.mem_of_getElem? HT.out.1)).1.1
              simp only at hrow
              rw [← HMl.out] at hrow
              obtain ⟨xb, xo, rfl, _⟩ := hrow.at_ (show 0 < m by omega)
              have cy := hrow.again hkm (show (ks.map (Value.int .i64))[k]? = some (.int .i64 y) by rw [List.getElem?_map, hy]; rfl)
              have HY := Lib.hid hy
              have HLs := Lib.hid (OdList_any g B A n c a2 E2 l wr HMk.out.1 HSk.out.1 hn hnc hc9 HL.out HBt.out (fun W hW => HBy.out W (HMk.out.2.2.2.2.trans hW)))
              clear hy hrow c1
              go_upto_region 22 with (go_at_call 99; refine HLs.out.mono ?_; clear HLs; intro e w1 hp; obtain ⟨lv, ev, rfl, hb1, ha1, hd1⟩ := hp.out; have HB1 := Lib.hid hb1; have HA1 := Lib.hid ha1; have HD1 := Lib.hid hd1; clear hp hb1 ha1 hd1)
              have hjn2 : j + 1 < i := by have := HN1.out; omega
              have hyk : (KL.getD j [])[k]? = some y := by rw [HT.out.2.2.1]; exact HY.out
              rcases HD1.out with ⟨rfl, xs, hown, hx⟩ | ⟨gv, cc, t, hcc, rfl, hblk, hE, hok, hno, hrd⟩
              · obtain ⟨X, xc, rfl, hsl⟩ := Sl.own hown
                have HHx := Lib.hid (show rightO xs from by
                  rcases hx with ⟨_, _, _, x4, _⟩ | ⟨x1, _⟩
                  · exact x4
                  · rw [x1]; exact ⟨List.Pairwise.nil, fun x hx => by cases hx⟩)
                have hxl : xs.length ≤ 65536 := by
                  rcases hx with ⟨_, x2, x3, _⟩ | ⟨x1, _⟩
                  · rw [x3]; exact lst_len x2
                  · rw [x1]; simp
                obtain ⟨a', E', hE', hM1, hgb⟩ : ∃ a' E', (E' = .nil ∨ rdBad E') ∧ Mem w0 B g O (.slice (some ⟨rb, 0, none⟩) i c0) bs A n c a' E' (.slice (some ⟨rr, 0, none⟩) i cr) its (od'.set j (dd ++ bare (ks.drop k))) w1 ∧ ((E2 = .nil ∧ okAt l a2 65536 ∧ xs = lst l a2 ∧ E' = .nil ∧ a' = nxtA l a2) ∨ (xs = [] ∧ (E2 = .nil → ¬ okAt l a2 65536) ∧ rdBad E')) := by
                  rcases hx with ⟨x1, x2, x3, x4, x5⟩ | ⟨x1, x2, a', E', x3, x4⟩
                  · exact ⟨_, _, .inl rfl, HMk.out.read HB1.out HA1.out x5, .inl ⟨x1, x2, x3, rfl, rfl⟩⟩
                  · exact ⟨_, _, .inr x3, HMk.out.read HB1.out HA1.out x4, .inr ⟨x1, x2, x3⟩⟩
                have hrow2 := (hM1.2.2.1 (D2, d2, ks2) (List.mem_of_getElem? HT.out.2.1)).1.1
                simp only at hrow2
                have c2 := HRc.out _ _ _ _ (j + 1) _ hM1 HT.out.2.1
                simp only [rv] at c2
                have hkr2 := HT.out.2.2.2.2.2.1
                have HWi := Lib.hid (Within_any xs ks2 X D2 xs.length xc ks2.length d2 w1 rfl (by omega) hsl rfl (by have := hkr2.2; omega) hkr2.1.1 hrow2)
                have hol : (od'.set j (dd ++ bare (ks.drop k))).length = i := by rw [List.length_set]; exact HS.out.2.1
                have hbj := HT.out.2.2.2.2.2.2
                have hlo : j < od'.length := by have := HS.out.2.1; omega
                have hrn := HSk.out.2
                have hddk : keysR dd = ks.take k := by have h := hrn.1; rw [HT.out.2.2.1] at h; exact h
                have hkl2 := HT.out.2.2.2.2.1.2
                have hksI := HT.out.2.2.2.2.1.1.1
                have hyn : numOK y := HT.out.2.2.2.2.1.1.2 y (List.mem_of_getElem? HY.out)
                have hddl : dd.length ≤ 65536 := by
                  have h := congrArg List.length hddk
                  unfold keysR at h
                  rw [List.length_map, List.length_take] at h
                  omega
                have hcap := own_cap hown
                have HPut := Lib.hid (show ∀ V, Below w1.heap.size w1 V → Calls Tryz.prog 67 #[.map (some b), .int .i64 y, .slice X xs.length xc] V (fun e w' => e = .returned (.tuple #[]) ∧ Mem w0 B g O (.slice (some ⟨rb, 0, none⟩) i c0) bs A n c a' E' (.slice (some ⟨rr, 0, none⟩) i cr) its (od'.set j ((dd ++ [(y, xs)]) ++ bare (ks.drop (k + 1)))) w') from fun V hV => by
                  have hMV := hM1.keep hV
                  have hrt := hMV.2.2.2.1.2.2.2.1 j b _ hbj (List.getElem?_set_self hlo)
                  refine (put_anyT b (dd ++ bare (ks.drop k)) y X xs.length xc xs V hrt (by unfold bare; rw [List.length_append, List.length_map, List.length_drop]; omega) (fun q hq => ?_) (by unfold numOK at hyn; omega) ⟨hsl.keep hV, hcap⟩ rfl (by omega)).mono fun e w' ⟨p1, p2, p3⟩ => ⟨p1, ?_⟩
                  · rcases List.mem_append.1 hq with hq | hq
                    · have := (hrn.2.1 q hq).1.2
                      omega
                    · obtain ⟨x, _, rfl⟩ := List.mem_map.1 hq
                      simp
                  · rw [link_step hksI HY.out hddk HHx.out.1] at p2
                    have h := hMV.put hbj (HBs.out b (List.mem_of_getElem? hbj)) hrt.row.isMap p3 p2
                    rw [List.set_set] at h
                    exact h)
                have HCw := Lib.hid (show ∀ V, Below w1.heap.size w1 V → V.cell? ⟨O, 0, none⟩ = some (.slice (some ⟨rb, 0, none⟩) i c0) ∧ V.cell? ⟨rb, j, none⟩ = some (.map (some b)) from fun V hV => HCe.out _ _ _ _ _ V j b (hM1.keep hV) hol hbj)
                have HGb := Lib.hid hgb
                have HEx := Lib.hid hE'
                have HMx := Lib.hid hM1
                have hj1 : (j : Int) + 1 < (i : Int) := by omega
                have hj2 : (0 : Int) ≤ (j : Int) + 1 := by omega
                have hj3 : ((j : Int) + 1).toNat = j + 1 := by omega
                have hj4 : IntKind.i64.wrap ((j : Int) + 1) = (j : Int) + 1 := by rw [IntKind.wrap_i64]; omega
                have HYk := Lib.hid hyk
                have HJn := Lib.hid hjn2
                have hij : (j : Int) < (i : Int) := by omega
                by_cases hw : ∀ t ∈ xs, t ∈ ks2
                · rw [decide_eq_true hw] at HWi
                  have HRn := Lib.hid (show RN l i KL j (k + 1) E' a' od' (dd ++ [(y, xs)]) from by
                    rcases hgb with ⟨x1, x2, x3, x4, x5⟩ | ⟨x1, x2, x3⟩
                    · rw [x4, x5, x3]
                      refine hrn.good hjn2 hyk HBt.out x1 x2 (by rw [← x3]; exact HHx.out) ?_
                      rw [HT.out.2.2.2.1, ← x3]
                      exact hw
                    · rw [x1]
                      exact hrn.bad hjn2 hyk x2 x3.ne)
                  clear hw hx hown hxl hE' hM1 hgb hrow2 hkr2 hol hbj hlo hrn hddk hkl2 hksI hyn hddl hcap hsl hyk hjn2
                  go_wp2_with (first
                    | (go_at_call 100; refine HWi.out.mono ?_; clear HWi; rintro e w2 ⟨rfl, hb2⟩; obtain ⟨d0, d1⟩ := HCw.out w2 hb2; have HB2 := Lib.hid hb2; clear hb2)
                    | (go_at_call 67; refine (HPut.out _ (HB2.out.andThen (by first | exact Below.refl _ _ | exact bel_drewN (Below.refl _ _) 1))).mono ?_; clear HPut; rintro e w3 ⟨rfl, hm3⟩; have HM3 := Lib.hid hm3; clear hm3)
                    | fail)
                  go_roundw
                  case rel => exact ⟨k + 1, a', E', _, by omega, by go_num, Lib.hid ⟨HEx.out, HRn.out⟩, HM3⟩
                  case measure => simp [intOf]; omega
                · rw [decide_eq_false hw] at HWi
                  have hgd : E2 = .nil ∧ okAt l a2 65536 ∧ xs = lst l a2 ∧ E' = .nil := by
                    rcases hgb with ⟨x1, x2, x3, x4, x5⟩ | ⟨x1, x2, x3⟩
                    · exact ⟨x1, x2, x3, x4⟩
                    · exact absurd (fun t ht => by rw [x1] at ht; cases ht) hw
                  have HSt := Lib.hid (hrn.stop hjn2 hyk (fun h => hw (by rw [hgd.2.2.1, ← HT.out.2.2.2.1]; exact h.2)))
                  have HE0 := Lib.hid hgd.2.2.2
                  clear hw hx hown hxl hE' hM1 hgb hrow2 hkr2 hol hbj hlo hrn hddk hkl2 hksI hyn hddl hcap hsl hyk hjn2 hgd HPut
                  go_wp2_with (first
                    | (go_at_call 100; refine HWi.out.mono ?_; clear HWi; rintro e w2 ⟨rfl, hb2⟩; have HB2 := Lib.hid hb2; clear hb2)
                    | (go_at_call 57; refine (New_err _ _ _ _).mono ?_; rintro e w3 ⟨v3, rfl, ⟨gv, rfl, hv⟩, hb3⟩; have HV := Lib.hid hv; have HB3 := Lib.hid (HB2.out.andThen hb3); clear hv hb3)
                    | fail)
                  go_ret
                  have hMz := HMx.out.keep HB3.out
                  have hr := hMz.1
                  rw [HE0.out] at hr
                  exact .inr ⟨gv, 2, _, _, .inl rfl, rfl, HV.out, hr, hMz.2.2.2.2, HSt.out⟩
              · go_wp2_with fail
                go_ret
                exact .inr ⟨gv, cc, t, _, hcc, rfl, hblk, hrd, HMk.out.2.2.2.2.trans HB1.out, HSk.out.2.stop hjn2 hyk (fun h => hno h.1)⟩
            · obtain rfl : k = m := by omega
              have hkm' : ¬ (k : Int) < (k : Int) := by omega
              have HNx := Lib.hid (HSk.out.2.next HS.out.2 (by have := HN1.out; omega) (by rw [HT.out.2.2.1]; exact HMl.out))
              have HMn := Lib.hid (show Mem w0 B g O (.slice (some ⟨rb, 0, none⟩) i c0) bs A n c a2 E2 (.slice (some ⟨rr, 0, none⟩) i cr) its (od'.set j dd) wr from by
                have h := HMk.out
                rw [List.drop_of_length_le (by rw [← HMl.out]; exact Nat.le_refl _)] at h
                simpa [bare] using h)
              go_wp2_with fail
              go_roundw
              case rel => exact ⟨j + 1, a2, E2, _, by omega, by go_num, Lib.hid ⟨HSk.out.1, HNx.out⟩, HMn⟩
              case measure => simp [intOf]; omega
        · obtain rfl : j = N1 := by omega
          have hjn' : ¬ (j : Int) < (j : Int) := by omega
          have hro := HS.out.2
          rw [show j = i - 1 by have := HN1.out; omega] at hro
          obtain ⟨k1, k2, k3⟩ := hro.done HKg.out h1 h8
          have HK := Lib.hid (And.intro k1 (And.intro k2 k3))
          clear hro k1 k2 k3
          go_wp2_with fail
          go_ret
          exact .inl ⟨a, E, _, its, od', rfl, HS.out.1, HM.out, HK.out.1, HK.out.2.1, HK.out.2.2⟩
end Go.Proofs.YtmonepclhbappaaGreatDoor
/-
  Maps keyed by ints: the words of a range, in a fence; maps.Values at map[int]int64; slices.AppendSeq, slices.Collect at int64.
-/
namespace Go.Proofs.YtmonepclhbappaaGreatDoor
open Go.RowKit Go.Maps Go.Shelf
attribute [local go_sem] Oper.semAt_some
set_option maxRecDepth 100000
set_option linter.unusedVariables false
section
variable {F : Fence} {n : Nat} {P : Program} (w : World) {ops : Array Oper} {rest : List Oper} {o : Oper} {a : Act} {Q : Exit → Act → World → Prop} {kT : TypeId}
/-- 'range m'. -/
theorem wpListIn_rangeI (hg : o.guard = none) (m : Operand) (t : TypeId) (hop : o.op = Op.range t m) (e : TypeId) (hk : P.underlying kT = some (.int .i64)) (ht : P.underlying t = some (.map kT e)) (b : Nat) (es : List (Int × Value))
    (hm : a.eval m = .map (some b)) (hown : MapI P kT w b es)
    (hK : ∀ w', RangesI P kT w' b w.heap.size es [] → w.grownBy w' none → w'.heap.size = w.heap.size + 1 → wpListIn F n P ops Q rest (a.put o.dst (.pointer (some ⟨w.heap.size, 0, none⟩))) w') :
    wpListIn F n P ops Q (o :: rest) a w := by
  refine wpListIn_range_own w hg m t hop kT e (int_keyed hk) ht rawR b es.length (asD es) hm hown fun w' h1 h2 h3 => hK w' ⟨_, _, h1, (fun p hp => ?_), (fun p hp => absurd hp (by simp)), List.nodup_nil⟩ h2 h3
  rw [has_asD, atI_of_mem (MapI.inc hk hown) hp]
  simp

/-- The step. -/
theorem wpListIn_nextI (hg : o.guard = none) (it : Operand) (hop : o.op = Op.next it false) (hk : P.underlying kT = some (.int .i64)) (b r : Nat) (es done : List (Int × Value))
    (hit : a.eval it = .pointer (some ⟨r, 0, none⟩)) (h : RangesI P kT w b r es done)
    (hDone : done.Perm es → wpListIn F n P ops Q rest (a.put o.dst (.tuple #[.bool false])) w)
    (hMore : ∀ (p : Int × Value) (w' : World), p ∈ es → p ∉ done → RangesI P kT w' b r es (done ++ [p]) → w'.rangeLeft b r < w.rangeLeft b r → w.grownBy w' (some r) → w'.heap.size = w.heap.size →
      (Instr.entry (.pointer (some ⟨r, 0, none⟩))).run P w' = .ok (.tuple #[.int .i64 p.1, p.2]) w' → wpListIn F n P ops Q rest (a.put o.dst (.tuple #[.bool true, .int .i64 p.1, p.2])) w') :
    wpListIn F n P ops Q (o :: rest) a w := by
  have hI := h.map.inc hk
  have hperm := fun hall => h.done_perm hk hall
  obtain ⟨left, cnt, hrg, hleft, hsub, hnd⟩ := h
  refine wpListIn_next_ranges w hg it hop kT (int_keyed hk) rawR (Value.int .i64) id (fun key kl hkey => by obtain ⟨x, rfl, _⟩ := Maps.keyOf_int_inv hk hkey; exact ⟨x, rfl⟩) (fun v y hv => ⟨v, rfl⟩) b r es.length (asD es) left cnt hit hrg (fun _ hl => hDone (hperm fun p hp => ?_)) (fun x c kl y w' cnt' hkey hlk hv hat hrg' hlt hgr hsz hen => ?_)
  · have := hleft p hp
    rw [hl] at this
    simpa using this
  · obtain ⟨x', ex, rfl, hwx⟩ := Maps.keyOf_int_inv hk hkey
    cases ex
    have hhas : (atI es x).isSome = true := by rw [← has_asD]; exact Maps.has_true_of_atKey hat
    obtain ⟨v, hv'⟩ := Option.isSome_iff_exists.1 hhas
    have hc : c = v := by
      have h1 := hat (.held (.bool false))
      rw [atKey_asD, hv'] at h1
      have h2 := (Prod.mk.inj (Option.some.inj hv)).1
      rw [← h1] at h2
      exact DataW.held.inj h2
    subst hc
    have hp := atI_mem hv'
    have hnot : (x, c) ∉ done := fun hm => by
      exact (hleft _ hp).1 hlk hm
    refine hMore (x, c) w' hp hnot ⟨_, cnt', hrg', fun p hp' => ?_, fun p hp' => ?_, ?_⟩ (by rw [hrg'.left_eq, hrg.left_eq]; exact hlt) hgr hsz hen
    · show (left (.int .i64 p.1) && !(Lit.int .i64 p.1).sameKey (.int .i64 x)) = true ↔ _
      rw [Bool.and_eq_true, hleft p hp']
      by_cases hpx : p.1 = x
      · obtain rfl := inc_key hI hp' hp hpx
        simp [Lit.sameKey]
      · have hne : p ≠ (x, c) := fun e => hpx (by rw [e])
        simp [Lit.sameKey, hpx, hne]
    · rcases List.mem_append.1 hp' with h1 | h1
      · exact hsub p h1
      · obtain rfl := List.mem_singleton.1 h1
        exact hp
    · rw [List.nodup_append]
      exact ⟨hnd, by simp, fun p hp1 q hq => by obtain rfl := List.mem_singleton.1 hq; exact fun e => hnot (e ▸ hp1)⟩
end

/-- A map of int64s plainly. -/
abbrev Rv := List (Int × Int)
def ev (p : Int × Int) : Int × Value := (p.1, .int .i64 p.2)
abbrev MapV (w : World) (b : Nat) (r : Rv) : Prop := MapI Tryz.prog 3 w b (r.map ev)
def valI : Value → Int
  | .int _ x => x
  | _ => 0
def donV (d : List (Int × Value)) : List Int := d.map fun p => valI p.2
theorem rng_walk {P : Program} {kT : TypeId} {w : World} {b r : Nat} {es done : List (Int × Value)} (h : RangesI P kT w b r es done) : ∃ o : Obj, w.heap[r]? = some o ∧ o.isWalk = true := by
  obtain ⟨left, cnt, h1, _⟩ := h
  exact h1.iter_walk
theorem rngI_walks {P : Program} {kT : TypeId} {w w' : World} {b r : Nat} {es done : List (Int × Value)} (h : RangesI P kT w b r es done) (hk : KeepsWalks w w') : RangesI P kT w' b r es done := by
  obtain ⟨left, cnt, h1, h2⟩ := h
  have hw := h1.iter_walk
  obtain ⟨es', clock, since, seen, c0, g1, F, hs, hD, g2, rest⟩ := h1
  refine ⟨left, cnt, ⟨es', clock, since, seen, c0, hk.same _ _ g1 rfl, F, hs, hD, ?_, rest⟩, h2⟩
  exact hk.same _ _ g2 rfl
open Classical in
theorem sub_lenC {α : Type} : ∀ (a b : List α), a.Nodup → (∀ x ∈ a, x ∈ b) → a.length ≤ b.length
  | [], b, _, _ => Nat.zero_le _
  | x :: a, b, hn, h => by
    obtain ⟨h1, h2⟩ := List.nodup_cons.1 hn
    have hx := h x (List.mem_cons_self ..)
    have h3 := sub_lenC a (b.erase x) h2 fun y hy => (List.mem_erase_of_ne (fun e => h1 (by rw [← e]; exact hy))).2 (h y (List.mem_cons_of_mem _ hy))
    rw [List.length_erase_of_mem hx] at h3
    have : 0 < b.length := List.length_pos_of_mem hx
    rw [List.length_cons]
    omega
theorem done_le {P : Program} {kT : TypeId} {w : World} {b r : Nat} {es done : List (Int × Value)} (h : RangesI P kT w b r es done) : done.length ≤ es.length := by
  obtain ⟨left, cnt, _, _, h3, h4⟩ := h
  exact sub_lenC _ _ h4 fun p hp => h3 p hp

set_option maxHeartbeats 4000000 in
theorem values64_gives (d Bm mb : Nat) (hd : 1 ≤ d) (r : Rv) (w : World) (hB : w.cell? ⟨Bm, 0, none⟩ = some (.map (some mb))) (hBl : Bm < w.heap.size) (hm : MapV w mb r) :
    GivesKnown Fence.wide d Tryz.prog 108 #[.pointer (some ⟨Bm, 0, none⟩)] (fun x : Int => #[.int .i64 x]) (fun _ _ _ => True) (fun _ => KeepsWalks) (fun xs => xs.Perm (r.map (·.2))) (fun _ => True) r.length w := by
  intro l J Jx W hW hJ hJx hY h0
  have cm : W.cell? ⟨Bm, 0, none⟩ = some (.map (some mb)) := (hW.cell (p := ⟨Bm, 0, none⟩) hBl).trans hB
  have hM := MapI.keep hm hW
  have HM := Lib.hid hM
  have HY := Lib.hid hY
  have HJ := Lib.hid hJ
  have H0 := Lib.hid h0
  clear hW hB hM hY hJ h0 hm hJx
  refine callsIn_of_wp Tryz.func108 rfl trivial ?_ rfl
  simp only [Tryz.ntmps108, List.size_toArray, List.length_cons, List.length_nil, Nat.reduceAdd, Nat.reduceSub, Array.replicate_succ, Array.replicate_zero, List.push_toArray, List.append_toArray, List.nil_append, List.cons_append]
  gi_wp2_with (gi_at_range; refine wpListIn_rangeI _ rfl _ _ rfl 2 kInt Tryz.underlying121 mb _ rfl HM.out ?_; intro w0 hrg0 hg0 hs0; have HR0 := Lib.hid hrg0; have HG0 := Lib.hid hg0; clear hrg0 hg0 hs0)
  have HJ0 := Lib.hid (HJ.out [] W w0 none H0.out HG0.out (fun r e => by cases e))
  clear H0
  obtain ⟨it, hit⟩ : ∃ it, it = W.heap.size := ⟨_, rfl⟩
  rw [← hit] at HR0 ⊢
  have HIt := Lib.hid hit
  clear hit
  gi_loopw [] (fun wr => ∃ done : List (Int × Value), Hid (RangesI Tryz.prog 3 wr mb it (r.map ev) done) ∧ Hid (J (donV done) wr)) (fun wr => wr.rangeLeft mb it)
  case atStart => exact ⟨[], HR0, HJ0⟩
  case round =>
    obtain ⟨done, HRg, HJd⟩ := hrel
    gi_wp2_with (gi_at_next; refine wpListIn_nextI _ rfl _ rfl kInt mb it _ done rfl HRg.out ?_ ?_)
    · intro hperm
      have HPm := Lib.hid hperm
      clear hperm
      gi_wp2
      go_end0
      refine ⟨⟨_, rfl⟩, .inl ⟨donV done, ?_, HJd.out⟩⟩
      have h := HPm.out.map fun p : Int × Value => valI p.2
      rw [List.map_map] at h
      exact h
    · intro x c w2 qa qb hq hqe hpd hrg2 hlt2 hg2 hs2 hen
      obtain ⟨rfl, rfl⟩ : qa = x ∧ Value.int .i64 qb = c := by unfold ev at hqe; exact Prod.mk.inj hqe
      clear hqe
      have HJ2 := Lib.hid (HJ.out _ _ _ (some it) HJd.out hg2 (fun r e => by cases e; exact ⟨by have := HIt.out; omega, rng_walk HRg.out⟩))
      have hle := done_le hrg2
      rw [List.length_append, List.length_map] at hle
      have hyl : (donV done).length < r.length := by unfold donV; rw [List.length_map]; simp at hle; omega
      obtain ⟨fn, tmps, assign, body, hy, hR⟩ := HY.out (donV done) qb w2 HJ2.out trivial hyl
      have hdv : donV (done ++ [ev (qa, qb)]) = donV done ++ [qb] := by unfold donV; rw [List.map_append]; rfl
      rw [← hdv] at hR
      have HRr := Lib.hid hR
      have HRg2 := Lib.hid hrg2
      have HLt := Lib.hid hlt2
      clear hR hrg2 hlt2 hq hpd hg2 hs2 hle hyl hdv
      gi_wp2_with ((try refine ⟨fun h => (by cases h), ?_⟩); refine HRr.out.mono ?_; clear HRr; rintro e W3 (⟨rfl, hJ3, hk3⟩ | ⟨rfl, hx3⟩))
      · have HJ3 := Lib.hid hJ3
        have HR3 := Lib.hid (rngI_walks HRg2.out hk3)
        have HK3 := Lib.hid hk3
        clear hJ3 hk3 hy hen
        go_roundw
        case rel => exact ⟨done ++ [ev (qa, qb)], HR3, HJ3⟩
        case measure =>
          obtain ⟨left, cnt, h1, _⟩ := HRg2.out
          have h2 := h1.of_walks HK3.out
          rw [h2.left_eq, ← h1.left_eq]
          exact HLt.out
      · refine bodyPost_ret (results_none rfl _ _ _) rfl ?_
        exact ⟨⟨_, rfl⟩, .inr ⟨_, trivial, hx3⟩⟩
theorem Values64_any (mb : Option Nat) (w : World) : Calls Tryz.prog 72 #[.map mb] w fun e w' => e = .returned (.func (.func 108) #[] #[.pointer (some ⟨w.heap.size, 0, none⟩)]) ∧ w' = w.alloc (.cells #[.map mb] 121) := by
  go_enter Tryz.func72, Tryz.ntmps72
  go_wp2_with fail
  go_ret
  exact ⟨rfl, rfl⟩

set_option maxHeartbeats 4000000 in
theorem AppendSeq64_any (r : Rv) (Bm mb : Nat) (w : World) (hB : w.cell? ⟨Bm, 0, none⟩ = some (.map (some mb))) (hBl : Bm < w.heap.size) (hm : MapV w mb r) (hn : r.length ≤ 1048576) :
    Calls Tryz.prog 107 #[.slice none 0 0, .func (.func 108) #[] #[.pointer (some ⟨Bm, 0, none⟩)]] w fun e w' => ∃ (v : Value) (xs : List Int), e = .returned v ∧ xs.Perm (r.map (·.2)) ∧ w'.ownsRow w.heap.size 2 1 v xs.length (xs.map (Value.int .i64)) ∧ Below w.heap.size w w' := by
  refine (callsIn_wide (n := 5)).1 ?_
  refine callsIn_of_wp_marks Tryz.func107 rfl trivial ?_ rfl
  simp only [Tryz.ntmps107, List.size_toArray, List.length_cons, List.length_nil, Nat.reduceAdd, Nat.reduceSub, Array.replicate_succ, Array.replicate_zero, List.push_toArray, List.append_toArray, List.nil_append, List.cons_append]
  gi_wp2
  have hw1 : (w.alloc (.cells #[.slice none 0 0] 122)).heap.size = w.heap.size + 1 := by simp
  have hb1 := bel_al (Below.refl w.heap.size w) (.cells #[.slice none 0 0] 122)
  have hgv := values64_gives (5 - 1) Bm mb (by omega) r _ ((hb1.cell (p := ⟨Bm, 0, none⟩) hBl).trans hB) (by rw [hw1]; omega) (MapI.keep hm hb1)
  obtain ⟨i0, hi, hz0, hz1, hz2⟩ := info_parts elemI64r.hi
  refine rangeFunc_one (fun x b => { b with tmps := b.tmps.setIfInBounds 5 (.int .i64 x) }) rfl (by omega) (gf := 108) (lb := #[.pointer (some ⟨Bm, 0, none⟩)]) rfl trivial (enters_of Tryz.func108 (by kernel_rfl) rfl)
    hgv (fun pre x W l o o' hl ho h => trivial) (fun h k => h.trans k) (fun _ W l o o' _ hl ho hw => KeepsWalks.putObj _ hl hw) (Below.refl _ _)
    (fun pre W => (∃ v, Boxed W w.heap.size 122 v ∧ W.ownsRow w.heap.size 2 1 v pre.length (pre.map (Value.int .i64)) ∧ True) ∧ Below w.heap.size w W) (fun _ _ _ => False)
    (OwnFrom.and (Own.from (holdsRow_own w.heap.size w.heap.size 122 2 1 (fun pre : List Int => pre.length) (fun pre => pre.map (Value.int .i64)) (fun _ _ => True)) _) (ownFrom_below (Nat.le_refl _) (by rw [hw1]; omega)))
    (fun c s A B row hs _ _ => hs.elim) ⟨⟨_, Boxed.new _ _ _, World.ownsRow_nil _ _ _ _, trivial⟩, hb1⟩ ?assign ?body ?done ?stop
  case assign =>
    intro l x W K hK
    gi_wp2
    exact hK
  case body =>
    rintro lp pre x W ⟨⟨v, hv, hrow, _⟩, hB2⟩ hx hlt
    have hc := hv.cell
    have HV := Lib.hid hv
    have HR := Lib.hid hrow
    have HB := Lib.hid hB2
    clear hv hrow hB2 hgv
    gi_wp2_with (gi_at_builtin; refine wpListIn_append_own _ rfl _ _ 122 rfl w.heap.size 2 i0 (.int .i64 0) 1 8 Tryz.underlying122 hi hz0 hz1 hz2 rfl (by decide) _ _ _ rfl (HR.out.alloc _) ⟨W.heap.size, 0, none⟩ 1 1 [.int .i64 x] rfl rfl (cell_one_new _ _ _) (by simp [Value.oneCell']) (by unfold maxLen; omega) (by omega) (by have := HB.out.size; simp; omega) ?_; intro v' w1 hown' hgrow _; obtain ⟨g', cap', rfl⟩ := ownsRow_succ hown'; obtain ⟨hv1, hv2, hr2, hk2, hb2⟩ := HV.out.appended (by decide) HR.out HB.out.size (Nat.le_refl _) hown' hgrow; have hc1 := hv1.cell; have hf1 := hv1.frozen)
    refine ⟨hk2, hk2.walks, ⟨_, hv2, ?_, trivial⟩, HB.out.trans hb2⟩
    rw [List.length_append, List.map_append]
    exact hr2
  case done =>
    rintro D xs W hD hS ⟨⟨v, hv, hrow, _⟩, hB2⟩ hK
    have hc := hv.cell
    rw [hw1] at hD
    gi_wp2
    refine ⟨by simp, .inl ⟨_, _, rfl, run_takeDeferred hK, ?_⟩⟩
    refine ⟨_, results_tmp rfl _ _ _, _, xs, rfl, hS, ?_, hB2.trans (belowK_b (w := w) (Nat.le_refl _) W D _ _ (by omega) hK rfl rfl)⟩
    exact ownsRow_putObj hrow _ hK rfl
  case stop =>
    rintro D c pre W _ _ h _
    exact h.elim

theorem Collect64_any (r : Rv) (Bm mb : Nat) (w : World) (hB : w.cell? ⟨Bm, 0, none⟩ = some (.map (some mb))) (hBl : Bm < w.heap.size) (hm : MapV w mb r) (hn : r.length ≤ 1048576) :
    Calls Tryz.prog 71 #[.func (.func 108) #[] #[.pointer (some ⟨Bm, 0, none⟩)]] w fun e w' => ∃ (v : Value) (xs : List Int), e = .returned v ∧ xs.Perm (r.map (·.2)) ∧ w'.ownsRow w.heap.size 2 1 v xs.length (xs.map (Value.int .i64)) ∧ Below w.heap.size w w' := by
  have HC := Lib.hid (AppendSeq64_any r Bm mb w hB hBl hm hn)
  clear hB hBl hm hn
  go_enter Tryz.func71, Tryz.ntmps71
  go_wp2_with fail
  refine HC.out.mono ?_
  rintro e w' ⟨v, xs, rfl, hp, hown, hb⟩
  have HP := Lib.hid hp
  have HO := Lib.hid hown
  have HB := Lib.hid hb
  clear hp hown hb
  go_wp2_with fail
  go_ret
  exact ⟨v, xs, rfl, HP.out, HO.out, HB.out⟩
end Go.Proofs.YtmonepclhbappaaGreatDoor
