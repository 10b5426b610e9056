/-
  Part 18 of the proof of OdagMerge: OdRr, ErrIn, OdRd, WrB.
-/
import Derived.BigQuiet
import Derived.Deep.DeepCutAuto
import Derived.Test.YtmonepclhbappaaGreatDoorOdagMergeM17
import Derived.Test.YtmonepclhbappaaGreatDoorOdagMergeM5
import Derived.Test.YtmonepclhbappaaGreatDoorOdagMergeM14
import Derived.Test.YtmonepclhbappaaGreatDoorOdagMergeM10
import Derived.WalkSpells
/-
  Odags: read: rows, and then links.
-/
namespace Go.Proofs.YtmonepclhbappaaGreatDoor
open Go.RowKit Go.Maps
set_option maxRecDepth 100000
set_option linter.unusedVariables false

theorem mid_set {α : Type} (L R : List α) (x y : α) : (L ++ x :: R).set L.length y = L ++ y :: R := by
  induction L with
  | nil => rfl
  | cons z L ih => rw [List.cons_append, List.length_cons, List.set_cons_succ, ih]; rfl
theorem mid_get {α : Type} (L R : List α) (x : α) : (L ++ x :: R)[L.length]? = some x := by simp
/-- The rows read, those to be read. -/
def rowsK (KL : List (List Int)) (r : Rw) (m : Nat) : List Rw := KL.map bare ++ r :: List.replicate m []
theorem rowsK_get {KL : List (List Int)} {r : Rw} {m i : Nat} (h : KL.length = i) : (rowsK KL r m)[i]? = some r := by
  have := mid_get (KL.map bare) (List.replicate m []) r
  rw [List.length_map, h] at this
  exact this
theorem rowsK_set {KL : List (List Int)} {r r' : Rw} {m i : Nat} (h : KL.length = i) : (rowsK KL r m).set i r' = rowsK KL r' m := by
  have := mid_set (KL.map bare) (List.replicate m []) r r'
  rw [List.length_map, h] at this
  exact this
theorem rowsK_next {KL : List (List Int)} {xs : List Int} {N i : Nat} : rowsK KL (bare xs) (N - (i + 1)) = (KL ++ [xs]).map bare ++ List.replicate (N - (i + 1)) [] := by
  unfold rowsK
  rw [List.map_append, List.append_assoc]
  rfl
theorem rowsK_first {KL : List (List Int)} {N i : Nat} (h : i < N) : KL.map bare ++ List.replicate (N - i) [] = rowsK KL (bare []) (N - (i + 1)) := by
  unfold rowsK
  rw [show N - i = (N - (i + 1)) + 1 by omega, List.replicate_succ]
  rfl

/-- What read leaves. -/
def ReadPost (w0 : World) (B g O : Nat) (v : Value) (bs : List Nat) (A : Option Addr) (n c : Nat) (l : List Int) (N : Nat) (e : Ending) (w' : World) : Prop :=
  (∃ a E rvv its od', e = .returned .nilIface ∧ (E = .nil ∨ rdBad E) ∧ Mem w0 B g O v bs A n c a E rvv its od' w' ∧ WfO od' N ∧ (E = .nil → a ≤ l.length ∧ l.take a = bytesO od') ∧ ∀ od, WfO od N → bytesO od = l → E = .nil ∧ od' = od) ∨
  ∃ gv cc t a, (cc = 2 ∨ cc = 3) ∧ e = .returned (.iface 104 (.pointer (some ⟨gv, 0, none⟩))) ∧ Blk w' gv 107 #[.int .i64 cc, .int .i64 0, .string t] ∧ Rd w' B g A n c a .nil ∧ Below B w0 w' ∧ ∀ od, WfO od N → bytesO od ≠ l

set_option maxHeartbeats 32000000 in
theorem read_any (w0 w : World) (B g O N : Nat) (v : Value) (bs : List Nat) (A : Option Addr) (n c : Nat) (l : List Int) (hn : n ≤ 100000) (hnc : n ≤ c) (hc9 : c ≤ 9223372036854775807) (hl : l.length = n) (hb : Bys l) (hBy : ∀ W, Below B w0 W → Sl W 1 A n (l.map (Value.int .u8))) (h1 : 1 ≤ N) (h8 : N ≤ 8)
    (hM : Mem w0 B g O v bs A n c 4 .nil (.slice none 0 0) [] (List.replicate N []) w) (hbs : ∀ b ∈ bs, B ≤ b) (hI : RI l N 0 .nil 4 []) :
    Calls Tryz.prog 65 #[.pointer (some ⟨O, 0, none⟩), .pointer (some ⟨g, 0, none⟩)] w (ReadPost w0 B g O v bs A n c l N) := by
  have hown := hM.2.2.2.1.2.1
  have hbl : bs.length = N := by have := hM.2.2.2.1.1; rwa [List.length_replicate] at this
  rw [List.length_replicate] at hown
  obtain ⟨rb, c0, rfl, _⟩ := own_form hown h1
  have HM := Lib.hid hM
  have HI := Lib.hid hI
  have HBl := Lib.hid hbl
  have HBs := Lib.hid hbs
  have HBy := Lib.hid hBy
  have HL := Lib.hid hl
  have HBt := Lib.hid hb
  have HCe := Lib.hid (show ∀ (a : Nat) (E : Err) (rvv : Value) (its : List (Option Addr × Nat × List Int)) (od : List Rw) (W : World) (i b : Nat), Mem w0 B g O (.slice (some ⟨rb, 0, none⟩) N c0) bs A n c a E rvv its od W → od.length = N → bs[i]? = some b → W.cell? ⟨O, 0, none⟩ = some (.slice (some ⟨rb, 0, none⟩) N c0) ∧ W.cell? ⟨rb, i, none⟩ = some (.map (some b)) from fun a E rvv its od W i b hM hol hi => by
    obtain ⟨_, _, _, hO, _⟩ := hM
    have d0 := hO.2.2.2.2.cell 0
    simp at d0
    have ho := hO.2.1
    rw [hol] at ho
    have hlt := (List.getElem?_eq_some_iff.1 hi).1
    have d1 := (Sl.of_own ho).again (k := i) (by omega) (show (mps bs)[i]? = some (.map (some b)) by unfold mps; rw [List.getElem?_map, hi]; rfl)
    rw [Nat.zero_add] at d1
    exact ⟨d0, d1⟩)
  have d0 := (HCe.out 4 .nil _ [] _ w 0 bs[0] hM (by simp) (List.getElem?_eq_getElem (by omega))).1
  clear hM hI hown hbl hbs hBy hb hl
  go_enter Tryz.func65, Tryz.ntmps65
  go_wp2_with fail
  go_loopw [5, 21] (fun rvv iv wr => ∃ (i a : Nat) (E : Err) (its : List (Option Addr × Nat × List Int)) (KL : List (List Int)), i ≤ N ∧ iv = .int .i64 (i : Int) ∧ Hid (its.map (·.2.2) = KL ∧ (E = .nil ∨ rdBad E) ∧ RI l N i E a KL) ∧ Hid (Mem w0 B g O (.slice (some ⟨rb, 0, none⟩) N c0) bs A n c a E rvv its (KL.map bare ++ List.replicate (N - i) []) wr)) (fun _ iv _ => N - (intOf iv).toNat)
  case atStart => exact ⟨0, 4, .nil, [], [], Nat.zero_le _, rfl, Lib.hid ⟨rfl, .inl rfl, HI.out⟩, HM⟩
  case round =>
    clear HM HI d0
    obtain ⟨i, a, E, its, KL, hi, rfl, HS, HM⟩ := hrel
    by_cases hin : i < N
    · have hin' : (i : Int) < (N : Int) := by omega
      have hi0 : (0 : Int) ≤ (i : Int) := by omega
      have HLs := Lib.hid (OdList_any g B A n c a E l wr HM.out.1 HS.out.2.1 hn hnc hc9 HL.out HBt.out (fun W hW => HBy.out W (HM.out.2.2.2.2.trans hW)))
      go_upto_region 6 with (go_at_call 99; refine HLs.out.mono ?_; clear HLs; intro e w1 hp; obtain ⟨lv, ev, rfl, hb1, ha1, hd1⟩ := hp.out; have HB1 := Lib.hid hb1; have HA1 := Lib.hid ha1; have HD1 := Lib.hid hd1; clear hp hb1 ha1 hd1)
      rcases HD1.out with ⟨rfl, xs, hown, hx⟩ | ⟨gv, cc, t, hcc, rfl, hblk, hE, hok, hno, hrd⟩
      · obtain ⟨X, xc, rfl, hsl⟩ := Sl.own hown
        obtain ⟨a', E', hE', hM1, hR1, hxi⟩ : ∃ a' E', (E' = .nil ∨ rdBad E') ∧ Mem w0 B g O (.slice (some ⟨rb, 0, none⟩) N c0) bs A n c a' E' u5 its (KL.map bare ++ List.replicate (N - i) []) w1 ∧ RI l N (i + 1) E' a' (KL ++ [xs]) ∧ rightO xs := by
          rcases hx with ⟨x1, x2, x3, x4, x5⟩ | ⟨x1, x2, a', E', x3, x4⟩
          · refine ⟨_, _, .inl rfl, HM.out.read HB1.out HA1.out x5, ?_, x4⟩
            rw [x3]
            exact HS.out.2.2.good hin HBt.out x1 x2 (by rw [← x3]; exact x4)
          · refine ⟨_, _, .inr x3, HM.out.read HB1.out HA1.out x4, ?_, by rw [x1]; exact ⟨List.Pairwise.nil, fun x hx => by cases hx⟩⟩
            rw [x1]
            exact HS.out.2.2.bad hin x2 x3.ne
        have hy : RowOK w1 (X, xc, xs) ∧ IntAt w1 X := ⟨⟨hsl, own_cap hown⟩, IntAt.of_own hown⟩
        have HHx := Lib.hid hxi
        have HEx := Lib.hid hE'
        have HRx := Lib.hid hR1
        have HMx := Lib.hid hM1
        have HYx := Lib.hid hy
        have hil : its.length = i := by
          have := HS.out.2.2.1
          rw [← HS.out.1, List.length_map] at this
          exact this
        have HIl := Lib.hid hil
        have HO1 := Lib.hid (show w1.ownsRow B 22 1 u5 i (its.map rv) from by have := hM1.2.1; rwa [hil] at this)
        have HSz := Lib.hid hM1.size
        have hxl : xs.length ≤ 65536 := (hR1.2.1 xs (List.mem_append_right _ (List.mem_singleton_self _))).2
        obtain ⟨m, hm⟩ : ∃ m, m = xs.length := ⟨_, rfl⟩
        rw [← hm] at hxl ⊢
        have HMl := Lib.hid hm
        clear hown hx hsl hE' hM1 hR1 hxi hy hil hm HD1 HB1 HA1
        go_wp2_with (at_builtin; refine wpList_cat_at elemIntsQ _ _ rfl rfl (HO1.out.alloc _) (by have := HSz.out; simp; omega) (Sl.newAt w1 _ _ 1 rfl) rfl rfl (by simp [Value.oneCell']) (by unfold lim; omega) (by unfold lim; omega) ?_; intro v6 w6 hown6 hgr6; have HO6 := Lib.hid hown6; have HG6 := Lib.hid hgr6; clear hown6 hgr6)
        have HM6 := Lib.hid (show Mem w0 B g O (.slice (some ⟨rb, 0, none⟩) N c0) bs A n c a' E' v6 (its ++ [(X, xc, xs)]) (rowsK KL (bare (xs.take 0)) (N - (i + 1))) w6 from by
          have h := HMx.out.push HYx.out (by rw [HIl.out]; have h := HO6.out; simp only [rv, ← HMl.out]; exact h) HG6.out
          rw [rowsK_first hin] at h
          rw [List.take_zero]
          exact h)
        clear HMx HO1 HO6 HG6 HSz HYx
        go_loopw [38] (fun kv wr => ∃ k : Nat, k ≤ m ∧ kv = .int .i64 (k : Int) ∧ Hid (Mem w0 B g O (.slice (some ⟨rb, 0, none⟩) N c0) bs A n c a' E' v6 (its ++ [(X, xc, xs)]) (rowsK KL (bare (xs.take k)) (N - (i + 1))) wr)) (fun kv _ => m - (intOf kv).toNat)
        case atStart => exact ⟨0, Nat.zero_le _, rfl, HM6⟩
        case round =>
          clear HM6
          obtain ⟨k, hk, rfl, HMk⟩ := hrel
          by_cases hkm : k < m
          · have hkm' : (k : Int) < (m : Int) := by omega
            have hk0 : (0 : Int) ≤ (k : Int) := by omega
            obtain ⟨y, hy⟩ : ∃ y, xs[k]? = some y := ⟨_, List.getElem?_eq_getElem (by rw [← HMl.out]; exact hkm)⟩
            have hrow := (HMk.out.2.2.1 (X, xc, xs) (List.mem_append_right _ (List.mem_singleton_self _))).1.1
            simp only at hrow
            rw [← HMl.out] at hrow
            obtain ⟨xb, xo, rfl, _⟩ := hrow.at_ (show 0 < m by omega)
            have cy := hrow.again hkm (show (xs.map (Value.int .i64))[k]? = some (.int .i64 y) by rw [List.getElem?_map, hy]; rfl)
            obtain ⟨b, hb⟩ : ∃ b, bs[i]? = some b := ⟨_, List.getElem?_eq_getElem (by rw [HBl.out]; exact hin)⟩
            have hkl : KL.length = i := HS.out.2.2.1
            have hol : (rowsK KL (bare (xs.take k)) (N - (i + 1))).length = N := by unfold rowsK; simp; omega
            obtain ⟨d0, d1⟩ := HCe.out _ _ _ _ _ wr i b HMk.out hol hb
            have hxn : numOK y := HHx.out.2 y (List.mem_of_getElem? hy)
            have HPut := Lib.hid (show ∀ V, Below wr.heap.size wr V → Calls Tryz.prog 67 #[.map (some b), .int .i64 y, .slice none 0 0] V (fun e w' => e = .returned (.tuple #[]) ∧ Mem w0 B g O (.slice (some ⟨rb, 0, none⟩) N c0) bs A n c a' E' v6 (its ++ [(some ⟨xb, xo, none⟩, xc, xs)]) (rowsK KL (bare (xs.take (k + 1))) (N - (i + 1))) w') from fun V hV => by
              have hMV := HMk.out.keep hV
              have hrt := hMV.2.2.2.1.2.2.2.1 i b _ hb (rowsK_get hkl)
              refine (put_anyT b (bare (xs.take k)) y none 0 0 [] V hrt (by unfold bare; rw [List.length_map, List.length_take]; omega) (fun q hq => by obtain ⟨x, _, rfl⟩ := List.mem_map.1 hq; simp) (by unfold numOK at hxn; omega) ⟨Sl.nil _ _ _, Nat.le_refl _, Nat.zero_le _⟩ rfl (by omega)).mono fun e w' ⟨p1, p2, p3⟩ => ⟨p1, ?_⟩
              rw [bare_step HHx.out.1 hy] at p2
              have h := hMV.put hb (HBs.out b (List.mem_of_getElem? hb)) hrt.row.isMap p3 p2
              rw [rowsK_set hkl] at h
              exact h)
            clear hy hrow hb hkl hol hxn
            go_wp2_with (go_at_call 67; refine (HPut.out _ (by first | exact Below.refl _ _ | exact bel_drewN (Below.refl _ _) 1)).mono ?_; clear HPut; rintro e w3 ⟨rfl, hm3⟩; have HM3 := Lib.hid hm3; clear hm3)
            go_roundw
            case rel => exact ⟨k + 1, by omega, by go_num, HM3⟩
            case measure => simp [intOf]; omega
          · obtain rfl : k = m := by omega
            have hkm' : ¬ (k : Int) < (k : Int) := by omega
            have HMn := Lib.hid (show Mem w0 B g O (.slice (some ⟨rb, 0, none⟩) N c0) bs A n c a' E' v6 (its ++ [(X, xc, xs)]) ((KL ++ [xs]).map bare ++ List.replicate (N - (i + 1)) []) wr from by
              have h := HMk.out
              rw [List.take_of_length_le (by rw [← HMl.out]; exact Nat.le_refl _), rowsK_next] at h
              exact h)
            go_wp2_with fail
            go_roundw
            case rel => exact ⟨i + 1, a', E', _, _, by omega, by go_num, Lib.hid ⟨by rw [List.map_append, HS.out.1]; rfl, HEx.out, HRx.out⟩, HMn⟩
            case measure => simp [intOf]; omega
      · go_wp2_with fail
        go_ret
        exact .inr ⟨gv, cc, t, _, hcc, rfl, hblk, hrd, HM.out.2.2.2.2.trans HB1.out, HS.out.2.2.stop hin hno⟩
    · obtain rfl : i = N := by omega
      have hin' : ¬ (i : Int) < (i : Int) := by omega
      have HRO := Lib.hid (HS.out.2.2.done h1)
      have HKg := Lib.hid HS.out.2.2.2.1
      have hkl : KL.length = i := HS.out.2.2.1
      have hil : its.length = i := by rw [← HS.out.1, List.length_map] at hkl; exact hkl
      have hM := HM.out
      rw [Nat.sub_self, List.replicate_zero, List.append_nil] at hM
      have hro := hM.2.1
      rw [hil] at hro
      obtain ⟨rr, cr, rfl, _⟩ := own_form hro h1
      have HMe := Lib.hid hM
      have HKl := Lib.hid (And.intro hkl (And.intro hil HS.out.1))
      have HEe := Lib.hid HS.out.2.1
      have HRc := Lib.hid (show ∀ (a : Nat) (E : Err) (od : List Rw) (W : World) (j : Nat) (t : Option Addr × Nat × List Int), Mem w0 B g O (.slice (some ⟨rb, 0, none⟩) i c0) bs A n c a E (.slice (some ⟨rr, 0, none⟩) i cr) its od W → its[j]? = some t → W.cell? ⟨rr, j, none⟩ = some (rv t) from fun a E od W j t hM ht => by
        have ho := hM.2.1
        rw [hil] at ho
        have hlt := (List.getElem?_eq_some_iff.1 ht).1
        have d1 := (Sl.of_own ho).again (k := j) (by omega) (show (its.map rv)[j]? = some (rv t) by rw [List.getElem?_map, ht]; rfl)
        rw [Nat.zero_add] at d1
        exact d1)
      obtain ⟨N1, hN1⟩ : ∃ N1, i = N1 + 1 := ⟨i - 1, by omega⟩
      have hw1 : IntKind.i64.wrap ((i : Int) - 1) = (N1 : Int) := by rw [IntKind.wrap_i64]; omega
      have HN1 := Lib.hid hN1
      clear hkl hil hM hro hN1 HS HM
      go_wp2_with fail
      go_loopw [56] (fun jv wr => ∃ (j a : Nat) (E : Err) (od' : List Rw), j ≤ N1 ∧ jv = .int .i64 (j : Int) ∧ Hid ((E = .nil ∨ rdBad E) ∧ RO l i KL j E a od') ∧ Hid (Mem w0 B g O (.slice (some ⟨rb, 0, none⟩) i c0) bs A n c a E (.slice (some ⟨rr, 0, none⟩) i cr) its od' wr)) (fun jv _ => N1 - (intOf jv).toNat)
      case atStart => exact ⟨0, a, E, _, Nat.zero_le _, rfl, Lib.hid ⟨HEe.out, HRO.out⟩, HMe⟩
      case round =>
        clear HMe HEe HRO
        obtain ⟨j, a, E, od', hj, rfl, HS, HM⟩ := hrel
        by_cases hjn : j < N1
        · have hjn' : (j : Int) < (N1 : Int) := by omega
          have hj0 : (0 : Int) ≤ (j : Int) := by omega
          have hji : (j : Int) < (i : Int) := by have := HN1.out; omega
          obtain ⟨D, d, ks, ht, hks⟩ := its_row (its := its) (k := j) (by rw [HKl.out.2.1]; have := HN1.out; omega)
          rw [HKl.out.2.2] at hks
          obtain ⟨D2, d2, ks2, ht2, hks2⟩ := its_row (its := its) (k := j + 1) (by rw [HKl.out.2.1]; have := HN1.out; omega)
          rw [HKl.out.2.2] at hks2
          have hgd : KL.getD j [] = ks := by rw [List.getD_eq_getElem?_getD, hks]; rfl
          have hgd2 : KL.getD (j + 1) [] = ks2 := by rw [List.getD_eq_getElem?_getD, hks2]; rfl
          have hkr := HKg.out ks (List.mem_of_getElem? hks)
          have hkr2 := HKg.out ks2 (List.mem_of_getElem? hks2)
          have c1 := HRc.out _ _ _ _ j _ HM.out ht
          simp only [rv] at c1
          obtain ⟨b, hb⟩ : ∃ b, bs[j]? = some b := ⟨_, List.getElem?_eq_getElem (by rw [HBl.out]; have := HN1.out; omega)⟩
          have HT := Lib.hid (And.intro ht (And.intro ht2 (And.intro hgd (And.intro hgd2 (And.intro hkr (And.intro hkr2 hb))))))
          have HRN := Lib.hid HS.out.2.begin
          have HMs := Lib.hid (show Mem w0 B g O (.slice (some ⟨rb, 0, none⟩) i c0) bs A n c a E (.slice (some ⟨rr, 0, none⟩) i cr) its (od'.set j ([] ++ bare (ks.drop 0))) wr from by
            have h := HS.out.2.2.2.2.1 j (Nat.le_refl _) (by have := HN1.out; omega)
            rw [hgd] at h
            have hlo : j < od'.length := by have := HS.out.2.1; have := HN1.out; omega
            have e : od'.set j ([] ++ bare (ks.drop 0)) = od' := by
              rw [List.nil_append, List.drop_zero, ← h, getD_in hlo]
              exact List.set_getElem_self hlo
            rw [e]
            exact HM.out)
          have hEE := HS.out.1
          have HEE := Lib.hid hEE
          obtain ⟨m, hm⟩ : ∃ m, m = ks.length := ⟨_, rfl⟩
          rw [← hm] at c1
          have hmb : m ≤ 65536 := by rw [hm]; exact hkr.2
          have HMl := Lib.hid hm
          clear ht ht2 hks hks2 hgd hgd2 hkr hkr2 hb hEE hm
          go_wp2_with fail
          go_loopw [64] (fun kv wr => ∃ (k a : Nat) (E : Err) (dd : Rw), k ≤ m ∧ kv = .int .i64 (k : Int) ∧ Hid ((E = .nil ∨ rdBad E) ∧ RN l i KL j k E a od' dd) ∧ Hid (Mem w0 B g O (.slice (some ⟨rb, 0, none⟩) i c0) bs A n c a E (.slice (some ⟨rr, 0, none⟩) i cr) its (od'.set j (dd ++ bare (ks.drop k))) wr)) (fun kv _ => m - (intOf kv).toNat)
          case atStart => exact ⟨0, a, E, [], Nat.zero_le _, rfl, Lib.hid ⟨HEE.out, HRN.out⟩, HMs⟩
          case round =>
            clear HMs HRN HEE HM
            obtain ⟨k, a2, E2, dd, hk, rfl, HSk, HMk⟩ := hrel
            by_cases hkm : k < m
            · have hkm' : (k : Int) < (m : Int) := by omega
              have hk0 : (0 : Int) ≤ (k : Int) := by omega
              obtain ⟨y, hy⟩ : ∃ y, ks[k]? = some y := ⟨_, List.getElem?_eq_getElem (by rw [← HMl.out]; exact hkm)⟩
              have hrow := (HMk.out.2.2.1 (D, d, ks) (List.mem_of_getElem? HT.out.1)).1.1
              simp only at hrow
              rw [← HMl.out] at hrow
              obtain ⟨xb, xo, rfl, _⟩ := hrow.at_ (show 0 < m by omega)
              have cy := hrow.again hkm (show (ks.map (Value.int .i64))[k]? = some (.int .i64 y) by rw [List.getElem?_map, hy]; rfl)
              have HY := Lib.hid hy
              have HLs := Lib.hid (OdList_any g B A n c a2 E2 l wr HMk.out.1 HSk.out.1 hn hnc hc9 HL.out HBt.out (fun W hW => HBy.out W (HMk.out.2.2.2.2.trans hW)))
              clear hy hrow c1
              go_upto_region 22 with (go_at_call 99; refine HLs.out.mono ?_; clear HLs; intro e w1 hp; obtain ⟨lv, ev, rfl, hb1, ha1, hd1⟩ := hp.out; have HB1 := Lib.hid hb1; have HA1 := Lib.hid ha1; have HD1 := Lib.hid hd1; clear hp hb1 ha1 hd1)
              have hjn2 : j + 1 < i := by have := HN1.out; omega
              have hyk : (KL.getD j [])[k]? = some y := by rw [HT.out.2.2.1]; exact HY.out
              rcases HD1.out with ⟨rfl, xs, hown, hx⟩ | ⟨gv, cc, t, hcc, rfl, hblk, hE, hok, hno, hrd⟩
              · obtain ⟨X, xc, rfl, hsl⟩ := Sl.own hown
                have HHx := Lib.hid (show rightO xs from by
                  rcases hx with ⟨_, _, _, x4, _⟩ | ⟨x1, _⟩
                  · exact x4
                  · rw [x1]; exact ⟨List.Pairwise.nil, fun x hx => by cases hx⟩)
                have hxl : xs.length ≤ 65536 := by
                  rcases hx with ⟨_, x2, x3, _⟩ | ⟨x1, _⟩
                  · rw [x3]; exact lst_len x2
                  · rw [x1]; simp
                obtain ⟨a', E', hE', hM1, hgb⟩ : ∃ a' E', (E' = .nil ∨ rdBad E') ∧ Mem w0 B g O (.slice (some ⟨rb, 0, none⟩) i c0) bs A n c a' E' (.slice (some ⟨rr, 0, none⟩) i cr) its (od'.set j (dd ++ bare (ks.drop k))) w1 ∧ ((E2 = .nil ∧ okAt l a2 65536 ∧ xs = lst l a2 ∧ E' = .nil ∧ a' = nxtA l a2) ∨ (xs = [] ∧ (E2 = .nil → ¬ okAt l a2 65536) ∧ rdBad E')) := by
                  rcases hx with ⟨x1, x2, x3, x4, x5⟩ | ⟨x1, x2, a', E', x3, x4⟩
                  · exact ⟨_, _, .inl rfl, HMk.out.read HB1.out HA1.out x5, .inl ⟨x1, x2, x3, rfl, rfl⟩⟩
                  · exact ⟨_, _, .inr x3, HMk.out.read HB1.out HA1.out x4, .inr ⟨x1, x2, x3⟩⟩
                have hrow2 := (hM1.2.2.1 (D2, d2, ks2) (List.mem_of_getElem? HT.out.2.1)).1.1
                simp only at hrow2
                have c2 := HRc.out _ _ _ _ (j + 1) _ hM1 HT.out.2.1
                simp only [rv] at c2
                have hkr2 := HT.out.2.2.2.2.2.1
                have HWi := Lib.hid (Within_any xs ks2 X D2 xs.length xc ks2.length d2 w1 rfl (by omega) hsl rfl (by have := hkr2.2; omega) hkr2.1.1 hrow2)
                have hol : (od'.set j (dd ++ bare (ks.drop k))).length = i := by rw [List.length_set]; exact HS.out.2.1
                have hbj := HT.out.2.2.2.2.2.2
                have hlo : j < od'.length := by have := HS.out.2.1; omega
                have hrn := HSk.out.2
                have hddk : keysR dd = ks.take k := by have h := hrn.1; rw [HT.out.2.2.1] at h; exact h
                have hkl2 := HT.out.2.2.2.2.1.2
                have hksI := HT.out.2.2.2.2.1.1.1
                have hyn : numOK y := HT.out.2.2.2.2.1.1.2 y (List.mem_of_getElem? HY.out)
                have hddl : dd.length ≤ 65536 := by
                  have h := congrArg List.length hddk
                  unfold keysR at h
                  rw [List.length_map, List.length_take] at h
                  omega
                have hcap := own_cap hown
                have HPut := Lib.hid (show ∀ V, Below w1.heap.size w1 V → Calls Tryz.prog 67 #[.map (some b), .int .i64 y, .slice X xs.length xc] V (fun e w' => e = .returned (.tuple #[]) ∧ Mem w0 B g O (.slice (some ⟨rb, 0, none⟩) i c0) bs A n c a' E' (.slice (some ⟨rr, 0, none⟩) i cr) its (od'.set j ((dd ++ [(y, xs)]) ++ bare (ks.drop (k + 1)))) w') from fun V hV => by
                  have hMV := hM1.keep hV
                  have hrt := hMV.2.2.2.1.2.2.2.1 j b _ hbj (List.getElem?_set_self hlo)
                  refine (put_anyT b (dd ++ bare (ks.drop k)) y X xs.length xc xs V hrt (by unfold bare; rw [List.length_append, List.length_map, List.length_drop]; omega) (fun q hq => ?_) (by unfold numOK at hyn; omega) ⟨hsl.keep hV, hcap⟩ rfl (by omega)).mono fun e w' ⟨p1, p2, p3⟩ => ⟨p1, ?_⟩
                  · rcases List.mem_append.1 hq with hq | hq
                    · have := (hrn.2.1 q hq).1.2
                      omega
                    · obtain ⟨x, _, rfl⟩ := List.mem_map.1 hq
                      simp
                  · rw [link_step hksI HY.out hddk HHx.out.1] at p2
                    have h := hMV.put hbj (HBs.out b (List.mem_of_getElem? hbj)) hrt.row.isMap p3 p2
                    rw [List.set_set] at h
                    exact h)
                have HCw := Lib.hid (show ∀ V, Below w1.heap.size w1 V → V.cell? ⟨O, 0, none⟩ = some (.slice (some ⟨rb, 0, none⟩) i c0) ∧ V.cell? ⟨rb, j, none⟩ = some (.map (some b)) from fun V hV => HCe.out _ _ _ _ _ V j b (hM1.keep hV) hol hbj)
                have HGb := Lib.hid hgb
                have HEx := Lib.hid hE'
                have HMx := Lib.hid hM1
                have hj1 : (j : Int) + 1 < (i : Int) := by omega
                have hj2 : (0 : Int) ≤ (j : Int) + 1 := by omega
                have hj3 : ((j : Int) + 1).toNat = j + 1 := by omega
                have hj4 : IntKind.i64.wrap ((j : Int) + 1) = (j : Int) + 1 := by rw [IntKind.wrap_i64]; omega
                have HYk := Lib.hid hyk
                have HJn := Lib.hid hjn2
                have hij : (j : Int) < (i : Int) := by omega
                by_cases hw : ∀ t ∈ xs, t ∈ ks2
                · rw [decide_eq_true hw] at HWi
                  have HRn := Lib.hid (show RN l i KL j (k + 1) E' a' od' (dd ++ [(y, xs)]) from by
                    rcases hgb with ⟨x1, x2, x3, x4, x5⟩ | ⟨x1, x2, x3⟩
                    · rw [x4, x5, x3]
                      refine hrn.good hjn2 hyk HBt.out x1 x2 (by rw [← x3]; exact HHx.out) ?_
                      rw [HT.out.2.2.2.1, ← x3]
                      exact hw
                    · rw [x1]
                      exact hrn.bad hjn2 hyk x2 x3.ne)
                  clear hw hx hown hxl hE' hM1 hgb hrow2 hkr2 hol hbj hlo hrn hddk hkl2 hksI hyn hddl hcap hsl hyk hjn2
                  go_wp2_with (first
                    | (go_at_call 100; refine HWi.out.mono ?_; clear HWi; rintro e w2 ⟨rfl, hb2⟩; obtain ⟨d0, d1⟩ := HCw.out w2 hb2; have HB2 := Lib.hid hb2; clear hb2)
                    | (go_at_call 67; refine (HPut.out _ (HB2.out.andThen (by first | exact Below.refl _ _ | exact bel_drewN (Below.refl _ _) 1))).mono ?_; clear HPut; rintro e w3 ⟨rfl, hm3⟩; have HM3 := Lib.hid hm3; clear hm3)
                    | fail)
                  go_roundw
                  case rel => exact ⟨k + 1, a', E', _, by omega, by go_num, Lib.hid ⟨HEx.out, HRn.out⟩, HM3⟩
                  case measure => simp [intOf]; omega
                · rw [decide_eq_false hw] at HWi
                  have hgd : E2 = .nil ∧ okAt l a2 65536 ∧ xs = lst l a2 ∧ E' = .nil := by
                    rcases hgb with ⟨x1, x2, x3, x4, x5⟩ | ⟨x1, x2, x3⟩
                    · exact ⟨x1, x2, x3, x4⟩
                    · exact absurd (fun t ht => by rw [x1] at ht; cases ht) hw
                  have HSt := Lib.hid (hrn.stop hjn2 hyk (fun h => hw (by rw [hgd.2.2.1, ← HT.out.2.2.2.1]; exact h.2)))
                  have HE0 := Lib.hid hgd.2.2.2
                  clear hw hx hown hxl hE' hM1 hgb hrow2 hkr2 hol hbj hlo hrn hddk hkl2 hksI hyn hddl hcap hsl hyk hjn2 hgd HPut
                  go_wp2_with (first
                    | (go_at_call 100; refine HWi.out.mono ?_; clear HWi; rintro e w2 ⟨rfl, hb2⟩; have HB2 := Lib.hid hb2; clear hb2)
                    | (go_at_call 57; refine (New_err _ _ _ _).mono ?_; rintro e w3 ⟨v3, rfl, ⟨gv, rfl, hv⟩, hb3⟩; have HV := Lib.hid hv; have HB3 := Lib.hid (HB2.out.andThen hb3); clear hv hb3)
                    | fail)
                  go_ret
                  have hMz := HMx.out.keep HB3.out
                  have hr := hMz.1
                  rw [HE0.out] at hr
                  exact .inr ⟨gv, 2, _, _, .inl rfl, rfl, HV.out, hr, hMz.2.2.2.2, HSt.out⟩
              · go_wp2_with fail
                go_ret
                exact .inr ⟨gv, cc, t, _, hcc, rfl, hblk, hrd, HMk.out.2.2.2.2.trans HB1.out, HSk.out.2.stop hjn2 hyk (fun h => hno h.1)⟩
            · obtain rfl : k = m := by omega
              have hkm' : ¬ (k : Int) < (k : Int) := by omega
              have HNx := Lib.hid (HSk.out.2.next HS.out.2 (by have := HN1.out; omega) (by rw [HT.out.2.2.1]; exact HMl.out))
              have HMn := Lib.hid (show Mem w0 B g O (.slice (some ⟨rb, 0, none⟩) i c0) bs A n c a2 E2 (.slice (some ⟨rr, 0, none⟩) i cr) its (od'.set j dd) wr from by
                have h := HMk.out
                rw [List.drop_of_length_le (by rw [← HMl.out]; exact Nat.le_refl _)] at h
                simpa [bare] using h)
              go_wp2_with fail
              go_roundw
              case rel => exact ⟨j + 1, a2, E2, _, by omega, by go_num, Lib.hid ⟨HSk.out.1, HNx.out⟩, HMn⟩
              case measure => simp [intOf]; omega
        · obtain rfl : j = N1 := by omega
          have hjn' : ¬ (j : Int) < (j : Int) := by omega
          have hro := HS.out.2
          rw [show j = i - 1 by have := HN1.out; omega] at hro
          obtain ⟨k1, k2, k3⟩ := hro.done HKg.out h1 h8
          have HK := Lib.hid (And.intro k1 (And.intro k2 k3))
          clear hro k1 k2 k3
          go_wp2_with fail
          go_ret
          exact .inl ⟨a, E, _, its, od', rfl, HS.out.1, HM.out, HK.out.1, HK.out.2.1, HK.out.2.2⟩
end Go.Proofs.YtmonepclhbappaaGreatDoor
/-
  fault.In by its contract.
-/
namespace Go.Proofs.YtmonepclhbappaaGreatDoor
open Go.RowKit Go.Extern.Stop Go.Stop Go.Extern
set_option maxRecDepth 100000

def Err.in_ (word : ByteArray) : Err → Err
  | .nil => .nil
  | e => .step word e
theorem Err.in_of {E : Err} (h : E ≠ .nil) (word : ByteArray) : E.in_ word = .step word E := by cases E <;> first | exact absurd rfl h | rfl

theorem In_any (word : ByteArray) (E : Err) (v : Value) (w : World) (hE : E.At w v) :
    Calls Tryz.prog 56 #[.string word, v] w fun e w' => ∃ v', e = .returned v' ∧ (E.in_ word).At w' v' ∧ Below w.heap.size w w' := by
  by_cases hne : E = .nil
  · subst hne
    obtain rfl : v = .nilIface := hE
    go_enter Tryz.func56, Tryz.ntmps56
    go_wp2
    go_ret
    exact ⟨_, rfl, rfl, Below.refl _ _⟩
  · have HE := Lib.hid hE
    have HN := Lib.hid hne
    obtain ⟨T, x, rfl⟩ := Err.At.iface_ hE hne
    clear hE hne
    go_enter Tryz.func56, Tryz.ntmps56
    go_wp2
    go_ret
    have hb := bel_al (Below.refl w.heap.size w) (.cells #[.string word, .iface T x] 157)
    refine ⟨_, rfl, ?_, hb⟩
    rw [Err.in_of HN.out]
    exact ⟨_, _, rfl, Blk.new _ _ _, HE.out.keep hb, HN.out⟩
end Go.Proofs.YtmonepclhbappaaGreatDoor
/-
  Odags: Read, of any bytes.
-/
namespace Go.Proofs.YtmonepclhbappaaGreatDoor
open Go.RowKit Go.Maps
set_option maxRecDepth 100000
set_option linter.unusedVariables false

set_option maxHeartbeats 2000000 in
theorem Num_short (g B : Nat) (A : Option Addr) (n c a : Nat) (w : World) (hR : Rd w B g A n c a .nil) (hm : n < a + 4) (hn : n ≤ 1099511627776) :
    Calls Tryz.prog 63 #[.pointer (some ⟨g, 0, none⟩)] w fun e w' => e = .returned (.int .i64 0) ∧ Rd w' B g A n c a (.flt 9 a txtBytes) ∧ Below B w w' ∧ Asd g w w' := by
  obtain ⟨hc0, hc1⟩ := rd_cells hR
  have HT := Lib.hid (num_short g B A n c a a w hR hm hn hR.2.2.1)
  clear hR
  go_enter Tryz.func63, Tryz.ntmps63
  go_wp2_with fail
  refine HT.out.mono ?_
  rintro e w1 ⟨rfl, h1, h2, h3⟩
  have H1 := Lib.hid h1
  have H2 := Lib.hid h2
  have H3 := Lib.hid h3
  clear h1 h2 h3 HT hc0 hc1
  go_wp2_with fail
  go_ret
  exact ⟨rfl, H1.out, H2.out, H3.out⟩
set_option maxHeartbeats 2000000 in
theorem End_left (g B : Nat) (A : Option Addr) (n c a : Nat) (w : World) (hR : Rd w B g A n c a .nil) (hn : n ≤ 1099511627776) (ha : a < n) :
    Calls Tryz.prog 55 #[.pointer (some ⟨g, 0, none⟩)] w fun e w' => ∃ ev, e = .returned ev ∧ (Err.flt 2 a txtBytes).At w' ev ∧ Below w.heap.size w w' := by
  have HL := Lib.hid (Left_any g B A n c a .nil w hR hn)
  have HRd := Lib.hid hR
  obtain ⟨_, hf, _, ev, hb, he⟩ := hR
  obtain rfl : ev = .nilIface := he
  have hc2 := hb.cell 2
  simp at hc2
  clear hb
  have hpos : (0 : Int) < ((n - a : Nat) : Int) := by omega
  generalize hd : n - a = dd at *
  clear hd
  go_enter Tryz.func55, Tryz.ntmps55
  go_wp2_with fail
  refine HL.out.mono ?_
  rintro e w1 ⟨rfl, hb⟩
  obtain ⟨hc0, hc1⟩ := rd_cells (HRd.out.keep hb)
  have HB := Lib.hid hb
  clear hb
  go_wp2_with fail
  refine (New_err 2 a txtBytes w1).mono ?_
  rintro e w2 ⟨v, rfl, hv, hb2⟩
  have HV := Lib.hid hv
  have HB2 := Lib.hid hb2
  clear hv hb2
  go_wp2_with fail
  go_ret
  exact ⟨_, rfl, HV.out, HB.out.andThen HB2.out⟩
/-- End, whatever there is. -/
theorem End_gen (g B : Nat) (A : Option Addr) (n c a : Nat) (E : Err) (w : World) (hR : Rd w B g A n c a E) (hE : E = .nil ∨ rdBad E) (hn : n ≤ 1099511627776) :
    Calls Tryz.prog 55 #[.pointer (some ⟨g, 0, none⟩)] w fun e w' => ∃ ev, e = .returned ev ∧ Below w.heap.size w w' ∧ ((E = .nil ∧ a = n ∧ ev = .nilIface) ∨ ∃ (E' : Err) (T : TypeId) (x : Value), E'.At w' ev ∧ ev = .iface T x ∧ E' ≠ .nil ∧ (E'.code = 2 ∨ E'.code = 6 ∨ E'.code = 9) ∧ (E = .nil → a < n)) := by
  have han := hR.2.2.1
  rcases hE with rfl | hE
  · by_cases h : a = n
    · subst h
      exact (End_ok g B A a c w hR hn).mono fun e w' ⟨h1, h2⟩ => ⟨_, h1, h2, .inl ⟨rfl, rfl, rfl⟩⟩
    · refine (End_left g B A n c a w hR hn (by omega)).mono fun e w' ⟨ev, h1, h2, h3⟩ => ⟨ev, h1, h3, .inr ?_⟩
      have hne : Err.flt 2 (a : Int) txtBytes ≠ .nil := fun e => by cases e
      obtain ⟨T, x, rfl⟩ := Err.At.iface_ h2 hne
      exact ⟨_, T, x, h2, rfl, hne, .inl rfl, fun _ => by omega⟩
  · refine (End_err g B A n c a E w hR hE.ne).mono fun e w' ⟨T, x, h1, h2, h3⟩ => ?_
    subst h3
    refine ⟨_, h1, Below.refl _ _, .inr ⟨E, T, x, h2, rfl, hE.ne, ?_, fun e => absurd e hE.ne⟩⟩
    obtain ⟨a', s, rfl | rfl⟩ := hE
    · exact .inr (.inr rfl)
    · exact .inr (.inl rfl)
theorem bytesO_head {od : List Rw} {N : Nat} (h : WfO od N) : 4 ≤ (bytesO od).length ∧ wordN (bytesO od) = N := by
  have h8 := h.h8
  have e : bytesO od = wordL od.length ++ ((od.map keysR).flatMap encW ++ (od.take (od.length - 1)).flatMap encLk) := by unfold bytesO; rw [List.append_assoc]
  rw [e]
  refine ⟨by rw [List.length_append, wordL_len]; omega, ?_⟩
  rw [wordN_of (by rw [h.len]; omega), h.len]
/-- What Read gives. -/
def RdPost (l : List Int) (w : World) (e : Ending) (w' : World) : Prop :=
  Below w.heap.size w w' ∧ ((∃ p od N, e = .returned (.tuple #[.pointer (some ⟨p, 0, none⟩), .nilIface]) ∧ OdM w' p od ∧ WfO od N ∧ bytesO od = l) ∨
    ∃ (E : Err) (T : TypeId) (x : Value), e = .returned (.tuple #[.pointer none, .iface T x]) ∧ E.At w' (.iface T x) ∧ (E.code = 1 ∨ E.code = 2 ∨ E.code = 3 ∨ E.code = 6 ∨ E.code = 9) ∧ ∀ od N, WfO od N → bytesO od ≠ l)
theorem in_code {E : Err} {s : ByteArray} : (E.in_ s).code = E.code := by cases E <;> rfl
theorem in_ne {E : Err} {s : ByteArray} (h : E ≠ .nil) : E.in_ s ≠ .nil := by rw [Err.in_of h]; intro e; cases e

set_option maxHeartbeats 16000000 in
theorem ReadOd_any (l : List Int) (A : Option Addr) (n c : Nat) (w : World) (hn : n ≤ 100000) (hnc : n ≤ c) (hc9 : c ≤ 9223372036854775807) (hl : l.length = n) (hb : Bys l) (hs : Sl w 1 A n (l.map (Value.int .u8))) :
    Calls Tryz.prog 24 #[.slice A n c] w (RdPost l w) := by
  have HS := Lib.hid hs
  have HBt := Lib.hid hb
  have HL := Lib.hid hl
  clear hs hb hl
  go_enter Tryz.func24, Tryz.ntmps24
  go_upto_region 2 with (go_at_call 53; refine (NewReader_any A n c w).mono ?_; rintro e w1 ⟨g, rfl, hr, hb1⟩; have HR1 := Lib.hid hr; have HB1 := Lib.hid hb1; clear hr hb1)
  by_cases h4 : n < 4
  · have h4' : (n : Int) < 4 := by omega
    have HNm := Lib.hid (Num_short g w.heap.size A n c 0 w1 HR1.out (by omega) (by omega))
    have HNo := Lib.hid (show ∀ od N, WfO od N → bytesO od ≠ l from fun od N hw e => by
      have h := (bytesO_head hw).1
      rw [e, HL.out] at h
      omega)
    go_upto_region 4 with (go_at_call 63; refine HNm.out.mono ?_; clear HNm; rintro e w2 ⟨rfl, hr, hb2, ha2⟩; have HR2 := Lib.hid hr; have HB2 := Lib.hid (HB1.out.trans hb2); clear hr hb2 ha2)
    have HEn := Lib.hid (End_err g w.heap.size A n c 0 _ w2 HR2.out (fun e => by cases e))
    go_wp2_with (first
      | (go_at_call 55; refine HEn.out.mono ?_; clear HEn; rintro e w3 ⟨T, x, rfl, he, rfl⟩; have HE3 := Lib.hid he; have HIn := Lib.hid (In_any ⟨#[111, 100, 97, 103]⟩ _ _ w2 he); clear he)
      | (go_at_call 56; refine HIn.out.mono ?_; clear HIn; rintro e w4 ⟨v', rfl, he, hb4⟩; have HE4 := Lib.hid he; have HB4 := Lib.hid hb4; clear he hb4)
      | fail)
    obtain ⟨T', x', rfl⟩ := Err.At.iface_ HE4.out (in_ne (fun e => by cases e))
    go_ret2
    refine ⟨HB2.out.andThen HB4.out, .inr ⟨_, _, _, rfl, HE4.out, ?_, HNo.out⟩⟩
    rw [in_code]
    exact .inr (.inr (.inr (.inr rfl)))
  · have h4' : ¬ (n : Int) < 4 := by omega
    have HNm := Lib.hid (Num_okA g w.heap.size A n c 0 l w1 HR1.out (by omega) (by omega) hnc hc9 HL.out HBt.out (fun W hW => HS.out.keep (HB1.out.trans hW)))
    rw [List.drop_zero] at HNm
    have HW4 := Lib.hid (wordL_of HBt.out (by rw [HL.out]; omega))
    have HWn := Lib.hid (show ∀ od N, WfO od N → bytesO od = l → N = wordN l from fun od N hw e => by rw [← e]; exact (bytesO_head hw).2.symm)
    obtain ⟨N, hN⟩ : ∃ N, N = wordN l := ⟨_, rfl⟩
    rw [← hN] at HNm HW4 HWn
    clear hN
    go_upto_region 5 with (go_at_call 63; refine HNm.out.mono ?_; clear HNm; rintro e w2 ⟨rfl, hr, hb2, ha2⟩; have HR2 := Lib.hid hr; have HB2 := Lib.hid (HB1.out.trans hb2); clear hr hb2 ha2)
    by_cases hbad : N < 1 ∨ 8 < N
    · have HFr := Lib.hid (fresh_bad (N : Int) w2 (by omega))
      have HNo := Lib.hid (show ∀ od N', WfO od N' → bytesO od ≠ l from fun od N' hw e => by
        have h := HWn.out od N' hw e
        have h1 := hw.h1
        have h8 := hw.h8
        omega)
      clear hbad
      go_upto_region 6 with (go_at_call 64; refine HFr.out.mono ?_; clear HFr; rintro e w3 ⟨ev, rfl, he, hb3⟩; have HE3 := Lib.hid he; have HB3 := Lib.hid hb3; clear he hb3)
      obtain ⟨T, x, rfl⟩ := Err.At.iface_ HE3.out (fun e => by cases e)
      go_wp2_with fail
      go_ret2
      exact ⟨HB2.out.andThen HB3.out, .inr ⟨_, _, _, rfl, HE3.out, .inl rfl, HNo.out⟩⟩
    · have hN1 : 1 ≤ N := by omega
      have hN8 : N ≤ 8 := by omega
      have HFr := Lib.hid (fresh_T N w2 hN1 hN8)
      clear hbad
      go_upto_region 8 with (go_at_call 64; refine HFr.out.mono ?_; clear HFr; rintro e w3 ⟨O, rfl, ⟨v, bs, ho, hbs⟩, hb3⟩; have HO3 := Lib.hid ho; have HBs := Lib.hid hbs; have HB3 := Lib.hid hb3; clear ho hbs hb3)
      have hsz : w.heap.size ≤ w2.heap.size := HB2.out.size
      have HM3 := Lib.hid (show Mem w w.heap.size g O v bs A n c 4 .nil (.slice none 0 0) [] (List.replicate N []) w3 from by
        have h := HO3.out
        refine ⟨HR2.out.keep HB3.out, World.ownsRow_nil _ _ _ _, (fun t ht => by cases ht), ⟨h.1, own_mono h.2.1 hsz, h.2.2.1, h.2.2.2.1, h.2.2.2.2⟩, HB2.out.andThen HB3.out⟩)
      have HRd := Lib.hid (read_any w w3 w.heap.size g O N v bs A n c l hn hnc hc9 HL.out HBt.out (fun W hW => HS.out.keep hW) hN1 hN8 HM3.out (fun b hb => Nat.le_trans hsz (HBs.out b hb)) ⟨rfl, (fun xs h => by cases h), (fun _ => ⟨by rw [HL.out]; omega, by rw [HW4.out, List.flatMap_nil, List.append_nil]⟩), fun od hw e => ⟨rfl, rfl⟩⟩)
      clear hsz
      go_upto_region 9 with (go_at_call 65; refine HRd.out.mono ?_; clear HRd; intro e w4 hp; obtain ⟨ev, hev⟩ : ∃ ev, e = .returned ev := (by rcases hp with ⟨_, _, _, _, _, h, _⟩ | ⟨_, _, _, _, _, h, _⟩ <;> exact ⟨_, h⟩); subst hev; have HP := Lib.hid hp; clear hp)
      rcases HP.out with ⟨a, E, rvv, its, od', he, hE, hM4, hW, hT, hG⟩ | ⟨gv, cc, t, a, hcc, he, hblk, hR4, hB4, hno⟩
      · injection he with he
        subst he
        have HM4 := Lib.hid hM4
        have HEn := Lib.hid (End_gen g w.heap.size A n c a E w4 hM4.1 hE (by omega))
        have HRs := Lib.hid (And.intro hW (And.intro hT hG))
        clear hE hM4 hW hT hG
        go_upto_region 10 with (go_at_call 55; refine HEn.out.mono ?_; clear HEn; rintro e w5 ⟨ev5, rfl, hb5, hd5⟩; have HB5 := Lib.hid hb5; have HD5 := Lib.hid hd5; clear hb5 hd5)
        rcases HD5.out with ⟨rfl, rfl, rfl⟩ | ⟨E', T, x, he5, rfl, hne5, hc5, hlt5⟩
        · have HTk := Lib.hid (HRs.out.2.1 rfl).2
          have HWf := Lib.hid HRs.out.1
          clear HRs
          go_wp2_with fail
          go_ret2
          refine ⟨HM4.out.2.2.2.2.andThen HB5.out, .inl ⟨O, od', N, rfl, (HM4.out.2.2.2.1.keep HB5.out).odM, HWf.out, ?_⟩⟩
          have h := HTk.out
          rw [List.take_of_length_le (by rw [HL.out]; exact Nat.le_refl _)] at h
          exact h.symm
        · have HIn := Lib.hid (In_any ⟨#[111, 100, 97, 103]⟩ E' _ w5 he5)
          have HNo := Lib.hid (show ∀ od N', WfO od N' → bytesO od ≠ l from fun od N' hw e => by
            obtain rfl := HWn.out od N' hw e
            obtain ⟨hEn, hod⟩ := HRs.out.2.2 od hw e
            have h1 := hlt5 hEn
            have h2 := (HRs.out.2.1 hEn).2
            rw [hod, e] at h2
            have h3 := congrArg List.length h2
            rw [List.length_take, HL.out] at h3
            omega)
          have HC5 := Lib.hid (And.intro hne5 hc5)
          clear he5 hne5 hc5 hlt5
          go_wp2_with (go_at_call 56; refine HIn.out.mono ?_; clear HIn; rintro e w6 ⟨v', rfl, he, hb6⟩; have HE6 := Lib.hid he; have HB6 := Lib.hid hb6; clear he hb6)
          obtain ⟨T', x', rfl⟩ := Err.At.iface_ HE6.out (in_ne HC5.out.1)
          go_ret2
          refine ⟨HM4.out.2.2.2.2.andThen (HB5.out.andThen HB6.out), .inr ⟨_, _, _, rfl, HE6.out, ?_, HNo.out⟩⟩
          rw [in_code]
          rcases HC5.out.2 with h | h | h
          · exact .inr (.inl h)
          · exact .inr (.inr (.inr (.inl h)))
          · exact .inr (.inr (.inr (.inr h)))
      · injection he with he
        subst he
        have HEn := Lib.hid (End_gen g w.heap.size A n c a .nil w4 hR4 (.inl rfl) (by omega))
        have HB4 := Lib.hid hB4
        have HBk := Lib.hid hblk
        have HNo := Lib.hid (show ∀ od N', WfO od N' → bytesO od ≠ l from fun od N' hw e => by
          obtain rfl := HWn.out od N' hw e
          exact hno od hw e)
        have HCc := Lib.hid hcc
        clear hR4 hB4 hblk hno hcc
        go_upto_region 10 with (go_at_call 55; refine HEn.out.mono ?_; clear HEn; rintro e w5 ⟨ev5, rfl, hb5, hd5⟩; have HB5 := Lib.hid hb5; have HD5 := Lib.hid hd5; clear hb5 hd5)
        have HF := Lib.hid (show RdPost l w (.returned (.tuple #[.pointer none, .iface 104 (.pointer (some ⟨gv, 0, none⟩))])) w5 from by
          refine ⟨HB4.out.andThen HB5.out, .inr ⟨.flt cc 0 t, _, _, rfl, ⟨gv, rfl, HBk.out.keep HB5.out⟩, ?_, HNo.out⟩⟩
          rcases HCc.out with h | h
          · exact .inr (.inl h)
          · exact .inr (.inr (.inl h)))
        rcases HD5.out with ⟨_, rfl, rfl⟩ | ⟨E', T, x, he5, rfl, hne5, hc5, hlt5⟩
        · go_wp2_with fail
          go_ret2
          exact HF.out
        · clear he5 hne5 hc5 hlt5
          go_wp2_with fail
          go_ret2
          exact HF.out
end Go.Proofs.YtmonepclhbappaaGreatDoor
/-
  Contracts of wire.Writer: Bytes; bytes.Clone.
-/
namespace Go.Proofs.YtmonepclhbappaaGreatDoor
open Go.RowKit
set_option maxRecDepth 100000
set_option linter.unusedVariables false

set_option maxHeartbeats 2000000 in
theorem Clone_any (l : List Int) (A : Option Addr) (n c : Nat) (w : World) (hl : l.length = n) (hn : n ≤ 1099511627776) (hs : Sl w 1 A n (l.map (Value.int .u8))) :
    Calls Tryz.prog 91 #[.slice A n c] w fun e w' => ∃ C k, e = .returned (.slice C n k) ∧ Sl w' 1 C n (l.map (Value.int .u8)) ∧ (n ≤ k ∧ k ≤ 9223372036854775807) ∧ Below w.heap.size w w' := by
  have nn := fun (w : World) (a : Option Addr) (n c : Nat) => Lib.run_eql_slice_nil (P := Tryz.prog) w 26 5 a n c 0 0 Tryz.underlying26
  have HS := Lib.hid hs
  go_enter Tryz.func91, Tryz.ntmps91
  rcases A with _ | A
  · have hn0 : n = 0 := by
      rcases Nat.eq_zero_or_pos n with h | h
      · exact h
      · obtain ⟨_, _, h, _⟩ := hs.2 h; cases h
    subst hn0
    clear hs
    go_wp2_with fail
    go_ret
    exact ⟨none, 0, rfl, HS.out, by omega, Below.refl _ _⟩
  · have hbA := bel_al (Below.refl w.heap.size w) (.cells #[] 5)
    have HOE := Lib.hid (World.ownsRow_made (e := 5) (size := 1) w #[] 0 (Nat.le_refl _) (Nat.zero_le _) rfl)
    have HBA := Lib.hid hbA
    have SPA := Lib.hid (HS.out.keep hbA)
    clear hs hbA
    go_wp2_with (at_builtin; refine wpList_cat_at elemByte _ _ rfl rfl HOE.out HBA.out.size SPA.out rfl rfl (one_u8 _) (by unfold lim; omega) (by unfold lim; omega) ?_; intro v8 w8 hown8 hg8; have HO8 := Lib.hid hown8; have HB8 := Lib.hid (HBA.out.trans (hg8.belowOwn HBA.out.size HOE.out)); clear hown8 hg8 HOE HBA SPA)
    go_ret
    have hown := HO8.out
    rw [List.nil_append, Nat.zero_add] at hown
    obtain ⟨C, k, rfl, hsl⟩ := Sl.own hown
    exact ⟨C, k, rfl, hsl, own_cap hown, HB8.out⟩

theorem Bytes_any (g B : Nat) (st : St) (w : World) (hW : Wr w B g st.1 st.2) (hl : st.1.length ≤ 1099511627776) :
    Calls Tryz.prog 52 #[.pointer (some ⟨g, 0, none⟩)] w fun e w' => ∃ C k, e = .returned (.slice C st.1.length k) ∧ Sl w' 1 C st.1.length (st.1.map (Value.int .u8)) ∧ (st.1.length ≤ k ∧ k ≤ 9223372036854775807) ∧ Below w.heap.size w w' := by
  obtain ⟨hBg, hE, bv, ev, hb, hown, he⟩ := hW
  have hc0 := hb.cell 0
  simp at hc0
  obtain ⟨A0, n0, rfl, hsl0⟩ := Sl.own hown
  have HC := Lib.hid (Clone_any st.1 A0 st.1.length n0 w rfl hl hsl0)
  clear hb hown he hsl0
  go_enter Tryz.func52, Tryz.ntmps52
  go_wp2_with fail
  refine HC.out.mono ?_
  rintro e w1 ⟨C, k, rfl, hs1, hk1, hb1⟩
  have HS1 := Lib.hid hs1
  clear hs1 HC
  go_wp2_with fail
  go_ret
  exact ⟨_, _, rfl, HS1.out, hk1, hb1⟩
end Go.Proofs.YtmonepclhbappaaGreatDoor
