/-
  Part 13 of the proof of OdagMerge: Merge, OdNil, WireA.
-/
import Derived.BigQuiet
import Derived.Deep.DeepCutAuto
import Derived.Test.YtmonepclhbappaaGreatDoorOdagMergeM12
import Derived.Test.YtmonepclhbappaaGreatDoorOdagMergeM10
import Derived.Laws.IdiomRangeMap
import Derived.Test.YtmonepclhbappaaGreatDoorOdagMergeM8
import Derived.Test.YtmonepclhbappaaGreatDoorOdagMergeM1
/-
  Odags: Merge.
-/
namespace Go.Proofs.YtmonepclhbappaaGreatDoor
open Go.RowKit Go.Maps
set_option maxRecDepth 100000
set_option linter.unusedVariables false

/-- What a merged odag's making holds so far. -/
def Outs (B O lim : Nat) (wx : World) (v : Value) (rs : List Rw) : Prop :=
  ∃ bs : List Nat, bs.length = rs.length ∧ wx.ownsRow B 114 1 v rs.length (mps bs) ∧ bs.Nodup ∧ (∀ b ∈ bs, b < lim) ∧ (∀ (i b : Nat) (r : Rw), bs[i]? = some b → rs[i]? = some r → MRowT wx b r) ∧ Blk wx O 117 #[v]
section
variable {B O lim : Nat} {w w' : World} {v : Value} {rs : List Rw}
theorem Outs.keep (h : Outs B O lim w v rs) (hb : Below w.heap.size w w') : Outs B O lim w' v rs := by
  obtain ⟨bs, h1, h2, h3, h4, h5, h6⟩ := h
  exact ⟨bs, h1, own_block h2 fun g hg => hb.block g (h2.lt g hg).2, h3, h4, fun i b r hb' hr => (h5 i b r hb' hr).keep hb, h6.keep hb⟩
theorem Outs.mono {lim' : Nat} (h : Outs B O lim w v rs) (hl : lim ≤ lim') : Outs B O lim' w v rs := by
  obtain ⟨bs, h1, h2, h3, h4, h5⟩ := h
  exact ⟨bs, h1, h2, h3, fun b hb => Nat.lt_of_lt_of_le (h4 b hb) hl, h5⟩
theorem Outs.turned {b' : Nat} (h : Outs B O lim w v rs) (hm : NC w b') (hg : w.grownBy w' (some b')) (hl : lim ≤ b') : Outs B O lim w' v rs := by
  obtain ⟨bs, h1, h2, h3, h4, h5, h6⟩ := h
  exact ⟨bs, h1, own_turned h2 hm hg, h3, h4, fun i b r hb hr => (h5 i b r hb hr).other hm hg (by have := h4 b (List.mem_of_getElem? hb); omega), h6.turned hm hg⟩
theorem Outs.push {w6 : World} {v6 : Value} {M : Nat} {row : Rw} {o : Obj} {bs : List Nat} (h1 : bs.length = rs.length) (h2 : w.ownsRow B 114 1 v rs.length (mps bs)) (h3 : bs.Nodup) (h4 : ∀ b ∈ bs, b < lim) (h5 : ∀ (i b : Nat) (r : Rw), bs[i]? = some b → rs[i]? = some r → MRowT w b r) (h6 : Blk w O 117 #[v]) (hM : MRowT w M row) (hl : lim ≤ M) (hown : w6.ownsRow B 114 1 v6 (rs.length + 1) (mps bs ++ [.map (some M)])) (hgr : Gr (w.alloc o) w6 v v6) : Outs B O (M + 1) (w6.setCell ⟨O, 0, none⟩ v6) v6 (rs ++ [row]) := by
  have h2a := h2.alloc o
  have h6a := h6.alloc o
  have hO6 := h6a.others h2a hgr.g (by decide)
  have hne6 : ∀ g, v6.ownBlock = some g → g ≠ O := fun g hg e => own_notBlk hown hO6 (by decide) (by rw [hg, e])
  have key : ∀ {b : Nat} {r : Rw}, MRowT w b r → MRowT (w6.setCell ⟨O, 0, none⟩ v6) b r := fun {b r} hr => by
    refine ((hr.keep (bel_al (Below.refl _ _) o)).grown hgr.g fun g hg => ?_).grown (gb_set v6) fun g hg => ?_
    · rcases h2a.2 with ⟨h7, _⟩ | ⟨g', cap, cur, h7, _, h8, _⟩
      · rw [h7] at hg
        simp [Value.ownBlock] at hg
      · rw [h7] at hg
        obtain rfl : g' = g := by simpa [Value.ownBlock] using hg
        exact ⟨cur, _, _, h8, by decide⟩
    · cases hg
      exact ⟨_, _, _, hO6, by decide⟩
  refine ⟨bs ++ [M], by simp [h1], ?_, ?_, fun b hb => ?_, fun i b r hb hr => ?_, hO6.set_ 0 v6⟩
  · have h := own_block hown (w' := w6.setCell ⟨O, 0, none⟩ v6) fun g hg => Below.heap_setCell _ _ _ _ (hne6 g hg)
    rw [List.length_append, mps, List.map_append]
    exact h
  · rw [List.nodup_append]
    refine ⟨h3, by simp, fun b hb g hg e => ?_⟩
    have := h4 b hb
    rw [List.mem_singleton.1 hg] at e
    omega
  · rcases List.mem_append.1 hb with hb | hb
    · have := h4 b hb
      omega
    · rw [List.mem_singleton.1 hb]
      omega
  · rcases Nat.lt_or_ge i bs.length with hi | hi
    · rw [List.getElem?_append_left hi] at hb
      rw [List.getElem?_append_left (by omega)] at hr
      exact key (h5 i b r hb hr)
    · rw [List.getElem?_append_right hi] at hb
      rw [List.getElem?_append_right (by omega)] at hr
      obtain rfl : i = bs.length := by
        have := (List.getElem?_eq_some_iff.1 hb).1
        simp at this
        omega
      rw [Nat.sub_self] at hb
      rw [h1, Nat.sub_self] at hr
      obtain rfl : M = b := by simpa using hb
      obtain rfl : row = r := by simpa using hr
      exact key hM
end

def acc2 (r r' : Rw) (k : Nat) : Rw := if k = 0 then [] else if k = 1 then r else r ++ r'

set_option maxHeartbeats 16000000 in
theorem Merge_any (p p' N K : Nat) (od od' : List Rw) (w : World) (h : OdM w p od) (h' : OdM w p' od') (hl : od.length = N) (hl' : od'.length = N) (hN : N ≤ 8) (hK : K ≤ 100) (hB : OdB K od) (hB' : OdB K od') (hNu : Nums od) (hNu' : Nums od') :
    Calls Tryz.prog 27 #[.pointer (some ⟨p, 0, none⟩), .pointer (some ⟨p', 0, none⟩)] w fun e w' => ∃ q, e = .returned (.tuple #[.pointer (some ⟨q, 0, none⟩), .nilIface]) ∧ OdM w' q (mergeO od od') ∧ Below w.heap.size w w' := by
  have hmm := @run_makeMap Tryz.prog
  have HOd := Lib.hid h
  have HOd' := Lib.hid h'
  have HLn := Lib.hid (by have h1 := OdLen_any p od w h; rw [hl] at h1; exact h1)
  have HLn' := Lib.hid (by have h1 := OdLen_any p' od' w h'; rw [hl'] at h1; exact h1)
  have HL := Lib.hid (And.intro hl hl')
  have HBd := Lib.hid (And.intro hK (And.intro hB (And.intro hB' (And.intro hNu hNu'))))
  have hne : ((N : Int) != (N : Int)) = false := by simp
  clear h h' hl hl' hK hB hB' hNu hNu'
  go_enter Tryz.func27, Tryz.ntmps27
  go_upto_region 5 with (first
    | (go_at_call 32; refine HLn.out.mono ?_; clear HLn; rintro e w1 ⟨rfl, rfl⟩)
    | (go_at_call 32; refine HLn'.out.mono ?_; clear HLn'; rintro e w1 ⟨rfl, rfl⟩))
  go_upto_region 6 with (fail)
  obtain ⟨W1, hW1⟩ : ∃ W1, w.alloc (.cells #[.slice none 0 0] 117) = W1 := ⟨_, rfl⟩
  have hb1 : Below w.heap.size w W1 := by rw [← hW1]; exact bel_al (Below.refl _ _) _
  have ho1 : Blk W1 w.heap.size 117 #[.slice none 0 0] := by rw [← hW1]; exact Blk.new w _ _
  have hs1 : W1.heap.size = w.heap.size + 1 := by rw [← hW1]; simp
  rw [hW1]
  clear hW1
  have HO1 := Lib.hid (show Outs w.heap.size w.heap.size W1.heap.size W1 (.slice none 0 0) [] from ⟨[], rfl, by simpa [mps] using World.ownsRow_nil _ _ _ _, List.nodup_nil, (fun b hb => by cases hb), (fun i b r hb hr => by cases hb), ho1⟩)
  have HB1 := Lib.hid hb1
  have HS1 := Lib.hid hs1
  obtain ⟨R, n, c, bs, hc⟩ := HOd.out
  obtain ⟨R', n', c', bs', hc'⟩ := HOd'.out
  obtain rfl : n = N := hc.2.1.symm.trans HL.out.1
  obtain rfl : n' = n := hc'.2.1.symm.trans HL.out.2
  have HC := Lib.hid hc
  have HC' := Lib.hid hc'
  have HCe := Lib.hid (show ∀ V, Below w.heap.size w V → V.cell? ⟨p, 0, none⟩ = some (.slice R n' c) ∧ V.cell? ⟨p', 0, none⟩ = some (.slice R' n' c') from fun V hb => by
    have d0 := (hc.1.keep hb).cell 0
    have d1 := (hc'.1.keep hb).cell 0
    simp at d0 d1
    exact ⟨d0, d1⟩)
  obtain ⟨d0, d1⟩ := HCe.out W1 hb1
  clear hb1 ho1 hs1 hc hc' HOd HOd' hne
  go_wp2_with fail
  clear d0 d1
  go_loopw [35] (fun iv wr => ∃ (i : Nat) (v : Value) (rs : List Rw), i ≤ n' ∧ iv = .int .i64 (i : Int) ∧ Hid (rs = (mergeO od od').take i) ∧ Hid (Outs w.heap.size w.heap.size wr.heap.size wr v rs) ∧ Hid (Below w.heap.size w wr)) (fun iv _ => n' - (intOf iv).toNat)
  case atStart => exact ⟨0, _, [], Nat.zero_le _, rfl, Lib.hid rfl, HO1, HB1⟩
  case round =>
    clear HO1 HB1 HS1
    obtain ⟨i, v, rs, hi, rfl, HRs, HO, HB⟩ := hrel
    by_cases hin : i < n'
    · have hin' : (i : Int) < (n' : Int) := by omega
      have hi0 : (0 : Int) ≤ (i : Int) := by omega
      obtain ⟨b, hb⟩ : ∃ b, bs[i]? = some b := ⟨_, List.getElem?_eq_getElem (by rw [HC.out.2.2.1]; exact hin)⟩
      obtain ⟨b', hb'⟩ : ∃ b', bs'[i]? = some b' := ⟨_, List.getElem?_eq_getElem (by rw [HC'.out.2.2.1]; exact hin)⟩
      obtain ⟨r, hr⟩ : ∃ r, od[i]? = some r := ⟨_, List.getElem?_eq_getElem (by rw [HL.out.1]; exact hin)⟩
      obtain ⟨r', hr'⟩ : ∃ r', od'[i]? = some r' := ⟨_, List.getElem?_eq_getElem (by rw [HL.out.2]; exact hin)⟩
      obtain ⟨g, off, rfl, _⟩ := HC.out.2.2.2.2.1.at_ (show 0 < n' by omega)
      obtain ⟨g', off', rfl, _⟩ := HC'.out.2.2.2.2.1.at_ (show 0 < n' by omega)
      have HCe2 := Lib.hid (show ∀ V, Below w.heap.size w V → V.cell? ⟨g, off + i, none⟩ = some (.map (some b)) ∧ V.cell? ⟨g', off' + i, none⟩ = some (.map (some b')) from fun V hV => ⟨(HC.out.2.2.2.2.1.keep hV).again hin (by rw [List.getElem?_map, hb]; rfl), (HC'.out.2.2.2.2.1.keep hV).again hin (by rw [List.getElem?_map, hb']; rfl)⟩)
      have HRow := Lib.hid (HC.out.2.2.2.2.2.2 i b r hb hr)
      have HRow' := Lib.hid (HC'.out.2.2.2.2.2.2 i b' r' hb' hr')
      have HEr := Lib.hid (show (mergeO od od').take (i + 1) = (mergeO od od').take i ++ [foldR (r ++ r')] from by
        have hlt : i < (mergeO od od').length := by rw [mergeO_len, HL.out.1]; exact hin
        have e1 : od.getD i [] = r := by rw [List.getD_eq_getElem?_getD, hr]; rfl
        have e2 : od'.getD i [] = r' := by rw [List.getD_eq_getElem?_getD, hr']; rfl
        rw [List.take_succ_eq_append_getElem hlt, mergeO_at, e1, e2])
      have HRb := Lib.hid (show RwB K r ∧ RwB K r' ∧ (∀ q ∈ r, i64ok q.1) ∧ (∀ q ∈ r', i64ok q.1) from ⟨HBd.out.2.1 r (List.mem_of_getElem? hr), HBd.out.2.2.1 r' (List.mem_of_getElem? hr'), fun q hq => (HBd.out.2.2.2.1 r (List.mem_of_getElem? hr) q hq).1.ok, fun q hq => (HBd.out.2.2.2.2 r' (List.mem_of_getElem? hr') q hq).1.ok⟩)
      clear hb hb' hr hr'
      go_upto_region 10 with (fail)
      obtain ⟨W2, hW2⟩ : ∃ W2, wr.alloc (.map #[] 0) = W2 := ⟨_, rfl⟩
      have hb2 : Below wr.heap.size wr W2 := by rw [← hW2]; exact bel_al (Below.refl _ _) _
      have hm2 : MRowT W2 wr.heap.size [] := by rw [← hW2]; exact MRowT.made wr
      have hs2 : W2.heap.size = wr.heap.size + 1 := by rw [← hW2]; simp
      rw [hW2]
      clear hW2
      have HB2 := Lib.hid (HB.out.andThen hb2)
      have HO2 := Lib.hid (HO.out.keep hb2)
      have HM2 := Lib.hid hm2
      have HS2 := Lib.hid hs2
      have HWr := Lib.hid HB.out.size
      obtain ⟨M, hM⟩ : ∃ M, M = wr.heap.size := ⟨_, rfl⟩
      rw [← hM] at HM2 HO2 HS2 HWr ⊢
      clear hM hb2 hm2 hs2 HB HO
      have e0 := HCe.out W2 HB2.out
      have e1 := HCe2.out W2 HB2.out
      obtain ⟨e00, e01⟩ := e0
      obtain ⟨e10, e11⟩ := e1
      go_region_held3 (fun V => V.cell? ⟨p, 0, none⟩ = some (.slice (some ⟨g, off, none⟩) n' c) ∧ V.cell? ⟨p', 0, none⟩ = some (.slice (some ⟨g', off', none⟩) n' c') ∧ V.cell? ⟨g, off + i, none⟩ = some (.map (some b)) ∧ V.cell? ⟨g', off' + i, none⟩ = some (.map (some b'))) (go_keep) (fail)
      obtain ⟨W3, hW3⟩ : ∃ W3, (W2.alloc (.cells #[.map (some b), .map (some b')] 114)).drew = W3 := ⟨_, rfl⟩
      have hb3 : Below W2.heap.size W2 W3 := by rw [← hW3]; exact bel_drewN (bel_al (Below.refl _ _) _) 1
      have hk3 : Blk W3 W2.heap.size 114 #[.map (some b), .map (some b')] := by rw [← hW3]; exact (Blk.new W2 _ _).drew
      rw [hW3]
      clear hW3 e00 e01 e10 e11
      have HB3 := Lib.hid (HB2.out.andThen hb3)
      have HO3 := Lib.hid (HO2.out.keep hb3)
      have HM3 := Lib.hid (show MRowT W3 M (foldR []) from HM2.out.keep hb3)
      have HK3 := Lib.hid hk3
      obtain ⟨S, hS⟩ : ∃ S, S = W2.heap.size := ⟨_, rfl⟩
      rw [← hS] at HK3 ⊢
      have HSM := Lib.hid (show S = M + 1 from by rw [hS, HS2.out])
      clear hb3 hk3 hS HB2 HO2 HM2
      go_wp2_with fail
      go_loopw [55] (fun kv wx => ∃ (k : Nat) (d : Rw), k ≤ 2 ∧ kv = .int .i64 (k : Int) ∧ Hid (d.Perm (acc2 r r' k)) ∧ Hid (MRowT wx M (foldR d)) ∧ Hid (Outs w.heap.size w.heap.size M wx v rs) ∧ Hid (Below w.heap.size w wx) ∧ Hid (Blk wx S 114 #[.map (some b), .map (some b')])) (fun kv _ => 2 - (intOf kv).toNat)
      case atStart => exact ⟨0, [], Nat.zero_le _, rfl, Lib.hid (List.Perm.refl _), HM3, HO3, HB3, HK3⟩
      case round =>
        clear HM3 HO3 HB3 HK3
        obtain ⟨k, d, hk, rfl, HD, HM, HO, HB, HK⟩ := hrel
        by_cases hk2 : k < 2
        · have hk2' : (k : Int) < 2 := by omega
          have hk0 : (0 : Int) ≤ (k : Int) := by omega
          obtain ⟨bk, rk, ck, HRk, HAc, HRB⟩ : ∃ (bk : Nat) (rk : Rw), wr.cell? ⟨S, k, none⟩ = some (.map (some bk)) ∧ Hid (MRow w bk rk) ∧ Hid (acc2 r r' (k + 1) = acc2 r r' k ++ rk) ∧ Hid (RwB K rk ∧ ∀ q ∈ rk, i64ok q.1) := by
            rcases (show k = 0 ∨ k = 1 by omega) with rfl | rfl
            · exact ⟨b, r, by have := HK.out.cell 0; simpa using this, HRow, Lib.hid (by simp [acc2]), Lib.hid ⟨HRb.out.1, HRb.out.2.2.1⟩⟩
            · exact ⟨b', r', by have := HK.out.cell 1; simpa using this, HRow', Lib.hid (by simp [acc2]), Lib.hid ⟨HRb.out.2.1, HRb.out.2.2.2⟩⟩
          have HRw := Lib.hid (HRk.out.keep HB.out)
          have HDl := Lib.hid (show d.length ≤ 2 * K ∧ ∀ q ∈ d, q.2.length ≤ K from by
            have h1 := HD.out.length_eq
            have h2 := HRb.out.1
            have h3 := HRb.out.2.1
            have hacc : (acc2 r r' k).length ≤ 2 * K ∧ ∀ q ∈ acc2 r r' k, q.2.length ≤ K := by
              have h4 := h2.1
              have h5 := h3.1
              unfold acc2
              split
              · exact ⟨Nat.zero_le _, fun q hq => by cases hq⟩
              · split
                · exact ⟨by omega, h2.2⟩
                · exact ⟨by rw [List.length_append]; omega, fun q hq => (List.mem_append.1 hq).elim (h2.2 q) (h3.2 q)⟩
            exact ⟨by omega, fun q hq => hacc.2 q (HD.out.mem_iff.1 hq)⟩)
          have HDk := Lib.hid (show d.length ≤ k * K from by
            have h1 : d.length = (acc2 r r' k).length := HD.out.length_eq
            have h4 := HRb.out.1.1
            rcases (show k = 0 ∨ k = 1 by omega) with rfl | rfl
            · rw [h1]
              exact Nat.zero_le _
            · have h6 : (acc2 r r' 1).length = r.length := rfl
              omega)
          go_wp2_with (at_range; refine wpList_rangeR _ rfl _ rfl bk rk rfl HRw.out ?_; intro w2 hrg hb2 hs2; have HRg := Lib.hid hrg; have HB2 := Lib.hid hb2; clear hrg hb2 hs2)
          obtain ⟨it, hit⟩ : ∃ it, it = wr.heap.size := ⟨_, rfl⟩
          have HIt := Lib.hid (show M < it ∧ S < it ∧ w.heap.size ≤ M ∧ bk < w.heap.size from ⟨by rw [hit]; exact HM.out.row.lt, by rw [hit]; exact HK.out.lt, HWr.out, HRk.out.lt⟩)
          have HM2 := Lib.hid (HM.out.keep HB2.out)
          have HO2 := Lib.hid (HO.out.keep HB2.out)
          have HK2 := Lib.hid (HK.out.keep HB2.out)
          have HB22 := Lib.hid (HB.out.andThen HB2.out)
          rw [← hit] at HRg ⊢
          clear hit HB2 HRw ck HM HO HK HB
          go_wp2_with fail
          go_frame
          go_loopw [] (fun wx => ∃ done : Rw, Hid (RangesR wx bk it rk done) ∧ Hid (MRowT wx M (foldR (d ++ done))) ∧ Hid (Outs w.heap.size w.heap.size M wx v rs) ∧ Hid (Below w.heap.size w wx) ∧ Hid (Blk wx S 114 #[.map (some b), .map (some b')])) (fun wx => wx.rangeLeft bk it)
          case atStart => exact ⟨[], HRg, by rw [List.append_nil]; exact HM2, HO2, HB22, HK2⟩
          case round =>
            clear HRg HM2 HO2 HB22 HK2
            obtain ⟨done, HRg, HM, HO, HB, HK⟩ := hrel
            go_wp2_with (at_next; refine wpList_nextR _ rfl _ rfl bk it _ done rfl HRg.out ?_ ?_)
            · intro hperm
              have HPm := Lib.hid hperm
              clear hperm
              go_wp2_with fail
              go_roundw
              case rel => exact ⟨k + 1, d ++ done, by omega, by go_num, Lib.hid (by rw [HAc.out]; exact HD.out.append HPm.out), HM, HO, HB, HK⟩
              case measure => simp [intOf]; omega
            · intro y A c9 l w3 hyl hyk hrow3 hrg3 hlt3 hg3 hnc3 hsz3 hen3
              have hsi := HIt.out
              have HDn := Lib.hid (done_leR HRg.out)
              have hsub : ∀ q ∈ d ++ done, q.2.length ≤ K := fun q hq => (List.mem_append.1 hq).elim (HDl.out.2 q) fun h => HRB.out.1.2 q (HRg.out.sub q h)
              have hfb := foldR_B (k := K) (d ++ done) hsub
              have hdl : (d ++ done).length ≤ 200 := by
                have h1 := HDk.out
                have h2 := HDn.out
                have h3 := HRB.out.1.1
                have h4 := HBd.out.1
                have h5 : k * K ≤ 1 * 100 := Nat.mul_le_mul (by omega) h4
                rw [List.length_append]
                omega
              have hfl : (d ++ done).length * (K + 1) ≤ 200 * 101 := Nat.mul_le_mul hdl (by have := HBd.out.1; omega)
              have HM3 := Lib.hid (HM.out.other hnc3 hg3 (by omega))
              have HO3 := Lib.hid (HO.out.turned hnc3 hg3 (by omega))
              have HK3 := Lib.hid (HK.out.turned hnc3 hg3)
              have HB3 := Lib.hid (bel_turn HB.out hg3 (by omega) HB.out.size)
              have hll : l.length ≤ K := HRB.out.1.2 (y, l) hyl
              have HPt := Lib.hid (put_anyT M (foldR (d ++ done)) y A l.length c9 l w3 HM3.out (by have := hfb.1; omega) (fun q hq => by have := hfb.2 q hq; omega) (HRB.out.2 (y, l) hyl) hrow3 rfl (by have := HBd.out.1; omega))
              have HRg3 := Lib.hid hrg3
              have HLt3 := Lib.hid hlt3
              have HIt3 := Lib.hid hsi
              clear hsi hsub hfb hdl hfl hll hyl hyk hrow3 hrg3 hlt3 hg3 hnc3 hsz3 HM HO HB HK HRg HDn
              go_wp2_with (go_at_call 67; refine HPt.out.mono ?_; clear HPt; rintro e w4 ⟨rfl, hm4, hg4⟩; have HM4 := Lib.hid hm4; have HG4 := Lib.hid hg4; clear hm4 hg4)
              have hncM := HM3.out.row.isMap
              have hsi := HIt3.out
              go_roundw
              case rel => exact ⟨done ++ [(y, l)], Lib.hid (HRg3.out.other hncM HG4.out (by omega) (by omega)), Lib.hid (by rw [← List.append_assoc, foldR_snoc]; exact HM4.out), Lib.hid (HO3.out.turned hncM HG4.out (Nat.le_refl _)), Lib.hid (bel_turn HB3.out HG4.out (by omega) HB3.out.size), Lib.hid (HK3.out.turned hncM HG4.out)⟩
              case measure =>
                have h1 : w4.rangeLeft bk it = w3.rangeLeft bk it := by
                  have e1 := HG4.out.block bk HRg3.out.row.lt (fun e => by cases e; omega)
                  have e2 := HG4.out.block it HRg3.out.lti (fun e => by cases e; omega)
                  unfold World.rangeLeft
                  rw [e1, e2]
                rw [h1]
                exact HLt3.out
        · obtain rfl : k = 2 := by omega
          have HF := Lib.hid (show foldR d = foldR (r ++ r') from foldR_perm HD.out)
          obtain ⟨bs0, q1, q2, q3, q4, q5, q6⟩ := HO.out
          have hlr : rs.length ≤ 8 := by
            have h1 := congrArg List.length HRs.out
            rw [List.length_take] at h1
            omega
          obtain ⟨kr, hkr⟩ : ∃ kr, kr = rs.length := ⟨_, rfl⟩
          rw [← hkr] at q2 hlr
          obtain ⟨A0, c0, rfl, _⟩ := Sl.own q2
          have cv := q6.cell 0
          simp at cv
          have HOw := Lib.hid q2
          have HBo := Lib.hid q6
          have HKr := Lib.hid hkr
          have HQs := Lib.hid (And.intro q1 (And.intro q3 (And.intro q4 q5)))
          clear q1 q2 q3 q4 q5 q6 hkr
          have hsz := HB.out.size
          have HSz := Lib.hid hsz
          clear hsz
          go_wp2_with (at_builtin; refine wpList_cat_at elemRow _ _ rfl rfl (HOw.out.alloc _) (by have := HSz.out; simp; omega) (Sl.newAt wr _ _ 1 rfl) rfl rfl (by simp [Value.oneCell']) (by unfold lim; omega) (by unfold lim; omega) ?_; intro v6 w6 hown6 hgr6; obtain ⟨g6, c6, rfl, _⟩ := own_form hown6 (by omega); have HO6 := Lib.hid hown6; have HG6 := Lib.hid hgr6; have fb := ((HBo.out.alloc (.cells #[.map (some M)] 114)).others (HOw.out.alloc (.cells #[.map (some M)] 114)) hgr6.g (by decide)).frozen 0; have cb := ((HBo.out.alloc (.cells #[.map (some M)] 114)).others (HOw.out.alloc (.cells #[.map (some M)] 114)) hgr6.g (by decide)).cell 0; simp at cb; clear hown6 hgr6)
          have hsz6 : wr.heap.size ≤ w6.heap.size := by have := HG6.out.g.size; simp at this; omega
          have hMl := HM.out.row.lt
          have hPu := Outs.push (row := foldR d) HQs.out.1 (by rw [← HKr.out]; exact HOw.out) HQs.out.2.1 HQs.out.2.2.1 HQs.out.2.2.2 HBo.out HM.out (Nat.le_refl _) (by rw [← HKr.out]; exact HO6.out) HG6.out
          rw [HF.out] at hPu
          refine ⟨⟨i + 1, _, rs ++ [foldR (r ++ r')], by omega, by go_num, Lib.hid (by rw [HEr.out, HRs.out]), Lib.hid (hPu.mono (by simp; omega)), Lib.hid ?_⟩, by simp [intOf]; omega⟩
          have h1 : Below w.heap.size wr w6 := HG6.out.after_alloc.below (by have := HB.out.size; omega) (fun k hk => (HOw.out.lt k hk).1)
          exact HB.out.trans (Below.setCell h1 (p := ⟨w.heap.size, 0, none⟩) (Nat.le_refl _) _)
    · obtain rfl : i = n' := by omega
      have hin' : ¬ (i : Int) < (i : Int) := by omega
      go_wp2_with fail
      go_ret2
      obtain ⟨bs0, q1, q2, q3, q4, q5, q6⟩ := HO.out
      obtain ⟨A0, c0, rfl, hsl⟩ := Sl.own q2
      have hrs : rs = mergeO od od' := by rw [HRs.out, List.take_of_length_le (by rw [mergeO_len, HL.out.1]; exact Nat.le_refl _)]
      refine ⟨_, rfl, ⟨A0, rs.length, c0, bs0, q6, by rw [hrs], q1, (own_cap q2).1, hsl, q3, fun i b r hb hr => ?_⟩, HB.out⟩
      rw [← hrs] at hr
      exact (q5 i b r hb hr).row
end Go.Proofs.YtmonepclhbappaaGreatDoor
/-
  Odags: what no odag answers.
-/
namespace Go.Proofs.YtmonepclhbappaaGreatDoor
open Go.RowKit Go.Maps Go.Shelf
attribute [local go_sem] Oper.semAt_some
set_option maxRecDepth 100000
set_option linter.unusedVariables false

set_option maxHeartbeats 4000000 in
theorem values64_nil (d Bm : Nat) (w : World) (hB : w.cell? ⟨Bm, 0, none⟩ = some (.map none)) (hBl : Bm < w.heap.size) :
    GivesKnown Fence.wide d Tryz.prog 108 #[.pointer (some ⟨Bm, 0, none⟩)] (fun x : Int => #[.int .i64 x]) (fun _ _ _ => True) (fun _ => KeepsWalks) (fun xs => xs = []) (fun _ => True) 0 w := by
  intro l J Jx W hW hJ hJx hY h0
  have cm : W.cell? ⟨Bm, 0, none⟩ = some (.map none) := (hW.cell (p := ⟨Bm, 0, none⟩) hBl).trans hB
  have HJ := Lib.hid (hJ [] W (W.alloc (.mapIter none 0 #[] 0)) none h0 (gb_alloc _ _ none) (fun r e => by cases e))
  clear hW hB hY h0 hJ hJx
  have hrg := run_range_nilMap (P := Tryz.prog) W 121 3 2 Tryz.underlying121
  have hnx : ∀ ty, (Instr.next (.pointer (some ⟨W.heap.size, 0, none⟩)) false ty).run Tryz.prog (W.alloc (.mapIter none 0 #[] 0)) = _ := fun ty => run_next_nilMap W ty 0 0 #[]
  refine callsIn_of_wp Tryz.func108 rfl trivial ?_ rfl
  simp only [Tryz.ntmps108, List.size_toArray, List.length_cons, List.length_nil, Nat.reduceAdd, Nat.reduceSub, Array.replicate_succ, Array.replicate_zero, List.push_toArray, List.append_toArray, List.nil_append, List.cons_append]
  gi_wp2
  refine wpIn_loop_rounds 1 ?_
  rw [roundsIn_succ]
  gi_wp2
  go_end0
  exact ⟨⟨_, rfl⟩, .inl ⟨[], rfl, HJ.out⟩⟩

set_option maxHeartbeats 4000000 in
theorem AppendSeq64_nil (Bm : Nat) (w : World) (hB : w.cell? ⟨Bm, 0, none⟩ = some (.map none)) (hBl : Bm < w.heap.size) :
    Calls Tryz.prog 107 #[.slice none 0 0, .func (.func 108) #[] #[.pointer (some ⟨Bm, 0, none⟩)]] w fun e w' => ∃ (v : Value) (xs : List Int), e = .returned v ∧ xs = [] ∧ w'.ownsRow w.heap.size 2 1 v xs.length (xs.map (Value.int .i64)) ∧ Below w.heap.size w w' := by
  refine (callsIn_wide (n := 5)).1 ?_
  refine callsIn_of_wp_marks Tryz.func107 rfl trivial ?_ rfl
  simp only [Tryz.ntmps107, List.size_toArray, List.length_cons, List.length_nil, Nat.reduceAdd, Nat.reduceSub, Array.replicate_succ, Array.replicate_zero, List.push_toArray, List.append_toArray, List.nil_append, List.cons_append]
  gi_wp2
  have hw1 : (w.alloc (.cells #[.slice none 0 0] 122)).heap.size = w.heap.size + 1 := by simp
  have hb1 := bel_al (Below.refl w.heap.size w) (.cells #[.slice none 0 0] 122)
  have hgv := values64_nil (5 - 1) Bm _ ((hb1.cell (p := ⟨Bm, 0, none⟩) hBl).trans hB) (by rw [hw1]; omega)
  obtain ⟨i0, hi, hz0, hz1, hz2⟩ := info_parts elemI64r.hi
  refine rangeFunc_one (fun x b => { b with tmps := b.tmps.setIfInBounds 5 (.int .i64 x) }) rfl (by omega) (gf := 108) (lb := #[.pointer (some ⟨Bm, 0, none⟩)]) rfl trivial (enters_of Tryz.func108 (by kernel_rfl) rfl)
    hgv (fun pre x W l o o' hl ho h => trivial) (fun h k => h.trans k) (fun _ W l o o' _ hl ho hw => KeepsWalks.putObj _ hl hw) (Below.refl _ _)
    (fun pre W => (∃ v, Boxed W w.heap.size 122 v ∧ W.ownsRow w.heap.size 2 1 v pre.length (pre.map (Value.int .i64)) ∧ True) ∧ Below w.heap.size w W) (fun _ _ _ => False)
    (OwnFrom.and (Own.from (holdsRow_own w.heap.size w.heap.size 122 2 1 (fun pre : List Int => pre.length) (fun pre => pre.map (Value.int .i64)) (fun _ _ => True)) _) (ownFrom_below (Nat.le_refl _) (by rw [hw1]; omega)))
    (fun c s A B row hs _ _ => hs.elim) ⟨⟨_, Boxed.new _ _ _, World.ownsRow_nil _ _ _ _, trivial⟩, hb1⟩ ?assign ?body ?done ?stop
  case assign =>
    intro l x W K hK
    gi_wp2
    exact hK
  case body =>
    rintro lp pre x W _ _ hlt
    exact absurd hlt (Nat.not_lt_zero _)
  case done =>
    rintro D xs W hD hS ⟨⟨v, hv, hrow, _⟩, hB2⟩ hK
    have hc := hv.cell
    rw [hw1] at hD
    gi_wp2
    refine ⟨by simp, .inl ⟨_, _, rfl, run_takeDeferred hK, ?_⟩⟩
    refine ⟨_, results_tmp rfl _ _ _, _, xs, rfl, hS, ?_, hB2.trans (belowK_b (w := w) (Nat.le_refl _) W D _ _ (by omega) hK rfl rfl)⟩
    exact ownsRow_putObj hrow _ hK rfl
  case stop =>
    rintro D c pre W _ _ h _
    exact h.elim

theorem Collect64_nil (Bm : Nat) (w : World) (hB : w.cell? ⟨Bm, 0, none⟩ = some (.map none)) (hBl : Bm < w.heap.size) :
    Calls Tryz.prog 71 #[.func (.func 108) #[] #[.pointer (some ⟨Bm, 0, none⟩)]] w fun e w' => ∃ (v : Value) (xs : List Int), e = .returned v ∧ xs = [] ∧ w'.ownsRow w.heap.size 2 1 v xs.length (xs.map (Value.int .i64)) ∧ Below w.heap.size w w' := by
  have HC := Lib.hid (AppendSeq64_nil Bm w hB hBl)
  clear hB hBl
  go_enter Tryz.func71, Tryz.ntmps71
  go_wp2_with fail
  refine HC.out.mono ?_
  rintro e w' ⟨v, xs, rfl, hp, hown, hb⟩
  have HP := Lib.hid hp
  have HO := Lib.hid hown
  have HB := Lib.hid hb
  clear hp hown hb
  go_wp2_with fail
  go_ret
  exact ⟨v, xs, rfl, HP.out, HO.out, HB.out⟩

set_option maxHeartbeats 2000000 in
theorem Count_nil (w : World) : Calls Tryz.prog 29 #[.pointer none] w fun e w' => e = .returned (.tuple #[.int .i64 0, .nilIface]) ∧ Below w.heap.size w w' := by
  have HCo := Lib.hid (Collect64_nil w.heap.size (w.alloc (.cells #[.map none] 121)) (by have := (Blk.new w 121 #[.map none]).cell 0; simp at this ⊢) (by simp))
  have HTo := Lib.hid (show ∀ (A : Option Addr) (c : Nat) (W : World), Calls Tryz.prog 70 #[.slice A 0 c] W (fun e w' => e = .returned (.tuple #[.int .i64 0, .nilIface]) ∧ Below W.heap.size W w') from fun A c W => by
    refine (NumsTotal_any [] A 0 c W rfl (by omega) (fun x hx => by cases hx) (Sl.nil _ _ _)).mono ?_
    rintro e w' ⟨ev', h1, h2, h3⟩
    have hfit : fitB (sumZ []) = true := rfl
    rw [te_fit hfit] at h2
    rw [tn_fit hfit] at h1
    have h4 : ev' = .nilIface := h2
    rw [h4] at h1
    exact ⟨h1, h3⟩)
  go_enter Tryz.func29, Tryz.ntmps29
  go_wp2_with (go_at_call 32; refine (OdLen_nil _).mono ?_; rintro e wx ⟨rfl, rfl⟩)
  go_loop [4, 5] (fun bv iv => bv = .map none ∧ iv = .int .i64 (-1)) (fun _ _ => 0)
  case atStart => exact ⟨rfl, rfl⟩
  case round =>
    obtain ⟨rfl, rfl⟩ := hrel
    go_wp2_with (first
      | (go_at_call 72; refine (Values64_any _ _).mono ?_; rintro e w1 ⟨rfl, rfl⟩)
      | (go_at_call 71; refine HCo.out.mono ?_; clear HCo; rintro e w2 ⟨v, xs, rfl, rfl, hown, hb⟩; obtain ⟨A2, c2, rfl, hs2⟩ := Sl.own hown; have HB2 := Lib.hid hb; clear hown hs2 hb)
      | (go_at_call 70; refine (HTo.out A2 c2 w2).mono ?_; clear HTo; rintro e w3 ⟨rfl, hb⟩; have HB3 := Lib.hid hb; clear hb))
    go_ret2
    exact ⟨rfl, ((bel_al (Below.refl _ _) _).andThen HB2.out).andThen HB3.out⟩
theorem Merge_nil1 (v : Value) (w : World) : Calls Tryz.prog 27 #[.pointer none, v] w fun e w' => ∃ ev, e = .returned (.tuple #[.pointer none, ev]) ∧ (Err.flt 10 0 ⟨#[111, 100, 97, 103]⟩).At w' ev ∧ Below w.heap.size w w' := by
  go_enter Tryz.func27, Tryz.ntmps27
  go_wp2_with (go_at_call 57; refine (New_err _ _ _ _).mono ?_; rintro e w' ⟨v, rfl, hv, hb⟩; have HV := Lib.hid hv; have HB := Lib.hid hb; clear hv hb)
  go_ret2
  exact ⟨_, rfl, HV.out, HB.out⟩
theorem Merge_nil2 (p : Addr) (w : World) : Calls Tryz.prog 27 #[.pointer (some p), .pointer none] w fun e w' => ∃ ev, e = .returned (.tuple #[.pointer none, ev]) ∧ (Err.flt 10 0 ⟨#[111, 100, 97, 103]⟩).At w' ev ∧ Below w.heap.size w w' := by
  go_enter Tryz.func27, Tryz.ntmps27
  go_wp2_with (go_at_call 57; refine (New_err _ _ _ _).mono ?_; rintro e w' ⟨v, rfl, hv, hb⟩; have HV := Lib.hid hv; have HB := Lib.hid hb; clear hv hb)
  go_ret2
  exact ⟨_, rfl, HV.out, HB.out⟩
theorem Merge_len (p p' N N' : Nat) (od od' : List Rw) (w : World) (h : OdM w p od) (h' : OdM w p' od') (hl : od.length = N) (hl' : od'.length = N') (hne : N ≠ N') : Calls Tryz.prog 27 #[.pointer (some ⟨p, 0, none⟩), .pointer (some ⟨p', 0, none⟩)] w fun e w' => ∃ ev, e = .returned (.tuple #[.pointer none, ev]) ∧ (Err.flt 1 0 ⟨#[108, 101, 110, 103, 116, 104]⟩).At w' ev ∧ Below w.heap.size w w' := by
  have HLn := Lib.hid (by have h1 := OdLen_any p od w h; rw [hl] at h1; exact h1)
  have HLn' := Lib.hid (by have h1 := OdLen_any p' od' w h'; rw [hl'] at h1; exact h1)
  have hneq : ((N : Int) != (N' : Int)) = true := by simp; omega
  clear h h' hl hl' hne
  go_enter Tryz.func27, Tryz.ntmps27
  go_wp2_with (first
    | (go_at_call 32; refine HLn.out.mono ?_; clear HLn; rintro e w1 ⟨rfl, rfl⟩)
    | (go_at_call 32; refine HLn'.out.mono ?_; clear HLn'; rintro e w1 ⟨rfl, rfl⟩)
    | (go_at_call 57; refine (New_err _ _ _ _).mono ?_; rintro e w' ⟨v, rfl, hv, hb⟩; have HV := Lib.hid hv; have HB := Lib.hid hb; clear hv hb)
    | fail)
  go_ret2
  exact ⟨_, rfl, HV.out, HB.out⟩
theorem Same_nil (w : World) : Calls Tryz.prog 31 #[.pointer none, .pointer none] w fun e w' => e = .returned (.bool true) ∧ w = w' := by
  go_enter Tryz.func31, Tryz.ntmps31
  go_wp2_with fail
  go_ret
  exact ⟨rfl, rfl⟩
theorem Same_nil2 (p : Addr) (w : World) : Calls Tryz.prog 31 #[.pointer (some p), .pointer none] w fun e w' => e = .returned (.bool false) ∧ w = w' := by
  go_enter Tryz.func31, Tryz.ntmps31
  go_wp2_with fail
  go_ret
  exact ⟨rfl, rfl⟩
theorem Row_nil (w : World) : Calls Tryz.prog 34 #[.pointer none, .int .i64 0] w fun e w' => e = .returned (.slice none 0 0) ∧ w = w' := by
  go_enter Tryz.func34, Tryz.ntmps34
  go_wp2_with (go_at_call 32; refine (OdLen_nil _).mono ?_; rintro e wx ⟨rfl, rfl⟩)
  go_ret
  exact ⟨rfl, rfl⟩
theorem Links_nil (w : World) : Calls Tryz.prog 35 #[.pointer none, .int .i64 0, .int .i64 0] w fun e w' => e = .returned (.slice none 0 0) ∧ w = w' := by
  go_enter Tryz.func35, Tryz.ntmps35
  go_wp2_with (go_at_call 32; refine (OdLen_nil _).mono ?_; rintro e wx ⟨rfl, rfl⟩)
  go_ret
  exact ⟨rfl, rfl⟩
set_option maxHeartbeats 2000000 in
theorem Cost_nil (w : World) : Calls Tryz.prog 33 #[.pointer none] w fun e w' => e = .returned (.int .i64 0) ∧ w = w' := by
  go_enter Tryz.func33, Tryz.ntmps33
  go_wp2_with (go_at_call 32; refine (OdLen_nil _).mono ?_; rintro e wx ⟨rfl, rfl⟩)
  go_loop [3, 9] (fun nv iv => nv = .int .i64 0 ∧ iv = .int .i64 0) (fun _ _ => 0)
  case atStart => exact ⟨rfl, rfl⟩
  case round =>
    obtain ⟨rfl, rfl⟩ := hrel
    go_wp2_with fail
    go_ret
    exact ⟨rfl, rfl⟩
abbrev RowN := Option Addr × Nat × List Int
theorem paths_nil (k B : Nat) (w : World) (hB : Blk w B 51 #[.pointer none]) :
    GivesKnown Fence.wide k Tryz.prog 73 #[.pointer (some ⟨B, 0, none⟩)] (fun x : RowN => #[rv x]) (fun _ _ _ => False) (fun _ _ _ => True) (fun xs => xs = []) (fun _ => False) 0 w := by
  intro l J Jx W hW hJ hJx hY h0
  have key : Calls Tryz.prog 73 #[.func (.yield l) #[] #[], .pointer (some ⟨B, 0, none⟩)] W fun e w' => (∃ v, e = .returned v) ∧ W = w' := by
    have c0 := (hB.keep hW).cell 0
    simp at c0
    clear hB hW hJ hJx hY h0
    go_enter Tryz.func73, Tryz.ntmps73
    go_wp2_with fail
    go_end0
    exact ⟨⟨_, rfl⟩, rfl⟩
  refine (callsIn_wide.2 key).mono fun e W' ⟨hv, hg⟩ => ⟨hv, .inl ⟨[], rfl, ?_⟩⟩
  rw [← hg]
  exact h0
end Go.Proofs.YtmonepclhbappaaGreatDoor
/-
  Bytes, words, sums and parcels, plainly: no program in sight.
-/
namespace Go.Proofs.YtmonepclhbappaaGreatDoor

/-- A list of bytes. -/
def Bys (l : List Int) : Prop := ∀ x ∈ l, 0 ≤ x ∧ x ≤ 255
theorem Bys.nil : Bys [] := fun _ h => absurd h (by simp)
theorem Bys.append {a b : List Int} (ha : Bys a) (hb : Bys b) : Bys (a ++ b) := fun x hx => (List.mem_append.1 hx).elim (ha x) (hb x)
theorem Bys.left {a b : List Int} (h : Bys (a ++ b)) : Bys a := fun x hx => h x (List.mem_append_left _ hx)
theorem Bys.right {a b : List Int} (h : Bys (a ++ b)) : Bys b := fun x hx => h x (List.mem_append_right _ hx)
theorem Bys.take {a : List Int} (h : Bys a) (k : Nat) : Bys (a.take k) := fun x hx => h x (List.mem_of_mem_take hx)
theorem Bys.drop {a : List Int} (h : Bys a) (k : Nat) : Bys (a.drop k) := fun x hx => h x (List.mem_of_mem_drop hx)
theorem Bys.cons {x : Int} {a : List Int} (h0 : 0 ≤ x) (h1 : x ≤ 255) (h : Bys a) : Bys (x :: a) := fun y hy => by
  rcases List.mem_cons.1 hy with rfl | hy
  · exact ⟨h0, h1⟩
  · exact h y hy
theorem Bys.set {a : List Int} (h : Bys a) (k : Nat) {x : Int} (h0 : 0 ≤ x) (h1 : x ≤ 255) : Bys (a.set k x) := fun y hy => by
  rcases List.mem_or_eq_of_mem_set hy with hy | rfl
  · exact h y hy
  · exact ⟨h0, h1⟩

/-- A number's 4 bytes, the highest first. -/
def wordL (n : Nat) : List Int := [((n / 16777216 % 256 : Nat) : Int), ((n / 65536 % 256 : Nat) : Int), ((n / 256 % 256 : Nat) : Int), ((n % 256 : Nat) : Int)]
theorem wordL_len (n : Nat) : (wordL n).length = 4 := rfl
theorem wordL_bys (n : Nat) : Bys (wordL n) := by
  intro x hx
  simp only [wordL, List.mem_cons, List.not_mem_nil, or_false] at hx
  rcases hx with rfl | rfl | rfl | rfl <;> omega
/-- 4 bytes as a number. -/
def wordN : List Int → Nat
  | a :: b :: c :: d :: _ => a.toNat * 16777216 + b.toNat * 65536 + c.toNat * 256 + d.toNat
  | _ => 0
theorem wordN_of {n : Nat} (h : n < 4294967296) (r : List Int) : wordN (wordL n ++ r) = n := by
  simp only [wordL, List.cons_append, List.nil_append, wordN, Int.toNat_natCast]
  omega
theorem wordN_lt : ∀ {l : List Int}, Bys l → wordN l < 4294967296
  | a :: b :: c :: d :: _, h => by
    have h1 := h a (by simp)
    have h2 := h b (by simp)
    have h3 := h c (by simp)
    have h4 := h d (by simp)
    simp only [wordN]
    omega
  | [], _ => by simp [wordN]
  | [_], _ => by simp [wordN]
  | [_, _], _ => by simp [wordN]
  | [_, _, _], _ => by simp [wordN]
theorem four : ∀ {l : List Int}, 4 ≤ l.length → ∃ a b c d, l.take 4 = [a, b, c, d] ∧ l = a :: b :: c :: d :: l.drop 4
  | a :: b :: c :: d :: r, _ => ⟨a, b, c, d, rfl, rfl⟩
  | [], h => by simp at h
  | [_], h => by simp at h
  | [_, _], h => by simp at h
  | [_, _, _], h => by simp at h
theorem wordL_of {l : List Int} (h : Bys l) (hl : 4 ≤ l.length) : wordL (wordN l) = l.take 4 := by
  obtain ⟨a, b, c, d, h4, he⟩ := four hl
  rw [he] at h
  have h1 := h a (by simp)
  have h2 := h b (by simp)
  have h3 := h c (by simp)
  have h5 := h d (by simp)
  rw [h4, he]
  simp only [wordN, wordL]
  congr 1
  · omega
  · congr 1
    · omega
    · congr 1
      · omega
      · congr 1; omega
theorem wordN_take {l : List Int} (hl : 4 ≤ l.length) : wordN (l.take 4) = wordN l := by
  obtain ⟨a, b, c, d, h4, he⟩ := four hl
  rw [h4]
  conv => rhs; rw [he]
  rfl
theorem wordN_inj {l r : List Int} (h : Bys l) (hr : Bys r) (hl : 4 ≤ l.length) (hlr : 4 ≤ r.length) (e : wordN l = wordN r) : l.take 4 = r.take 4 := by
  rw [← wordL_of h hl, ← wordL_of hr hlr, e]

/-- A byte more in a sum. -/
def sstep (s : Nat × Nat) (c : Int) : Nat × Nat := ((s.1 + c.toNat) % 65521, (s.2 + (s.1 + c.toNat) % 65521) % 65521)
def sumS (l : List Int) : Nat × Nat := l.foldl sstep (1, 0)
theorem sumS_snoc (l : List Int) (c : Int) : sumS (l ++ [c]) = sstep (sumS l) c := by simp [sumS, List.foldl_append]
theorem sumS_lt (l : List Int) : (sumS l).1 < 65521 ∧ (sumS l).2 < 65521 := by
  have : ∀ (l : List Int) (s : Nat × Nat), s.1 < 65521 → s.2 < 65521 → (l.foldl sstep s).1 < 65521 ∧ (l.foldl sstep s).2 < 65521 := by
    intro l
    induction l with
    | nil => intro s h1 h2; exact ⟨h1, h2⟩
    | cons c l ih => intro s h1 h2; exact ih _ (Nat.mod_lt _ (by omega)) (Nat.mod_lt _ (by omega))
  exact this l (1, 0) (by decide) (by decide)
/-- The sum of bytes. -/
def sumL (l : List Int) : Nat := (sumS l).2 * 65536 + (sumS l).1
theorem sumL_lt (l : List Int) : sumL l < 4294967296 := by
  have := sumS_lt l
  unfold sumL; omega
def tot : List Int → Nat
  | [] => 0
  | c :: l => c.toNat + tot l
theorem tot_append : ∀ a b, tot (a ++ b) = tot a + tot b
  | [], b => by simp [tot]
  | c :: a, b => by rw [List.cons_append, tot, tot, tot_append a b]; omega
theorem sumS_fst (l : List Int) : (sumS l).1 = (1 + tot l) % 65521 := by
  have : ∀ (l : List Int) (s : Nat × Nat), s.1 < 65521 → (l.foldl sstep s).1 = (s.1 + tot l) % 65521 := by
    intro l
    induction l with
    | nil => intro s h1; simp only [List.foldl_nil, tot]; omega
    | cons c l ih =>
      intro s h1
      rw [List.foldl_cons, ih _ (Nat.mod_lt _ (by omega)), tot]
      simp only [sstep]
      omega
  exact this l (1, 0) (by decide)
theorem sumL_fst {a b : List Int} (h : sumL a = sumL b) : (sumS a).1 = (sumS b).1 := by
  have h1 := sumS_lt a
  have h2 := sumS_lt b
  unfold sumL at h
  omega
/-- One byte turned: another sum. -/
theorem sumL_turn (a b : List Int) (x y : Int) (hx : 0 ≤ x ∧ x ≤ 255) (hy : 0 ≤ y ∧ y ≤ 255) (hne : x ≠ y) : sumL (a ++ x :: b) ≠ sumL (a ++ y :: b) := by
  intro h
  have := sumL_fst h
  rw [sumS_fst, sumS_fst, tot_append, tot_append, tot, tot] at this
  omega

/-- FWRK. -/
def fwrk : List Int := [70, 87, 82, 75]
/-- What the sum is of. -/
def preL (kind : Int) (body : List Int) : List Int := fwrk ++ kind :: (wordL body.length ++ body)
/-- A parcel. -/
def packL (kind : Int) (body : List Int) : List Int := preL kind body ++ wordL (sumL (preL kind body))
theorem preL_len (kind : Int) (body : List Int) : (preL kind body).length = body.length + 9 := by simp [preL, fwrk, wordL]
theorem packL_len (kind : Int) (body : List Int) : (packL kind body).length = body.length + 13 := by rw [packL, List.length_append, preL_len, wordL_len]
theorem preL_bys {kind : Int} {body : List Int} (hk : 0 ≤ kind ∧ kind ≤ 255) (hb : Bys body) : Bys (preL kind body) :=
  Bys.append (by unfold fwrk Bys; intro x hx; simp only [List.mem_cons, List.not_mem_nil, or_false] at hx; rcases hx with rfl | rfl | rfl | rfl <;> omega) (Bys.cons hk.1 hk.2 ((wordL_bys _).append hb))
theorem packL_bys {kind : Int} {body : List Int} (hk : 0 ≤ kind ∧ kind ≤ 255) (hb : Bys body) : Bys (packL kind body) := (preL_bys hk hb).append (wordL_bys _)

/-- What is wrong with a parcel: nothing (0), its beginning (1), its end (2), its length: too long (3), too short (4), its sum (5). -/
def unW (b : List Int) : Nat :=
  if 4 ≤ b.length ∧ b.take 4 ≠ fwrk then 1
  else if b.length < 13 then 2
  else if b.length - 13 < wordN (b.drop 5) then 3
  else if wordN (b.drop 5) < b.length - 13 then 4
  else if wordN (b.drop (9 + wordN (b.drop 5))) ≠ sumL (b.take (9 + wordN (b.drop 5))) then 5
  else 0
theorem unW_ok {b : List Int} (hb : Bys b) (h : unW b = 0) : ∃ kind body, b = packL kind body ∧ body.length = wordN (b.drop 5) ∧ b[4]? = some kind ∧ (b.drop 9).take body.length = body ∧ 0 ≤ kind ∧ kind ≤ 255 ∧ Bys body := by
  unfold unW at h
  split at h
  · omega
  split at h
  · omega
  split at h
  · omega
  split at h
  · omega
  split at h
  · omega
  rename_i h1 h2 h3 h4 h5
  have hm : b.take 4 = fwrk := Decidable.byContradiction fun e => h1 ⟨by omega, e⟩
  have hn : wordN (b.drop 5) = b.length - 13 := by omega
  have h5 : wordN (b.drop (9 + wordN (b.drop 5))) = sumL (b.take (9 + wordN (b.drop 5))) := Decidable.byContradiction h5
  have hk : b[4]? = some b[4] := List.getElem?_eq_getElem (by omega)
  have hbl : ((b.drop 9).take (b.length - 13)).length = b.length - 13 := by rw [List.length_take, List.length_drop]; omega
  have hpre : b.take (9 + wordN (b.drop 5)) = preL b[4] ((b.drop 9).take (b.length - 13)) := by
    have hw := wordL_of (hb.drop 5) (by rw [List.length_drop]; omega)
    unfold preL
    rw [hbl, ← hm, ← hn, hw, hn]
    have e1 : b.take (9 + (b.length - 13)) = b.take 9 ++ (b.drop 9).take (b.length - 13) := List.take_add ..
    have e2 : b.take 9 = b.take 5 ++ (b.drop 5).take 4 := List.take_add (i := 5) (j := 4) ..
    have e3 : b.take 5 = b.take 4 ++ [b[4]] := List.take_succ_eq_append_getElem (by omega)
    rw [e1, e2, e3]
    simp only [List.append_assoc, List.cons_append, List.nil_append]
  refine ⟨b[4], (b.drop 9).take (b.length - 13), ?_, by rw [hbl, hn], hk, by rw [hbl], (hb _ (List.getElem_mem (by omega))).1, (hb _ (List.getElem_mem (by omega))).2, (hb.drop 9).take _⟩
  unfold packL
  rw [← hpre, ← h5, wordL_of (hb.drop _) (by rw [List.length_drop]; omega)]
  have e1 : (b.drop (9 + wordN (b.drop 5))).take 4 = b.drop (9 + wordN (b.drop 5)) := List.take_of_length_le (by rw [List.length_drop]; omega)
  rw [e1, List.take_append_drop]
theorem packL_parts (kind : Int) (body : List Int) : (packL kind body).take 4 = fwrk ∧ (packL kind body).drop 5 = wordL body.length ++ (body ++ wordL (sumL (preL kind body))) ∧ (packL kind body).take (9 + body.length) = preL kind body ∧ (packL kind body).drop (9 + body.length) = wordL (sumL (preL kind body)) ∧ (packL kind body)[4]? = some kind ∧ ((packL kind body).drop 9).take body.length = body := by
  have hl := preL_len kind body
  refine ⟨rfl, ?_, ?_, ?_, rfl, ?_⟩
  · show (fwrk ++ kind :: (wordL body.length ++ body) ++ wordL (sumL (preL kind body))).drop 5 = _
    rw [List.append_assoc, List.cons_append, List.append_assoc]
    rfl
  · exact List.take_left' (by omega)
  · exact List.drop_left' (by omega)
  · show ((fwrk ++ kind :: (wordL body.length ++ body) ++ wordL (sumL (preL kind body))).drop 9).take body.length = _
    rw [List.append_assoc, List.cons_append, List.append_assoc]
    show ((body ++ wordL (sumL (preL kind body)))).take body.length = _
    exact List.take_left
theorem unW_pack (kind : Int) (body : List Int) (h : body.length < 4294967296) : unW (packL kind body) = 0 := by
  obtain ⟨h1, h2, h3, h4, _, _⟩ := packL_parts kind body
  have hl := packL_len kind body
  have hw : wordN ((packL kind body).drop 5) = body.length := by rw [h2, wordN_of h]
  unfold unW
  rw [hw, h1, h3, h4, hl]
  have hs : wordN (wordL (sumL (preL kind body))) = sumL (preL kind body) := by
    have := wordN_of (sumL_lt (preL kind body)) []
    rwa [List.append_nil] at this
  rw [hs, if_neg (by simp), if_neg (by omega), if_neg (by omega), if_neg (by omega), if_neg (by simp)]
end Go.Proofs.YtmonepclhbappaaGreatDoor
