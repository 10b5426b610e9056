/-
  Part 15 of the proof of OdagAdds: Merge, AddP.
-/
import Derived.BigQuiet
import Derived.Deep.DeepCutAuto
import Derived.Test.YtmonepclhbappaaDoorOdagAddsM14
import Derived.Test.YtmonepclhbappaaDoorOdagAddsM11
/-
  Odags: Merge.
-/
namespace Go.Proofs.YtmonepclhbappaaDoor
open Go.RowKit Go.Maps
set_option maxRecDepth 100000
set_option linter.unusedVariables false

/-- What a merged odag's making holds so far. -/
def Outs (B O lim : Nat) (wx : World) (v : Value) (rs : List Rw) : Prop :=
  ∃ bs : List Nat, bs.length = rs.length ∧ wx.ownsRow B 101 1 v rs.length (mps bs) ∧ bs.Nodup ∧ (∀ b ∈ bs, b < lim) ∧ (∀ (i b : Nat) (r : Rw), bs[i]? = some b → rs[i]? = some r → MRowT wx b r) ∧ Blk wx O 104 #[v]
section
variable {B O lim : Nat} {w w' : World} {v : Value} {rs : List Rw}
theorem Outs.keep (h : Outs B O lim w v rs) (hb : Below w.heap.size w w') : Outs B O lim w' v rs := by
  obtain ⟨bs, h1, h2, h3, h4, h5, h6⟩ := h
  exact ⟨bs, h1, own_block h2 fun g hg => hb.block g (h2.lt g hg).2, h3, h4, fun i b r hb' hr => (h5 i b r hb' hr).keep hb, h6.keep hb⟩
theorem Outs.mono {lim' : Nat} (h : Outs B O lim w v rs) (hl : lim ≤ lim') : Outs B O lim' w v rs := by
  obtain ⟨bs, h1, h2, h3, h4, h5⟩ := h
  exact ⟨bs, h1, h2, h3, fun b hb => Nat.lt_of_lt_of_le (h4 b hb) hl, h5⟩
theorem Outs.turned {b' : Nat} (h : Outs B O lim w v rs) (hm : NC w b') (hg : w.grownBy w' (some b')) (hl : lim ≤ b') : Outs B O lim w' v rs := by
  obtain ⟨bs, h1, h2, h3, h4, h5, h6⟩ := h
  exact ⟨bs, h1, own_turned h2 hm hg, h3, h4, fun i b r hb hr => (h5 i b r hb hr).other hm hg (by have := h4 b (List.mem_of_getElem? hb); omega), h6.turned hm hg⟩
theorem Outs.push {w6 : World} {v6 : Value} {M : Nat} {row : Rw} {o : Obj} {bs : List Nat} (h1 : bs.length = rs.length) (h2 : w.ownsRow B 101 1 v rs.length (mps bs)) (h3 : bs.Nodup) (h4 : ∀ b ∈ bs, b < lim) (h5 : ∀ (i b : Nat) (r : Rw), bs[i]? = some b → rs[i]? = some r → MRowT w b r) (h6 : Blk w O 104 #[v]) (hM : MRowT w M row) (hl : lim ≤ M) (hown : w6.ownsRow B 101 1 v6 (rs.length + 1) (mps bs ++ [.map (some M)])) (hgr : Gr (w.alloc o) w6 v v6) : Outs B O (M + 1) (w6.setCell ⟨O, 0, none⟩ v6) v6 (rs ++ [row]) := by
  have h2a := h2.alloc o
  have h6a := h6.alloc o
  have hO6 := h6a.others h2a hgr.g (by decide)
  have hne6 : ∀ g, v6.ownBlock = some g → g ≠ O := fun g hg e => own_notBlk hown hO6 (by decide) (by rw [hg, e])
  have key : ∀ {b : Nat} {r : Rw}, MRowT w b r → MRowT (w6.setCell ⟨O, 0, none⟩ v6) b r := fun {b r} hr => by
    refine ((hr.keep (bel_al (Below.refl _ _) o)).grown hgr.g fun g hg => ?_).grown (gb_set v6) fun g hg => ?_
    · rcases h2a.2 with ⟨h7, _⟩ | ⟨g', cap, cur, h7, _, h8, _⟩
      · rw [h7] at hg
        simp [Value.ownBlock] at hg
      · rw [h7] at hg
        obtain rfl : g' = g := by simpa [Value.ownBlock] using hg
        exact ⟨cur, _, _, h8, by decide⟩
    · cases hg
      exact ⟨_, _, _, hO6, by decide⟩
  refine ⟨bs ++ [M], by simp [h1], ?_, ?_, fun b hb => ?_, fun i b r hb hr => ?_, hO6.set_ 0 v6⟩
  · have h := own_block hown (w' := w6.setCell ⟨O, 0, none⟩ v6) fun g hg => Below.heap_setCell _ _ _ _ (hne6 g hg)
    rw [List.length_append, mps, List.map_append]
    exact h
  · rw [List.nodup_append]
    refine ⟨h3, by simp, fun b hb g hg e => ?_⟩
    have := h4 b hb
    rw [List.mem_singleton.1 hg] at e
    omega
  · rcases List.mem_append.1 hb with hb | hb
    · have := h4 b hb
      omega
    · rw [List.mem_singleton.1 hb]
      omega
  · rcases Nat.lt_or_ge i bs.length with hi | hi
    · rw [List.getElem?_append_left hi] at hb
      rw [List.getElem?_append_left (by omega)] at hr
      exact key (h5 i b r hb hr)
    · rw [List.getElem?_append_right hi] at hb
      rw [List.getElem?_append_right (by omega)] at hr
      obtain rfl : i = bs.length := by
        have := (List.getElem?_eq_some_iff.1 hb).1
        simp at this
        omega
      rw [Nat.sub_self] at hb
      rw [h1, Nat.sub_self] at hr
      obtain rfl : M = b := by simpa using hb
      obtain rfl : row = r := by simpa using hr
      exact key hM
end

def acc2 (r r' : Rw) (k : Nat) : Rw := if k = 0 then [] else if k = 1 then r else r ++ r'

set_option maxHeartbeats 16000000 in
theorem Merge_any (p p' N K : Nat) (od od' : List Rw) (w : World) (h : OdM w p od) (h' : OdM w p' od') (hl : od.length = N) (hl' : od'.length = N) (hN : N ≤ 8) (hK : K ≤ 100) (hB : OdB K od) (hB' : OdB K od') (hNu : Nums od) (hNu' : Nums od') :
    Calls Tryd.prog 37 #[.pointer (some ⟨p, 0, none⟩), .pointer (some ⟨p', 0, none⟩)] w fun e w' => ∃ q, e = .returned (.tuple #[.pointer (some ⟨q, 0, none⟩), .nilIface]) ∧ OdM w' q (mergeO od od') ∧ Below w.heap.size w w' := by
  have hmm := @run_makeMap Tryd.prog
  have HOd := Lib.hid h
  have HOd' := Lib.hid h'
  have HLn := Lib.hid (by have h1 := OdLen_any p od w h; rw [hl] at h1; exact h1)
  have HLn' := Lib.hid (by have h1 := OdLen_any p' od' w h'; rw [hl'] at h1; exact h1)
  have HL := Lib.hid (And.intro hl hl')
  have HBd := Lib.hid (And.intro hK (And.intro hB (And.intro hB' (And.intro hNu hNu'))))
  have hne : ((N : Int) != (N : Int)) = false := by simp
  clear h h' hl hl' hK hB hB' hNu hNu'
  go_enter Tryd.func37, Tryd.ntmps37
  go_upto_region 5 with (first
    | (go_at_call 52; refine HLn.out.mono ?_; clear HLn; rintro e w1 ⟨rfl, rfl⟩)
    | (go_at_call 52; refine HLn'.out.mono ?_; clear HLn'; rintro e w1 ⟨rfl, rfl⟩))
  go_upto_region 6 with (fail)
  obtain ⟨W1, hW1⟩ : ∃ W1, w.alloc (.cells #[.slice none 0 0] 104) = W1 := ⟨_, rfl⟩
  have hb1 : Below w.heap.size w W1 := by rw [← hW1]; exact bel_al (Below.refl _ _) _
  have ho1 : Blk W1 w.heap.size 104 #[.slice none 0 0] := by rw [← hW1]; exact Blk.new w _ _
  have hs1 : W1.heap.size = w.heap.size + 1 := by rw [← hW1]; simp
  rw [hW1]
  clear hW1
  have HO1 := Lib.hid (show Outs w.heap.size w.heap.size W1.heap.size W1 (.slice none 0 0) [] from ⟨[], rfl, by simpa [mps] using World.ownsRow_nil _ _ _ _, List.nodup_nil, (fun b hb => by cases hb), (fun i b r hb hr => by cases hb), ho1⟩)
  have HB1 := Lib.hid hb1
  have HS1 := Lib.hid hs1
  obtain ⟨R, n, c, bs, hc⟩ := HOd.out
  obtain ⟨R', n', c', bs', hc'⟩ := HOd'.out
  obtain rfl : n = N := hc.2.1.symm.trans HL.out.1
  obtain rfl : n' = n := hc'.2.1.symm.trans HL.out.2
  have HC := Lib.hid hc
  have HC' := Lib.hid hc'
  have HCe := Lib.hid (show ∀ V, Below w.heap.size w V → V.cell? ⟨p, 0, none⟩ = some (.slice R n' c) ∧ V.cell? ⟨p', 0, none⟩ = some (.slice R' n' c') from fun V hb => by
    have d0 := (hc.1.keep hb).cell 0
    have d1 := (hc'.1.keep hb).cell 0
    simp at d0 d1
    exact ⟨d0, d1⟩)
  obtain ⟨d0, d1⟩ := HCe.out W1 hb1
  clear hb1 ho1 hs1 hc hc' HOd HOd' hne
  go_wp2_with fail
  clear d0 d1
  go_loopw [35] (fun iv wr => ∃ (i : Nat) (v : Value) (rs : List Rw), i ≤ n' ∧ iv = .int .i64 (i : Int) ∧ Hid (rs = (mergeO od od').take i) ∧ Hid (Outs w.heap.size w.heap.size wr.heap.size wr v rs) ∧ Hid (Below w.heap.size w wr)) (fun iv _ => n' - (intOf iv).toNat)
  case atStart => exact ⟨0, _, [], Nat.zero_le _, rfl, Lib.hid rfl, HO1, HB1⟩
  case round =>
    clear HO1 HB1 HS1
    obtain ⟨i, v, rs, hi, rfl, HRs, HO, HB⟩ := hrel
    by_cases hin : i < n'
    · have hin' : (i : Int) < (n' : Int) := by omega
      have hi0 : (0 : Int) ≤ (i : Int) := by omega
      obtain ⟨b, hb⟩ : ∃ b, bs[i]? = some b := ⟨_, List.getElem?_eq_getElem (by rw [HC.out.2.2.1]; exact hin)⟩
      obtain ⟨b', hb'⟩ : ∃ b', bs'[i]? = some b' := ⟨_, List.getElem?_eq_getElem (by rw [HC'.out.2.2.1]; exact hin)⟩
      obtain ⟨r, hr⟩ : ∃ r, od[i]? = some r := ⟨_, List.getElem?_eq_getElem (by rw [HL.out.1]; exact hin)⟩
      obtain ⟨r', hr'⟩ : ∃ r', od'[i]? = some r' := ⟨_, List.getElem?_eq_getElem (by rw [HL.out.2]; exact hin)⟩
      obtain ⟨g, off, rfl, _⟩ := HC.out.2.2.2.2.1.at_ (show 0 < n' by omega)
      obtain ⟨g', off', rfl, _⟩ := HC'.out.2.2.2.2.1.at_ (show 0 < n' by omega)
      have HCe2 := Lib.hid (show ∀ V, Below w.heap.size w V → V.cell? ⟨g, off + i, none⟩ = some (.map (some b)) ∧ V.cell? ⟨g', off' + i, none⟩ = some (.map (some b')) from fun V hV => ⟨(HC.out.2.2.2.2.1.keep hV).again hin (by rw [List.getElem?_map, hb]; rfl), (HC'.out.2.2.2.2.1.keep hV).again hin (by rw [List.getElem?_map, hb']; rfl)⟩)
      have HRow := Lib.hid (HC.out.2.2.2.2.2.2 i b r hb hr)
      have HRow' := Lib.hid (HC'.out.2.2.2.2.2.2 i b' r' hb' hr')
      have HEr := Lib.hid (show (mergeO od od').take (i + 1) = (mergeO od od').take i ++ [foldR (r ++ r')] from by
        have hlt : i < (mergeO od od').length := by rw [mergeO_len, HL.out.1]; exact hin
        have e1 : od.getD i [] = r := by rw [List.getD_eq_getElem?_getD, hr]; rfl
        have e2 : od'.getD i [] = r' := by rw [List.getD_eq_getElem?_getD, hr']; rfl
        rw [List.take_succ_eq_append_getElem hlt, mergeO_at, e1, e2])
      have HRb := Lib.hid (show RwB K r ∧ RwB K r' ∧ (∀ q ∈ r, i64ok q.1) ∧ (∀ q ∈ r', i64ok q.1) from ⟨HBd.out.2.1 r (List.mem_of_getElem? hr), HBd.out.2.2.1 r' (List.mem_of_getElem? hr'), fun q hq => (HBd.out.2.2.2.1 r (List.mem_of_getElem? hr) q hq).1.ok, fun q hq => (HBd.out.2.2.2.2 r' (List.mem_of_getElem? hr') q hq).1.ok⟩)
      clear hb hb' hr hr'
      go_upto_region 10 with (fail)
      obtain ⟨W2, hW2⟩ : ∃ W2, wr.alloc (.map #[] 0) = W2 := ⟨_, rfl⟩
      have hb2 : Below wr.heap.size wr W2 := by rw [← hW2]; exact bel_al (Below.refl _ _) _
      have hm2 : MRowT W2 wr.heap.size [] := by rw [← hW2]; exact MRowT.made wr
      have hs2 : W2.heap.size = wr.heap.size + 1 := by rw [← hW2]; simp
      rw [hW2]
      clear hW2
      have HB2 := Lib.hid (HB.out.andThen hb2)
      have HO2 := Lib.hid (HO.out.keep hb2)
      have HM2 := Lib.hid hm2
      have HS2 := Lib.hid hs2
      have HWr := Lib.hid HB.out.size
      obtain ⟨M, hM⟩ : ∃ M, M = wr.heap.size := ⟨_, rfl⟩
      rw [← hM] at HM2 HO2 HS2 HWr ⊢
      clear hM hb2 hm2 hs2 HB HO
      have e0 := HCe.out W2 HB2.out
      have e1 := HCe2.out W2 HB2.out
      obtain ⟨e00, e01⟩ := e0
      obtain ⟨e10, e11⟩ := e1
      go_region_held3 (fun V => V.cell? ⟨p, 0, none⟩ = some (.slice (some ⟨g, off, none⟩) n' c) ∧ V.cell? ⟨p', 0, none⟩ = some (.slice (some ⟨g', off', none⟩) n' c') ∧ V.cell? ⟨g, off + i, none⟩ = some (.map (some b)) ∧ V.cell? ⟨g', off' + i, none⟩ = some (.map (some b'))) (go_keep) (fail)
      obtain ⟨W3, hW3⟩ : ∃ W3, (W2.alloc (.cells #[.map (some b), .map (some b')] 101)).drew = W3 := ⟨_, rfl⟩
      have hb3 : Below W2.heap.size W2 W3 := by rw [← hW3]; exact bel_drewN (bel_al (Below.refl _ _) _) 1
      have hk3 : Blk W3 W2.heap.size 101 #[.map (some b), .map (some b')] := by rw [← hW3]; exact (Blk.new W2 _ _).drew
      rw [hW3]
      clear hW3 e00 e01 e10 e11
      have HB3 := Lib.hid (HB2.out.andThen hb3)
      have HO3 := Lib.hid (HO2.out.keep hb3)
      have HM3 := Lib.hid (show MRowT W3 M (foldR []) from HM2.out.keep hb3)
      have HK3 := Lib.hid hk3
      obtain ⟨S, hS⟩ : ∃ S, S = W2.heap.size := ⟨_, rfl⟩
      rw [← hS] at HK3 ⊢
      have HSM := Lib.hid (show S = M + 1 from by rw [hS, HS2.out])
      clear hb3 hk3 hS HB2 HO2 HM2
      go_wp2_with fail
      go_loopw [55] (fun kv wx => ∃ (k : Nat) (d : Rw), k ≤ 2 ∧ kv = .int .i64 (k : Int) ∧ Hid (d.Perm (acc2 r r' k)) ∧ Hid (MRowT wx M (foldR d)) ∧ Hid (Outs w.heap.size w.heap.size M wx v rs) ∧ Hid (Below w.heap.size w wx) ∧ Hid (Blk wx S 101 #[.map (some b), .map (some b')])) (fun kv _ => 2 - (intOf kv).toNat)
      case atStart => exact ⟨0, [], Nat.zero_le _, rfl, Lib.hid (List.Perm.refl _), HM3, HO3, HB3, HK3⟩
      case round =>
        clear HM3 HO3 HB3 HK3
        obtain ⟨k, d, hk, rfl, HD, HM, HO, HB, HK⟩ := hrel
        by_cases hk2 : k < 2
        · have hk2' : (k : Int) < 2 := by omega
          have hk0 : (0 : Int) ≤ (k : Int) := by omega
          obtain ⟨bk, rk, ck, HRk, HAc, HRB⟩ : ∃ (bk : Nat) (rk : Rw), wr.cell? ⟨S, k, none⟩ = some (.map (some bk)) ∧ Hid (MRow w bk rk) ∧ Hid (acc2 r r' (k + 1) = acc2 r r' k ++ rk) ∧ Hid (RwB K rk ∧ ∀ q ∈ rk, i64ok q.1) := by
            rcases (show k = 0 ∨ k = 1 by omega) with rfl | rfl
            · exact ⟨b, r, by have := HK.out.cell 0; simpa using this, HRow, Lib.hid (by simp [acc2]), Lib.hid ⟨HRb.out.1, HRb.out.2.2.1⟩⟩
            · exact ⟨b', r', by have := HK.out.cell 1; simpa using this, HRow', Lib.hid (by simp [acc2]), Lib.hid ⟨HRb.out.2.1, HRb.out.2.2.2⟩⟩
          have HRw := Lib.hid (HRk.out.keep HB.out)
          have HDl := Lib.hid (show d.length ≤ 2 * K ∧ ∀ q ∈ d, q.2.length ≤ K from by
            have h1 := HD.out.length_eq
            have h2 := HRb.out.1
            have h3 := HRb.out.2.1
            have hacc : (acc2 r r' k).length ≤ 2 * K ∧ ∀ q ∈ acc2 r r' k, q.2.length ≤ K := by
              have h4 := h2.1
              have h5 := h3.1
              unfold acc2
              split
              · exact ⟨Nat.zero_le _, fun q hq => by cases hq⟩
              · split
                · exact ⟨by omega, h2.2⟩
                · exact ⟨by rw [List.length_append]; omega, fun q hq => (List.mem_append.1 hq).elim (h2.2 q) (h3.2 q)⟩
            exact ⟨by omega, fun q hq => hacc.2 q (HD.out.mem_iff.1 hq)⟩)
          have HDk := Lib.hid (show d.length ≤ k * K from by
            have h1 : d.length = (acc2 r r' k).length := HD.out.length_eq
            have h4 := HRb.out.1.1
            rcases (show k = 0 ∨ k = 1 by omega) with rfl | rfl
            · rw [h1]
              exact Nat.zero_le _
            · have h6 : (acc2 r r' 1).length = r.length := rfl
              omega)
          go_wp2_with (at_range; refine wpList_rangeR _ rfl _ rfl bk rk rfl HRw.out ?_; intro w2 hrg hb2 hs2; have HRg := Lib.hid hrg; have HB2 := Lib.hid hb2; clear hrg hb2 hs2)
          obtain ⟨it, hit⟩ : ∃ it, it = wr.heap.size := ⟨_, rfl⟩
          have HIt := Lib.hid (show M < it ∧ S < it ∧ w.heap.size ≤ M ∧ bk < w.heap.size from ⟨by rw [hit]; exact HM.out.row.lt, by rw [hit]; exact HK.out.lt, HWr.out, HRk.out.lt⟩)
          have HM2 := Lib.hid (HM.out.keep HB2.out)
          have HO2 := Lib.hid (HO.out.keep HB2.out)
          have HK2 := Lib.hid (HK.out.keep HB2.out)
          have HB22 := Lib.hid (HB.out.andThen HB2.out)
          rw [← hit] at HRg ⊢
          clear hit HB2 HRw ck HM HO HK HB
          go_wp2_with fail
          go_frame
          go_loopw [] (fun wx => ∃ done : Rw, Hid (RangesR wx bk it rk done) ∧ Hid (MRowT wx M (foldR (d ++ done))) ∧ Hid (Outs w.heap.size w.heap.size M wx v rs) ∧ Hid (Below w.heap.size w wx) ∧ Hid (Blk wx S 101 #[.map (some b), .map (some b')])) (fun wx => wx.rangeLeft bk it)
          case atStart => exact ⟨[], HRg, by rw [List.append_nil]; exact HM2, HO2, HB22, HK2⟩
          case round =>
            clear HRg HM2 HO2 HB22 HK2
            obtain ⟨done, HRg, HM, HO, HB, HK⟩ := hrel
            go_wp2_with (at_next; refine wpList_nextR _ rfl _ rfl bk it _ done rfl HRg.out ?_ ?_)
            · intro hperm
              have HPm := Lib.hid hperm
              clear hperm
              go_wp2_with fail
              go_roundw
              case rel => exact ⟨k + 1, d ++ done, by omega, by go_num, Lib.hid (by rw [HAc.out]; exact HD.out.append HPm.out), HM, HO, HB, HK⟩
              case measure => simp [intOf]; omega
            · intro y A c9 l w3 hyl hyk hrow3 hrg3 hlt3 hg3 hnc3 hsz3 hen3
              have hsi := HIt.out
              have HDn := Lib.hid (done_leR HRg.out)
              have hsub : ∀ q ∈ d ++ done, q.2.length ≤ K := fun q hq => (List.mem_append.1 hq).elim (HDl.out.2 q) fun h => HRB.out.1.2 q (HRg.out.sub q h)
              have hfb := foldR_B (k := K) (d ++ done) hsub
              have hdl : (d ++ done).length ≤ 200 := by
                have h1 := HDk.out
                have h2 := HDn.out
                have h3 := HRB.out.1.1
                have h4 := HBd.out.1
                have h5 : k * K ≤ 1 * 100 := Nat.mul_le_mul (by omega) h4
                rw [List.length_append]
                omega
              have hfl : (d ++ done).length * (K + 1) ≤ 200 * 101 := Nat.mul_le_mul hdl (by have := HBd.out.1; omega)
              have HM3 := Lib.hid (HM.out.other hnc3 hg3 (by omega))
              have HO3 := Lib.hid (HO.out.turned hnc3 hg3 (by omega))
              have HK3 := Lib.hid (HK.out.turned hnc3 hg3)
              have HB3 := Lib.hid (bel_turn HB.out hg3 (by omega) HB.out.size)
              have hll : l.length ≤ K := HRB.out.1.2 (y, l) hyl
              have HPt := Lib.hid (put_anyT M (foldR (d ++ done)) y A l.length c9 l w3 HM3.out (by have := hfb.1; omega) (fun q hq => by have := hfb.2 q hq; omega) (HRB.out.2 (y, l) hyl) hrow3 rfl (by have := HBd.out.1; omega))
              have HRg3 := Lib.hid hrg3
              have HLt3 := Lib.hid hlt3
              have HIt3 := Lib.hid hsi
              clear hsi hsub hfb hdl hfl hll hyl hyk hrow3 hrg3 hlt3 hg3 hnc3 hsz3 HM HO HB HK HRg HDn
              go_wp2_with (go_at_call 56; refine HPt.out.mono ?_; clear HPt; rintro e w4 ⟨rfl, hm4, hg4⟩; have HM4 := Lib.hid hm4; have HG4 := Lib.hid hg4; clear hm4 hg4)
              have hncM := HM3.out.row.isMap
              have hsi := HIt3.out
              go_roundw
              case rel => exact ⟨done ++ [(y, l)], Lib.hid (HRg3.out.other hncM HG4.out (by omega) (by omega)), Lib.hid (by rw [← List.append_assoc, foldR_snoc]; exact HM4.out), Lib.hid (HO3.out.turned hncM HG4.out (Nat.le_refl _)), Lib.hid (bel_turn HB3.out HG4.out (by omega) HB3.out.size), Lib.hid (HK3.out.turned hncM HG4.out)⟩
              case measure =>
                have h1 : w4.rangeLeft bk it = w3.rangeLeft bk it := by
                  have e1 := HG4.out.block bk HRg3.out.row.lt (fun e => by cases e; omega)
                  have e2 := HG4.out.block it HRg3.out.lti (fun e => by cases e; omega)
                  unfold World.rangeLeft
                  rw [e1, e2]
                rw [h1]
                exact HLt3.out
        · obtain rfl : k = 2 := by omega
          have HF := Lib.hid (show foldR d = foldR (r ++ r') from foldR_perm HD.out)
          obtain ⟨bs0, q1, q2, q3, q4, q5, q6⟩ := HO.out
          have hlr : rs.length ≤ 8 := by
            have h1 := congrArg List.length HRs.out
            rw [List.length_take] at h1
            omega
          obtain ⟨kr, hkr⟩ : ∃ kr, kr = rs.length := ⟨_, rfl⟩
          rw [← hkr] at q2 hlr
          obtain ⟨A0, c0, rfl, _⟩ := Sl.own q2
          have cv := q6.cell 0
          simp at cv
          have HOw := Lib.hid q2
          have HBo := Lib.hid q6
          have HKr := Lib.hid hkr
          have HQs := Lib.hid (And.intro q1 (And.intro q3 (And.intro q4 q5)))
          clear q1 q2 q3 q4 q5 q6 hkr
          have hsz := HB.out.size
          have HSz := Lib.hid hsz
          clear hsz
          go_wp2_with (at_builtin; refine wpList_cat_at elemRow _ _ rfl rfl (HOw.out.alloc _) (by have := HSz.out; simp; omega) (Sl.newAt wr _ _ 1 rfl) rfl rfl (by simp [Value.oneCell']) (by unfold lim; omega) (by unfold lim; omega) ?_; intro v6 w6 hown6 hgr6; obtain ⟨g6, c6, rfl, _⟩ := own_form hown6 (by omega); have HO6 := Lib.hid hown6; have HG6 := Lib.hid hgr6; have fb := ((HBo.out.alloc (.cells #[.map (some M)] 101)).others (HOw.out.alloc (.cells #[.map (some M)] 101)) hgr6.g (by decide)).frozen 0; have cb := ((HBo.out.alloc (.cells #[.map (some M)] 101)).others (HOw.out.alloc (.cells #[.map (some M)] 101)) hgr6.g (by decide)).cell 0; simp at cb; clear hown6 hgr6)
          have hsz6 : wr.heap.size ≤ w6.heap.size := by have := HG6.out.g.size; simp at this; omega
          have hMl := HM.out.row.lt
          have hPu := Outs.push (row := foldR d) HQs.out.1 (by rw [← HKr.out]; exact HOw.out) HQs.out.2.1 HQs.out.2.2.1 HQs.out.2.2.2 HBo.out HM.out (Nat.le_refl _) (by rw [← HKr.out]; exact HO6.out) HG6.out
          rw [HF.out] at hPu
          refine ⟨⟨i + 1, _, rs ++ [foldR (r ++ r')], by omega, by go_num, Lib.hid (by rw [HEr.out, HRs.out]), Lib.hid (hPu.mono (by simp; omega)), Lib.hid ?_⟩, by simp [intOf]; omega⟩
          have h1 : Below w.heap.size wr w6 := HG6.out.after_alloc.below (by have := HB.out.size; omega) (fun k hk => (HOw.out.lt k hk).1)
          exact HB.out.trans (Below.setCell h1 (p := ⟨w.heap.size, 0, none⟩) (Nat.le_refl _) _)
    · obtain rfl : i = n' := by omega
      have hin' : ¬ (i : Int) < (i : Int) := by omega
      go_wp2_with fail
      go_ret2
      obtain ⟨bs0, q1, q2, q3, q4, q5, q6⟩ := HO.out
      obtain ⟨A0, c0, rfl, hsl⟩ := Sl.own q2
      have hrs : rs = mergeO od od' := by rw [HRs.out, List.take_of_length_le (by rw [mergeO_len, HL.out.1]; exact Nat.le_refl _)]
      refine ⟨_, rfl, ⟨A0, rs.length, c0, bs0, q6, by rw [hrs], q1, (own_cap q2).1, hsl, q3, fun i b r hb hr => ?_⟩, HB.out⟩
      rw [← hrs] at hr
      exact (q5 i b r hb hr).row
end Go.Proofs.YtmonepclhbappaaDoor
/-
  Odags plainly: one list more: what is there stays, in its order; costs.
-/
namespace Go.Proofs.YtmonepclhbappaaDoor
open Go.RowKit
set_option linter.unusedVariables false

/-- A sum over rising numbers, over more of them. -/
theorem inc_sum : ∀ {l l' : List Int} {f g : Int → Nat}, Inc l → Inc l' → (∀ x ∈ l, x ∈ l') → (∀ x ∈ l, f x ≤ g x) → (l.map f).sum ≤ (l'.map g).sum
  | [], l', f, g, _, _, _, _ => by simp
  | a :: l, [], f, g, _, _, h, _ => by cases h a (List.mem_cons_self ..)
  | a :: l, b :: l', f, g, h1, h2, h, hf => by
    have h1' := List.pairwise_cons.1 h1
    have h2' := List.pairwise_cons.1 h2
    by_cases e : a = b
    · subst e
      have := inc_sum (f := f) (g := g) h1'.2 h2'.2 (fun x hx => by
        rcases List.mem_cons.1 (h x (List.mem_cons_of_mem _ hx)) with e | h3
        · subst e
          exact absurd (h1'.1 x hx) (Int.lt_irrefl _)
        · exact h3) fun x hx => hf x (List.mem_cons_of_mem _ hx)
      have h4 := hf a (List.mem_cons_self ..)
      simp only [List.map_cons, List.sum_cons]
      omega
    · have hal : a ∈ l' := by
        rcases List.mem_cons.1 (h a (List.mem_cons_self ..)) with e' | h3
        · exact absurd e' e
        · exact h3
      have hba := h2'.1 a hal
      have := inc_sum (f := f) (g := g) h1 h2'.2 (fun x hx => by
        rcases List.mem_cons.1 (h x hx) with e' | h3
        · subst e'
          rcases List.mem_cons.1 hx with e' | hx
          · exact absurd e'.symm e
          · have := h1'.1 x hx
            omega
        · exact h3) hf
      simp only [List.map_cons, List.sum_cons] at this ⊢
      omega
theorem sum_one (l : List Int) : (l.map fun _ => 1).sum = l.length := by
  induction l with
  | nil => rfl
  | cons a l ih => rw [List.map_cons, List.sum_cons, ih, List.length_cons]; omega
theorem inc_len {l l' : List Int} (h1 : Inc l) (h2 : Inc l') (h : ∀ x ∈ l, x ∈ l') : l.length ≤ l'.length := by
  have := inc_sum (f := fun _ => 1) (g := fun _ => 1) h1 h2 h fun x hx => Nat.le_refl _
  rwa [sum_one, sum_one] at this
theorem costR_keys {r : Rw} (h : IncR r) : costR r = ((r.map (·.1)).map fun a => 1 + (lkR r a).length).sum := by
  unfold costR
  rw [List.map_map]
  congr 1
  refine List.map_congr_left fun q hq => ?_
  simp only [Function.comp]
  rw [h.lk hq]
theorem linkedB_mono {ls ls' : List (List Int)} (hs : ∀ x ∈ ls, x ∈ ls') {i : Nat} {a b : Int} (h : linkedB ls i a b = true) : linkedB ls' i a b = true := by
  unfold linkedB at h ⊢
  obtain ⟨x, hx, e⟩ := List.any_eq_true.1 h
  exact List.any_eq_true.2 ⟨x, hs x hx, e⟩
theorem col_mono {ls ls' : List (List Int)} (hs : ∀ x ∈ ls, x ∈ ls') {i : Nat} {a : Int} (h : a ∈ col ls i) : a ∈ col ls' i := by
  unfold col at h ⊢
  rw [setL_mem] at h ⊢
  obtain ⟨x, hx, e⟩ := List.mem_map.1 h
  exact List.mem_map.2 ⟨x, hs x hx, e⟩
theorem lnks_mono {ls ls' : List (List Int)} (hs : ∀ x ∈ ls, x ∈ ls') {i : Nat} {a b : Int} (h : b ∈ lnks ls i a) : b ∈ lnks ls' i a := lnks_mem.2 (linkedB_mono hs (lnks_mem.1 h))
theorem costO_mono {n : Nat} {ls ls' : List (List Int)} (h : ∀ x ∈ ls, x.length = n) (h' : ∀ x ∈ ls', x.length = n) (hs : ∀ x ∈ ls, x ∈ ls') : costO (odOf n ls) ≤ costO (odOf n ls') := by
  have key : ∀ i, i ≤ n → costO ((odOf n ls).take i) ≤ costO ((odOf n ls').take i) := fun i => by
    induction i with
    | zero => intro _; simp [costO]
    | succ i ih =>
      intro hi
      rw [costO_take (by rw [odOf_len]; exact hi), costO_take (by rw [odOf_len]; exact hi)]
      have h1 := ih (by omega)
      obtain ⟨g1, g2, g3⟩ := odOf_row n i hi ls h
      obtain ⟨k1, k2, k3⟩ := odOf_row n i hi ls' h'
      have h2 : costR ((odOf n ls).getD i []) ≤ costR ((odOf n ls').getD i []) := by
        rw [costR_keys g1, costR_keys k1, keys_col hi h, keys_col hi h']
        refine inc_sum (setL_inc _) (setL_inc _) (fun x hx => col_mono hs hx) fun x hx => ?_
        rw [g3, k3]
        have := inc_len (setL_inc _) (setL_inc _) fun b (hb : b ∈ lnks ls i x) => lnks_mono hs hb
        unfold lnks at this ⊢
        omega
      omega
  have := key n (Nat.le_refl _)
  rwa [List.take_of_length_le (by rw [odOf_len]; exact Nat.le_refl _), List.take_of_length_le (by rw [odOf_len]; exact Nat.le_refl _)] at this
theorem odOf_mem {n : Nat} {ls ls' : List (List Int)} (h : ∀ x ∈ ls, x.length = n) (h' : ∀ x ∈ ls', x.length = n) (hs : ∀ x, x ∈ ls ↔ x ∈ ls') : odOf n ls = odOf n ls' :=
  odOf_ext h h' (fun i _ a => ⟨col_mono fun x hx => (hs x).1 hx, col_mono fun x hx => (hs x).2 hx⟩) fun i _ a b => ⟨lnks_mono fun x hx => (hs x).1 hx, lnks_mono fun x hx => (hs x).2 hx⟩
/-- One list alone. -/
theorem one_paths {n : Nat} {x : List Int} (h1 : 1 ≤ n) (hx : x.length = n) : allP (odOf n [x]) = [x] := by
  have hm := ls_path (ls := [x]) h1 (fun y hy => by rw [List.mem_singleton.1 hy]; exact hx) (List.mem_singleton_self x)
  have hl := allP_pow (od := odOf n [x]) (K := 1) (odOf_B n [x]) (by rw [odOf_len]; exact h1)
  rw [Nat.one_pow] at hl
  match hA : allP (odOf n [x]), hm, hl with
  | [y], hm, _ => rw [List.mem_singleton.1 hm]
  | y :: z :: r, _, hl => simp at hl
theorem one_cost {n : Nat} {x : List Int} (h1 : 1 ≤ n) (h4 : n ≤ 4) (hx : x.length = n) : costO (odOf n [x]) + 1 = 2 * n := by
  subst hx
  match x, h1, h4 with
  | [a], _, _ => rfl
  | [a, b], _, _ => rfl
  | [a, b, c], _, _ => rfl
  | [a, b, c, d], _, _ => rfl
theorem nextD_mono {ls ls' : List (List Int)} (hs : ∀ x ∈ ls, x ∈ ls') {p : List Int} {a : Int} (h : a ∈ nextD ls p) : a ∈ nextD ls' p := by
  unfold nextD at h ⊢
  split at h
  · rename_i e
    rw [if_pos e]
    exact col_mono hs h
  · rename_i e
    rw [if_neg e]
    obtain ⟨g1, g2⟩ := List.mem_filter.1 h
    exact List.mem_filter.2 ⟨col_mono hs g1, linkedB_mono hs g2⟩
/-- No path is taken away. -/
theorem paths_mono {n : Nat} {ls ls' : List (List Int)} (h1 : 1 ≤ n) (h : ∀ x ∈ ls, x.length = n) (h' : ∀ x ∈ ls', x.length = n) (hs : ∀ x ∈ ls, x ∈ ls') {p : List Int} (hp : p ∈ allP (odOf n ls)) : p ∈ allP (odOf n ls') := by
  have hpl : p.length = n := by rw [allP_el (by rw [odOf_len]; exact h1) hp, odOf_len]
  have key : ∀ i, i ≤ n → p.take i ∈ prefs (odOf n ls') i := by
    intro i
    induction i with
    | zero => intro _; rw [List.take_zero]; exact List.mem_singleton_self _
    | succ i ih =>
      intro hi
      have hlt : i < p.length := by omega
      refine (prefs_next (a := p[i]) (List.getElem?_eq_getElem hlt)).2 ⟨ih (by omega), ?_⟩
      have hti : (p.take i).length = i := by rw [List.length_take]; omega
      have h2 := path_link (by rw [odOf_len]; exact h1) hp (List.getElem?_eq_getElem hlt)
      rw [nextD_eq h (by omega)] at h2
      rw [nextD_eq h' (by omega)]
      exact nextD_mono hs h2
  have := key n (Nat.le_refl _)
  rw [List.take_of_length_le (by omega)] at this
  have h2 := prefs_end (od := odOf n ls') (by rw [odOf_len]; exact h1)
  rw [odOf_len] at h2
  rwa [h2] at this
/-- Where a walk along the paths of more stands when so many have come. -/
def atK (G G0 : List (List Int)) : Nat → Nat
  | 0 => 0
  | k + 1 => G.findIdx (fun y => decide (y = G0.getD k [])) + 1
theorem atK_ok {G G0 : List (List Int)} (hG : G.Pairwise fun p q => cmpL p q = -1) (hG0 : G0.Pairwise fun p q => cmpL p q = -1) (hs : ∀ p ∈ G0, p ∈ G) {k : Nat} {y : List Int} (hy : G0[k]? = some y) :
    atK G G0 k < atK G G0 (k + 1) ∧ atK G G0 (k + 1) ≤ G.length ∧ G[atK G G0 (k + 1) - 1]? = some y ∧ ∀ j, j + 1 < atK G G0 (k + 1) → ∀ z, G[j]? = some z → z ≠ y := by
  have pos : ∀ {k : Nat} {y : List Int}, G0[k]? = some y → ∃ J, atK G G0 (k + 1) = J + 1 ∧ G[J]? = some y := fun {k y} hy => by
    have hyG := hs y (List.mem_of_getElem? hy)
    have e : G0.getD k [] = y := by rw [List.getD_eq_getElem?_getD, hy]; rfl
    have hlt : G.findIdx (fun z => decide (z = G0.getD k [])) < G.length := List.findIdx_lt_length_of_exists ⟨y, hyG, by rw [e]; exact decide_eq_true rfl⟩
    refine ⟨_, rfl, ?_⟩
    rw [List.getElem?_eq_getElem hlt]
    have := List.findIdx_getElem (w := hlt)
    exact congrArg some ((of_decide_eq_true this).trans e)
  have lt : ∀ {i j : Nat} {x z : List Int}, G[i]? = some x → G[j]? = some z → i < j → cmpL x z = -1 := fun {i j x z} hx hz hij => by
    obtain ⟨b1, e1⟩ := List.getElem?_eq_some_iff.1 hx
    obtain ⟨b2, e2⟩ := List.getElem?_eq_some_iff.1 hz
    have := List.pairwise_iff_getElem.1 hG i j b1 b2 hij
    rwa [e1, e2] at this
  obtain ⟨J, hJ, hGJ⟩ := pos hy
  have hJl := (List.getElem?_eq_some_iff.1 hGJ).1
  rw [hJ]
  refine ⟨?_, hJl, hGJ, fun j hj z hz e => ?_⟩
  · rcases k with _ | k
    · exact Nat.succ_pos _
    · have hk := (List.getElem?_eq_some_iff.1 hy).1
      obtain ⟨x, hx⟩ : ∃ x, G0[k]? = some x := ⟨_, List.getElem?_eq_getElem (by omega)⟩
      obtain ⟨I, hI, hGI⟩ := pos hx
      rw [hI]
      have hxy : cmpL x y = -1 := by
        obtain ⟨b1, e1⟩ := List.getElem?_eq_some_iff.1 hx
        obtain ⟨b2, e2⟩ := List.getElem?_eq_some_iff.1 hy
        have := List.pairwise_iff_getElem.1 hG0 k (k + 1) b1 b2 (by omega)
        rwa [e1, e2] at this
      rcases Nat.lt_or_ge I J with h | h
      · omega
      · exfalso
        rcases Nat.lt_or_ge J I with h2 | h2
        · have h3 := lt hGJ hGI h2
          rw [cmpL_neg x y, hxy] at h3
          cases h3
        · obtain rfl : I = J := by omega
          rw [hGI] at hGJ
          cases hGJ
          rw [cmpL_zero.2 rfl] at hxy
          cases hxy
  · subst e
    have h3 := lt hz hGJ (by omega)
    rw [cmpL_zero.2 rfl] at h3
    cases h3
end Go.Proofs.YtmonepclhbappaaDoor
