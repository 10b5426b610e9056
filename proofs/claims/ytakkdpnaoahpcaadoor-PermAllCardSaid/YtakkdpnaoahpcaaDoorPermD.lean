/-
  slices.Delete out of the library's shelf, laid over this seat's translation; contract of perm.Of.
-/
import Derived.Test.YtakkdpnaoahpcaaDoorPermC
import Derived.Ground.Names2Prog
import Derived.Shelf.Slices.Delete
import Derived.Shelf.Slices.Cells
import Derived.Shelf.Slices.Empties
namespace Go.Proofs.YtakkdpnaoahpcaaDoor
open Go.RowKit Go.Shelf
set_option maxRecDepth 100000

def del_ren : Go.Shelf.Ren := ⟨fun | 23 => 18 | n => n, fun | 22 => 23 | 3 => 3 | 4 => 4 | 0 => 0 | n => n, fun | n => n⟩
theorem del_lays : Go.Proofs.Lays2.n23 Tryd.prog del_ren := {
  mixed := by kernel_rfl
  f23 := Tryd.func18.trans (congrArg some (by kernel_rfl))
  t0 := Tryd.underlying0
  a0 := Tryd.isAgg0
  z0 := Tryd.sizeOf0
  v0 := Tryd.zeroValue0
  t3 := Tryd.underlying3
  a3 := Tryd.isAgg3
  z3 := Tryd.sizeOf3
  v3 := Tryd.zeroValue3
  t4 := Tryd.underlying4
  a4 := Tryd.isAgg4
  z4 := Tryd.sizeOf4
  v4 := Tryd.zeroValue4
  t22 := Tryd.underlying23
  a22 := Tryd.isAgg23
  z22 := Tryd.sizeOf23
  v22 := Tryd.zeroValue23
  i3 := by kernel_rfl }

/-- What is left: a block of the call's own, read and cut. -/
def Lft (w : World) (b c : Nat) (zs : List Int) : Prop := zs.length ≤ c ∧ c ≤ 9223372036854775807 ∧ ∀ j, j < zs.length → w.cell? ⟨b, j, none⟩ = some (.int .i64 (zs.getD j 0)) ∧ w.frozen? ⟨b, j, none⟩ = false
theorem Lft.keep {w w' : World} {b c : Nat} {zs : List Int} (h : Lft w b c zs) (hb : w'.heap[b]? = w.heap[b]?) : Lft w' b c zs :=
  ⟨h.1, h.2.1, fun j hj => ⟨(World.cell?_of_block (a := ⟨b, j, none⟩) hb).trans (h.2.2 j hj).1, (World.frozen?_of_block (a := ⟨b, j, none⟩) hb).trans (h.2.2 j hj).2⟩⟩
theorem Lft.of_own {w : World} {B e : Nat} {n c b : Nat} {zs : List Int} (h : w.ownsRow B e 1 (.slice (some ⟨b, 0, none⟩) n c) n (zs.map (Value.int .i64))) : Lft w b c zs := by
  have hl : zs.length = n := by have := h.1; simpa using this
  have hcn : n ≤ c ∧ c ≤ maxLen := by
    rcases h.2 with ⟨h', _⟩ | ⟨g', cap', cur, h', _, _, h1, h2, _⟩
    · cases h'
    · injection h' with _ _ h3
      subst h3
      exact ⟨h1, h2⟩
  refine ⟨by omega, hcn.2, fun j hj => ⟨?_, h.frozenAt j⟩⟩
  rw [h.cellAt j (by omega), List.getElem?_map, List.getElem?_eq_getElem hj, List.getD_eq_getElem?_getD, List.getElem?_eq_getElem hj]
  rfl

theorem Delete_at (b c i : Nat) (zs : List Int) (w : World) (h : Lft w b c zs) (hi : i < zs.length) :
    Calls Tryd.prog 18 #[.slice (some ⟨b, 0, none⟩) zs.length c, .int .i64 i, .int .i64 ((i : Int) + 1)] w fun e w' => e = .returned (.slice (some ⟨b, 0, none⟩) (zs.eraseIdx i).length c) ∧ ∃ q vs, w' = (w.drewN q).setCells b 0 vs ∧ Lft w' b c (zs.eraseIdx i) := by
  refine (Go.Proofs.Any.slices_Delete_int_cells del_lays b 0 zs.length c i (i + 1) zs w (Nat.le_refl _) h.1 h.2.1 (by omega) (by omega) (fun j hj => by rw [Nat.zero_add]; exact (h.2.2 j hj).1) (fun j hj => by rw [Nat.zero_add]; exact (h.2.2 j hj).2)).mono ?_
  rintro e w' ⟨rfl, q, hw⟩
  have hel : (zs.eraseIdx i).length = zs.length - 1 := by rw [List.length_eraseIdx, if_pos hi]
  refine ⟨?_, q, _, hw, by rw [hel]; have := h.1; omega, h.2.1, fun j hj => ?_⟩
  · rw [hel, show zs.length - (i + 1 - i) = zs.length - 1 by omega]
  · have hm : zs.take zs.length = zs := List.take_length
    rw [hm] at hw
    have hlen : ((zs.take i ++ zs.drop (i + 1) ++ List.replicate (i + 1 - i) 0).map (Value.int .i64)).length = zs.length := by simp; omega
    have hin := World.cell?_setCells_in b ((zs.take i ++ zs.drop (i + 1) ++ List.replicate (i + 1 - i) 0).map (Value.int .i64)) 0 (w.drewN q) (fun j' hj' => by
      rw [Nat.zero_add]
      have := (h.2.2 j' (by omega)).1
      exact (congrArg Option.isSome this).trans rfl) j (by omega)
    rw [Nat.zero_add] at hin
    rw [hw, World.frozen?_setCells]
    refine ⟨hin.trans ?_, (h.2.2 j (by omega)).2⟩
    rw [hel] at hj
    rw [List.eraseIdx_eq_take_drop_succ, List.getD_eq_getElem?_getD, List.getElem_map]
    congr 2
    have hj2 : j < (zs.take i ++ zs.drop (i + 1)).length := by simp; omega
    rw [List.getElem_append_left hj2, List.getElem?_eq_getElem hj2]
    rfl

set_option maxHeartbeats 2000000 in
theorem Of_ok (n r : Nat) (w : World) (hn : n ≤ 8) (hr : r < fac n) :
    Calls Tryd.prog 7 #[.int .i64 n, .int .i64 r] w fun e w' => ∃ C k, e = .returned (.tuple #[.slice C n k, .nilIface]) ∧ Sl w' 1 C n ((ofR n r (ids n)).map (Value.int .i64)) ∧ Below w.heap.size w w' := by
  have hT := times_any n w hn
  have hfl := fac_le hn
  have HT := Lib.hid hT
  have HR := Lib.hid hr
  clear hT
  go_enter Tryd.func7, Tryd.ntmps7
  go_wp2_with fail
  refine HT.out.mono ?_
  rintro e w1 ⟨rfl, rfl⟩
  clear HT
  go_wp2_with fail
  refine (Id_any n w hn).mono ?_
  rintro e w2 ⟨v, rfl, hown, hb2⟩
  have hleft : ∀ j, 0 < j → j = n → ∃ b c, v = .slice (some ⟨b, 0, none⟩) j c ∧ Lft w2 b c (ids n) ∧ w.heap.size ≤ b ∧ b < w2.heap.size := by
    rintro j hj rfl
    rcases hown.2 with ⟨_, h0⟩ | ⟨g, cap, cur, hv, hg, _⟩
    · omega
    · rw [hv] at hown
      exact ⟨g, cap, hv, Lft.of_own hown, hg, (hown.lt g rfl).2⟩
  have HB2 := Lib.hid hb2
  have HL := Lib.hid hleft
  clear hown hleft
  generalize hB : w2.heap.size = B at *
  have HBB := Lib.hid hB
  clear hB hfl
  go_wp2_with fail
  go_loopw [1, 6, 7, 8] (fun rv pv lv kv wr => ∃ (j r' : Nat) (pre lf : List Int), j ≤ n ∧ lf.length = j ∧ pre.length + j = n ∧ r' < fac j ∧ Hid (pre ++ ofR j r' lf = ofR n r (ids n)) ∧ rv = .int .i64 r' ∧ kv = .int .i64 ((j : Int) - 1) ∧ wr.ownsRow B 3 1 pv pre.length (pre.map (Value.int .i64)) ∧ B ≤ wr.heap.size ∧ (0 < j → ∃ b c, lv = .slice (some ⟨b, 0, none⟩) j c ∧ Lft wr b c lf ∧ w.heap.size ≤ b ∧ b < B) ∧ Below w.heap.size w wr) (fun _ _ _ kv _ => (intOf kv + 1).toNat)
  case atStart => exact ⟨n, r, [], ids n, Nat.le_refl _, ids_len n, by simp, HR.out, rfl, rfl, rfl, World.ownsRow_nil _ _ _ _, Nat.le_of_eq HBB.out.symm, fun h => HL.out n h rfl, HB2.out⟩
  case round =>
    obtain ⟨j, r', pre, lf, hjn, hlf, hpre, hr', HE, rfl, rfl, hown, hBw, hlv, hb⟩ := hrel
    rcases j with _ | m
    · have HE' := Lib.hid (show pre = ofR n r (ids n) by have := HE.out; rw [ofR, List.append_nil] at this; exact this)
      have hp : pre.length = n := by omega
      rw [hp] at hown
      obtain ⟨C, c3, rfl, hsl⟩ := Sl.own hown
      have HX := Lib.hid hsl
      rw [show (((0 : Nat) : Int) - 1) = -1 from rfl]
      clear hown hsl hlv
      go_wp2_with fail
      go_ret2
      exact ⟨_, _, rfl, by rw [← HE'.out]; exact HX.out, hb⟩
    · obtain ⟨b, c, rfl, hL, hb1, hb2'⟩ := hlv (by omega)
      rw [show (((m + 1 : Nat) : Int) - 1) = (m : Int) from by omega]
      have HT := Lib.hid (fun W => times_any m W (by omega))
      have hF := fac_pos m
      have hF2 := fac_le (n := m) (by omega)
      have hat : r' / fac m < lf.length := by rw [hlf]; exact Nat.div_lt_of_lt_mul (by rw [Nat.mul_comm]; exact hr')
      have hat2 : r' ≤ 40320 := by
        have := fac_le (n := m + 1) (by omega)
        omega
      have HO := Lib.hid (show ofR (m + 1) r' lf = lf.getD (r' / fac m) 0 :: ofR m (r' % fac m) (lf.eraseIdx (r' / fac m)) from rfl)
      have HM := Lib.hid (Nat.mod_lt r' hF)
      have HFm := Lib.hid (show fac m = fac m from rfl)
      generalize hFF : fac m = F at HT hF hF2 hat HO HM HFm
      have hq : ((r' : Int) / (F : Int)) = ((r' / F : Nat) : Int) := rfl
      have hm' : ((r' : Int) % (F : Int)) = ((r' % F : Nat) : Int) := rfl
      have HFF := Lib.hid hFF
      clear hFF
      have hle : r' / F ≤ r' := Nat.div_le_self _ _
      generalize hA : r' / F = at_ at hq hat hle HO
      generalize hC : r' % F = rr at hm' HO HM
      have HLc := Lib.hid (hL.2.2 at_ hat)
      have hel : (lf.eraseIdx at_).length = m := by rw [List.length_eraseIdx, if_pos hat, hlf]; rfl
      have HLd := Lib.hid (fun W (hL' : Lft W b c lf) => (by have h := Delete_at b c at_ lf W hL' hat; rw [hlf, hel] at h; exact h : Calls Tryd.prog 18 #[.slice (some ⟨b, 0, none⟩) (m + 1) c, .int .i64 at_, .int .i64 ((at_ : Int) + 1)] W fun e w' => e = .returned (.slice (some ⟨b, 0, none⟩) m c) ∧ ∃ q vs, w' = (W.drewN q).setCells b 0 vs ∧ Lft w' b c (lf.eraseIdx at_)))
      have HL := Lib.hid hL
      have HAt := Lib.hid hat
      clear hr' hL
      go_wp2_with fail
      refine (HT.out wr).mono ?_
      rintro e w3 ⟨rfl, rfl⟩
      go_wp2_with fail
      refine (HT.out wr).mono ?_
      rintro e w3 ⟨rfl, rfl⟩
      have hc0 := HLc.out.1
      go_wp2_with (at_builtin; refine wpList_push elemInt (w0 := wr) _ _ rfl rfl hown (Below.refl _ _) hBw rfl rfl rfl (by simp [Value.oneCell']) (by unfold lim; omega) (by unfold lim; omega) ?_; intro v' w5 hown1 hb5)
      have HL5 := HL.out.keep (hb5.block b hb2')
      refine (HLd.out w5 HL5).mono ?_
      rintro e w6 ⟨rfl, q, vs, rfl, hL6⟩
      have HL6 := Lib.hid hL6
      clear hL6 HL5
      go_wp2_with fail
      go_roundw
      case rel =>
        refine ⟨m, rr, pre ++ [lf.getD at_ 0], lf.eraseIdx at_, by omega, hel, by simp; omega, by rw [HFF.out]; exact HM.out, ?_, rfl, rfl, ?_, ?_, fun _ => ⟨b, c, rfl, HL6.out, hb1, hb2'⟩, ?_⟩
        · show _ = _
          rw [← HE.out, HO.out, List.append_assoc]
          rfl
        · rw [List.length_append, List.map_append]
          exact ownsRow_setCells_below hb2' _ _ hown1
        · exact Nat.le_trans hBw (bel_setCells (w := wr) hb1 vs 0 (bel_drewN (hb5.mono (by omega)) q)).size
        · exact bel_setCells hb1 vs 0 (bel_drewN (hb.trans (hb5.mono (by omega))) q)
      case measure => simp [intOf]
end Go.Proofs.YtakkdpnaoahpcaaDoor
