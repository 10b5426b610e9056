/-
  Odags: the contract of Links; no odag at all.
-/
import Derived.Test.YtmonepclhbappaaDoorOdK
import Derived.Test.YtmonepclhbappaaDoorListS
namespace Go.Proofs.YtmonepclhbappaaDoor
open Go.RowKit Go.Maps
set_option maxRecDepth 100000
set_option linter.unusedVariables false

set_option maxHeartbeats 4000000 in
theorem OdLinks_any (p : Nat) (od : List Rw) (i a : Int) (w : World) (h : OdM w p od) (hB : OdB 1000000 od) (h8 : od.length ≤ 100) (ha : -9223372036854775808 ≤ a ∧ a ≤ 9223372036854775807) : Calls Tryd.prog 68 #[.pointer (some ⟨p, 0, none⟩), .int .i64 i, .int .i64 a] w fun e w' => ∃ v, e = .returned v ∧ w'.ownsRow w.heap.size 3 1 v (linksAt od i a).length ((linksAt od i a).map (Value.int .i64)) ∧ Below w.heap.size w w' := by
  have HLn := Lib.hid (OdLen_any p od w h)
  by_cases hi0 : i < 0
  · have HE := Lib.hid (show linksAt od i a = [] from if_neg (by omega))
    rw [HE.out]
    clear h hB
    go_enter Tryd.func68, Tryd.ntmps68
    go_wp2_with fail
    go_ret
    exact ⟨_, rfl, World.ownsRow_nil _ _ _ _, Below.refl _ _⟩
  · by_cases hin : i < (od.length : Int)
    · obtain ⟨k, rfl⟩ : ∃ k : Nat, i = (k : Int) := ⟨i.toNat, by omega⟩
      have hk : k < od.length := by omega
      obtain ⟨rb, ro, n, c, b, hn, c0, hnc, c1, hrow⟩ := h.row hk
      have hE : linksAt od (k : Int) a = lkR (od.getD k []) a := if_pos (by omega)
      have hrB := hB _ (show od.getD k [] ∈ od by rw [List.getD_eq_getElem?_getD, List.getElem?_eq_getElem hk]; exact List.getElem_mem hk)
      rw [hE]
      have HLB := Lib.hid (lkR_B hrB a)
      have HRow := Lib.hid hrow
      have HA := Lib.hid ha
      rw [← hn] at HLn
      have hkn : (k : Int) < (n : Int) := by omega
      have hkn' : ¬ (n : Int) ≤ (k : Int) := by omega
      clear h hB hrow hE hrB hn hin hi0 hk ha
      go_enter Tryd.func68, Tryd.ntmps68
      go_wp2_with (first
        | (go_at_call 52; refine HLn.out.mono ?_; rintro e w' ⟨rfl, rfl⟩)
        | (go_at_call 76; refine HCl.out.mono ?_; rintro e w2 ⟨v, rfl, hown, hb⟩; have HO := Lib.hid hown; have HB := Lib.hid hb; clear hown hb)
        | (refine wpList_lookR _ rfl _ _ rfl b _ (by go_simp) HRow.out a (by go_simp) HA.out.1 HA.out.2 ?_; intro A c' l hrl hl; have HCl := Lib.hid (CloneI_own l A l.length c' _ rfl (by rw [hl]; exact Nat.le_trans HLB.out (by decide)) hrl.1); have HL := Lib.hid hl; clear hrl hl))
      go_ret
      rw [← HL.out]
      exact ⟨_, rfl, HO.out, HB.out⟩
    · have HE := Lib.hid (show linksAt od i a = [] from if_neg (by omega))
      rw [HE.out]
      obtain ⟨n, hn⟩ : ∃ n, n = od.length := ⟨_, rfl⟩
      rw [← hn] at HLn hin
      have hin' : (n : Int) ≤ i := by omega
      clear h hB hn hin
      go_enter Tryd.func68, Tryd.ntmps68
      go_wp2_with (go_at_call 52; refine HLn.out.mono ?_; rintro e w' ⟨rfl, rfl⟩)
      go_ret
      exact ⟨_, rfl, World.ownsRow_nil _ _ _ _, Below.refl _ _⟩
end Go.Proofs.YtmonepclhbappaaDoor
