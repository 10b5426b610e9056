/-
  Ranks: Each, where there is nothing to tell.
-/
import Derived.Deep.RegionHeld3
import Derived.RangeFuncFrom
import Derived.Test.YtmonepclhbappaaDoorRankO
import Derived.Test.YtmonepclhbappaaDoorRangeQ
namespace Go.Proofs.YtmonepclhbappaaDoor
open Go.RowKit Go.Maps
set_option maxRecDepth 100000
set_option linter.unusedVariables false

theorem Each_any (o : Option Addr) (f t : Int) (w : World) : Calls Tryd.prog 32 #[.pointer o, .agg #[.int .i64 f, .int .i64 t]] w fun e w' =>
    e = .returned (.func (.func 71) #[] #[.pointer (some ⟨w.heap.size + 1, 0, none⟩), .pointer (some ⟨w.heap.size, 0, none⟩)]) ∧ w' = (w.alloc (.cells #[.pointer o] 57)).alloc (.cells #[.int .i64 f, .int .i64 t] 63) := by
  go_enter Tryd.func32, Tryd.ntmps32
  go_wp2_with fail
  go_ret
  exact ⟨rfl, rfl⟩

set_option maxHeartbeats 4000000 in
theorem Each1_none (y : Value) (Bp Br q p : Nat) (od : List Rw) (f t : Int) (w : World) (hp : Blk w Bp 63 #[.int .i64 f, .int .i64 t]) (hr : Blk w Br 57 #[.pointer (some ⟨q, 0, none⟩)]) (hk : RkM w q p od) (hft : min t (totP od) ≤ max f 0) :
    Calls Tryd.prog 71 #[y, .pointer (some ⟨Bp, 0, none⟩), .pointer (some ⟨Br, 0, none⟩)] w fun e w' => (∃ v, e = .returned v) ∧ w.grownBy w' none := by
  have c0 := hp.cell 0
  have c1 := hp.cell 1
  have c2 := hr.cell 0
  simp at c0 c1 c2
  have HK := Lib.hid hk
  have hft' : ¬ max f 0 < min t (totP od) := by omega
  clear hp hr hk hft
  go_enter Tryd.func71, Tryd.ntmps71
  go_wp2_with fail
  go_region_held3 (fun w' => w'.cell? ⟨Bp, 0, none⟩ = some (.int .i64 f) ∧ w'.cell? ⟨Bp, 1, none⟩ = some (.int .i64 t) ∧ w'.cell? ⟨Br, 0, none⟩ = some (.pointer (some ⟨q, 0, none⟩))) (go_keep)
    ((go_at_call 34; refine (RkTotal_any q p od _ (HK.out.keep (bel_drewN (Below.refl _ _) 1))).mono ?_; rintro e' w3 ⟨rfl, rfl⟩))
  have hg : w.grownBy (w.drewN 1) none := gb_below (bel_drewN (Below.refl w.heap.size w) 1) none
  have d0 : (w.drewN 1).cell? ⟨Bp, 0, none⟩ = some (.int .i64 f) := c0
  have HG := Lib.hid hg
  clear hg c0 c1 c2 HK
  obtain ⟨w1, hw1⟩ : ∃ w1, w1 = w.drewN 1 := ⟨_, rfl⟩
  rw [← hw1] at HG d0 ⊢
  clear hw1
  go_wp2_with fail
  go_loop [5] (fun iv => iv = .int .i64 (max f 0)) (fun iv => 0)
  case atStart => rfl
  case round =>
    subst hrel
    go_wp2_with fail
    go_end0
    exact ⟨⟨_, rfl⟩, HG.out⟩
abbrev RowE := Option Addr × Nat × List Int
theorem each_none (k : Nat) (Bp Br q p : Nat) (od : List Rw) (f t : Int) (w : World) (hp : Blk w Bp 63 #[.int .i64 f, .int .i64 t]) (hr : Blk w Br 57 #[.pointer (some ⟨q, 0, none⟩)]) (hk : RkM w q p od) (hft : min t (totP od) ≤ max f 0) :
    GivesKnown Fence.wide k Tryd.prog 71 #[.pointer (some ⟨Bp, 0, none⟩), .pointer (some ⟨Br, 0, none⟩)] (fun x : RowE => #[rv x]) (fun _ _ _ => False) (fun _ _ _ => True) (fun xs => xs = []) (fun _ => False) 0 w := by
  intro l J Jx W hW hJ hJx hY h0
  refine (callsIn_wide.2 (Each1_none (.func (.yield l) #[] #[]) Bp Br q p od f t W (hp.keep hW) (hr.keep hW) (hk.keep hW) hft)).mono fun e W' ⟨hv, hg⟩ => ⟨hv, .inl ⟨[], rfl, hJ _ _ _ none h0 hg (fun r e => by cases e)⟩⟩
end Go.Proofs.YtmonepclhbappaaDoor
