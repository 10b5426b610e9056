/-
  Part 17 of the proof of LoadMore: LdB, Chain3, Chain4, WordsOf, LdC.
-/
import Derived.Test.YtbbmgcdocolakaaGreatDoorLoadMoreM8
import Derived.Test.YtbbmgcdocolakaaGreatDoorLoadMoreM4
import Derived.Test.YtbbmgcdocolakaaGreatDoorLoadMoreM16
import Derived.Test.YtbbmgcdocolakaaGreatDoorLoadMoreM6
import Derived.BigQuiet
import Derived.Deep.QuietTactic
import Derived.Test.YtbbmgcdocolakaaGreatDoorLoadMoreM7
import Derived.Test.YtbbmgcdocolakaaGreatDoorLoadMoreM12
set_option linter.unusedVariables false
/-
  load's reader: one line.
-/
namespace Go.Proofs.YtbbmgcdocolakaaGreatDoor
open Go.RowKit Go.Proofs.YtbbmgcdocolakaaGreatDoor.Pg
attribute [local go_sem ↓] Go.wp_at_zero Go.wp_at_succ
set_option maxRecDepth 100000
set_option linter.unusedVariables false

/-- A reader: labels and edges so far. -/
def RdAt (w : World) (g B : Nat) (L : List Int) (E : List (Int × Int)) : Prop :=
  ∃ lv ev, Blk w g 66 #[lv, ev] ∧ w.ownsRow B 3 1 lv L.length (L.map (Value.int .i64)) ∧ w.ownsRow B 76 2 ev E.length (Rk.cells E)
theorem RdAt.keep {w w' : World} {g B : Nat} {L : List Int} {E : List (Int × Int)} (h : RdAt w g B L E) (hb : Below w.heap.size w w') : RdAt w' g B L E := by
  obtain ⟨lv, ev, h1, h2, h3⟩ := h
  exact ⟨lv, ev, h1.keep hb, own_block h2 fun b hb' => hb.block b (h2.lt b hb').2, own_block h3 fun b hb' => hb.block b (h3.lt b hb').2⟩
theorem own_otherL {w w' : World} {v v' : Value} (hgr : Gr w w' v v') {B B' size size' n n' : Nat} {e e' : TypeId} {u : Value} {xs xs' : List Value} (hv : w.ownsRow B e size v n xs) (hu : w.ownsRow B' e' size' u n' xs') (hne : e ≠ e') : w'.ownsRow B' e' size' u n' xs' :=
  own_block hu fun g hg => hgr.g.block g (hu.lt g hg).2 fun h => own_ne hv hu hne h.symm hg rfl
theorem strs3 {w : World} {b : Nat} {x y z : List UInt8} (h : Sl w 1 (some ⟨b, 0, none⟩) 3 ([x, y, z].map fun x => Value.string (bz x))) : w.cell? ⟨b, 0, none⟩ = some (.string (bz x)) ∧ w.cell? ⟨b, 1, none⟩ = some (.string (bz y)) ∧ w.cell? ⟨b, 2, none⟩ = some (.string (bz z)) := by
  have h0 := h.again (k := 0) (by omega) rfl
  have h1 := h.again (k := 1) (by omega) rfl
  have h2 := h.again (k := 2) (by omega) rfl
  simp only [Nat.zero_add] at h0 h1 h2
  exact ⟨h0, h1, h2⟩
theorem split1_len (c : UInt8) : ∀ (s : List UInt8), ∀ x ∈ Tx.split1 c s, x.length ≤ s.length
  | [], x, h => by
    obtain rfl := List.mem_singleton.1 h
    exact Nat.le_refl _
  | b :: l, x, h => by
    have ih := split1_len c l
    unfold Tx.split1 at h
    split at h
    · rcases List.mem_cons.1 h with rfl | h
      · exact Nat.zero_le _
      · exact Nat.le_trans (ih x h) (Nat.le_succ _)
    · split at h
      · obtain rfl := List.mem_singleton.1 h
        simp
      · rename_i y r hy
        rw [hy] at ih
        rcases List.mem_cons.1 h with rfl | h
        · have := ih y (List.mem_cons_self ..)
          rw [List.length_cons, List.length_cons]
          omega
        · exact Nat.le_trans (ih x (List.mem_cons_of_mem _ h)) (Nat.le_succ _)
/-- What line answers. -/
def LineRes (L : List Int) (E : List (Int × Int)) (s : List UInt8) (g B : Nat) (w : World) (e : Ending) (w' : World) : Prop :=
  Below g w w' ∧ match Ld.lineL L E s with
    | some r => e = .returned (.bool true) ∧ RdAt w' g B r.1 r.2
    | none => e = .returned (.bool false) ∧ RdAt w' g B L E

set_option maxHeartbeats 4000000 in
theorem line_any (L : List Int) (E : List (Int × Int)) (s : List UInt8) (S : ByteArray) (g B : Nat) (w : World) (hS : S = bz s) (hz : s.length ≤ 1000000) (hR : RdAt w g B L E) (hg : g < B) (hB : B ≤ w.heap.size) (hl9 : L.length ≤ 1000000) (he9 : E.length ≤ 1000000) (hL : LibW w) :
    Calls Tryz.prog 31 #[.pointer (some ⟨g, 0, none⟩), .string S] w (LineRes L E s g B w) := by
  subst hS
  have HSp := Lib.hid (Split_any s 32 w hz hL)
  have HR := Lib.hid hR
  have hgw : g ≤ w.heap.size := by omega
  clear hR hL
  obtain ⟨ps, hps⟩ : ∃ p, p = Tx.split1 32 s := ⟨_, rfl⟩
  have HPs := Lib.hid hps
  rw [← hps] at HSp
  have HLn := Lib.hid (show ∀ x ∈ ps, x.length ≤ 1000000 from fun x hx => by
    rw [hps] at hx
    exact Nat.le_trans (split1_len 32 s x hx) hz)
  clear hps
  by_cases h3 : ps.length = 3
  case neg =>
    have HN := Lib.hid (show Ld.lineL L E s = none from by
      unfold Ld.lineL
      rw [← HPs.out]
      split
      · exact absurd rfl h3
      · rfl)
    have h3' : ¬ ((ps.length : Nat) : Int) = 3 := by omega
    have h3b : (((ps.length : Nat) : Int) == 3) = false := by simpa using h3'
    clear h3
    go_enter Tryz.func31, Tryz.ntmps31
    go_wp2_with (go_at_call 64; refine HSp.out.mono ?_; clear HSp; rintro e w1 ⟨rfl, _, hb1⟩; have HB1 := Lib.hid hb1; clear hb1)
    go_ret
    refine ⟨HB1.out.mono hgw, ?_⟩
    rw [HN.out]
    exact ⟨rfl, HR.out.keep HB1.out⟩
  obtain ⟨kx, x, y, rfl⟩ : ∃ a b c, ps = [a, b, c] := by
    match ps, h3 with
    | [a, b, c], _ => exact ⟨a, b, c, rfl⟩
  have HNx := Lib.hid (fun W => number_any x (bz x) W rfl (HLn.out x (by simp)))
  have HNy := Lib.hid (fun W => number_any y (bz y) W rfl (HLn.out y (by simp)))
  have HLq := Lib.hid (show Ld.lineL L E s = match Ld.numL x, Ld.numL y with
      | some a, some b => if kx = [118] then (if a = L.length ∧ E = [] then some (L ++ [(b : Int)], E) else none) else if kx = [101] then some (L, E ++ [((a : Int), (b : Int))]) else none
      | _, _ => none from by
    unfold Ld.lineL
    rw [← HPs.out]
    try rfl)
  have he1 : ((bz kx).toList == [118]) = decide (kx = [118]) := bz_beqL kx [118]
  have he2 : ((bz kx).toList == [101]) = decide (kx = [101]) := bz_beqL kx [101]
  clear h3 HLn HPs hz
  go_enter Tryz.func31, Tryz.ntmps31
  go_upto_region 4 with (go_at_call 64; refine HSp.out.mono ?_; clear HSp; rintro e w1 ⟨rfl, hs1, hb1⟩; have HSt := Lib.hid (strs3 hs1); have HB1 := Lib.hid hb1; clear hb1 hs1)
  obtain ⟨c0, c1, c2⟩ := HSt.out
  have HR1 := Lib.hid (HR.out.keep HB1.out)
  have hw1 : w.heap.size ≤ w1.heap.size := HB1.out.size
  clear HSt HR
  obtain ⟨Kb, hKb⟩ : ∃ K, K = bz kx := ⟨_, rfl⟩
  obtain ⟨Xb, hXb⟩ : ∃ K, K = bz x := ⟨_, rfl⟩
  obtain ⟨Yb, hYb⟩ : ∃ K, K = bz y := ⟨_, rfl⟩
  rw [← hKb] at c0 he1 he2
  rw [← hXb] at c1 HNx
  rw [← hYb] at c2 HNy
  clear hKb hXb hYb
  cases hx : Ld.numL x with
  | none =>
    rw [hx] at HNx HLq
    simp only [Option.getD_none, Option.isSome_none] at HNx
    obtain ⟨vy, py, hvy⟩ : ∃ (v : Nat) (p : Bool), v = (Ld.numL y).getD 0 ∧ p = (Ld.numL y).isSome := ⟨_, _, rfl, rfl⟩
    rw [← hvy.1, ← hvy.2] at HNy
    clear hvy hx
    go_upto_region 5 with (go_at_call 65; refine (HNx.out _).mono ?_; clear HNx; rintro e w2 ⟨rfl, rfl⟩)
    go_wp2_with (go_at_call 65; refine (HNy.out _).mono ?_; clear HNy; rintro e w2 ⟨rfl, rfl⟩)
    go_ret
    refine ⟨HB1.out.mono hgw, ?_⟩
    rw [HLq.out]
    exact ⟨rfl, HR1.out⟩
  | some a =>
    rw [hx] at HNx HLq
    simp only [Option.getD_some, Option.isSome_some] at HNx
    clear hx
    cases hy : Ld.numL y with
    | none =>
      rw [hy] at HNy HLq
      simp only [Option.getD_none, Option.isSome_none] at HNy
      clear hy
      go_upto_region 5 with (go_at_call 65; refine (HNx.out _).mono ?_; clear HNx; rintro e w2 ⟨rfl, rfl⟩)
      go_wp2_with (go_at_call 65; refine (HNy.out _).mono ?_; clear HNy; rintro e w2 ⟨rfl, rfl⟩)
      go_ret
      refine ⟨HB1.out.mono hgw, ?_⟩
      rw [HLq.out]
      exact ⟨rfl, HR1.out⟩
    | some b =>
      rw [hy] at HNy HLq
      simp only [Option.getD_some, Option.isSome_some] at HNy
      clear hy
      simp only at HLq
      obtain ⟨lv, ev, hk, hol, hoe⟩ := HR1.out
      obtain ⟨X, xc, rfl, _⟩ := Sl.own hol
      obtain ⟨Y, yc, rfl, _⟩ := Sl.own hoe
      have HK := Lib.hid hk
      have HOl := Lib.hid hol
      have HOe := Lib.hid hoe
      have r0 := hk.cell 0
      have r1 := hk.cell 1
      have f0 := hk.frozen 0
      have f1 := hk.frozen 1
      simp at r0 r1
      clear hk hol hoe
      obtain ⟨n, hn⟩ : ∃ n, n = L.length := ⟨_, rfl⟩
      obtain ⟨m, hm⟩ : ∃ m, m = E.length := ⟨_, rfl⟩
      have HNl := Lib.hid hn
      have HMl := Lib.hid hm
      rw [← hn] at r0 hl9
      rw [← hm] at r1 he9
      rw [← hn, ← hm] at HK
      rw [← hn] at HOl
      rw [← hm] at HOe
      clear hn hm
      go_upto_region 5 with (go_at_call 65; refine (HNx.out _).mono ?_; clear HNx; rintro e w2 ⟨rfl, rfl⟩)
      go_upto_region 6 with (go_at_call 65; refine (HNy.out _).mono ?_; clear HNy; rintro e w2 ⟨rfl, rfl⟩)
      by_cases hv : kx = [118]
      · rw [decide_eq_true hv] at he1
        rw [if_pos hv] at HLq
        clear hv he2
        by_cases ha : a = n
        · subst ha
          by_cases hm0 : m = 0
          · subst hm0
            have HE0 := Lib.hid (show E = [] from List.eq_nil_of_length_eq_zero HMl.out.symm)
            rw [if_pos ⟨HNl.out, HE0.out⟩] at HLq
            have hBw : B ≤ w1.heap.size := Nat.le_trans hB hw1
            have HAl := Lib.hid (bel_al (Below.refl w1.heap.size w1) (.cells #[.int .i64 (b : Int)] 3))
            have HOa := Lib.hid (own_block HOl.out fun c hc => HAl.out.block c (HOl.out.lt c hc).2)
            have HOb := Lib.hid (own_block HOe.out fun c hc => HAl.out.block c (HOe.out.lt c hc).2)
            go_wp2_with (at_builtin; refine wpList_cat_at elemInt _ _ rfl rfl HOa.out (Nat.le_trans hBw HAl.out.size) (Sl.newAt _ [.int .i64 (b : Int)] _ 1 rfl) rfl rfl (by simp [Value.oneCell']) (by unfold lim; omega) (by unfold lim; omega) ?_; intro v6 w6 hown6 hgr; obtain ⟨D6, d6, rfl, _⟩ := Sl.own hown6; have HO6 := Lib.hid hown6; have HE6 := Lib.hid (own_otherL hgr HOa.out HOb.out (by decide)); have HB6 := Lib.hid ((HAl.out.mono hBw).trans (hgr.belowOwn (Nat.le_trans hBw HAl.out.size) HOa.out)); have HK6 := Lib.hid (HK.out.below HB6.out hg); have q0 := HK6.out.cell 0; have g0 := HK6.out.frozen 0; simp at q0; clear hown6 hgr)
            go_ret
            refine ⟨((HB1.out.mono hgw).trans (HB6.out.mono (Nat.le_of_lt hg))).setCell (p := ⟨g, 0, none⟩) (Nat.le_refl _) _, ?_⟩
            rw [HLq.out]
            refine ⟨rfl, .slice D6 (a + 1) d6, .slice Y 0 yc, by have h := HK6.out.set_ 0 (.slice D6 (a + 1) d6); simpa using h, ?_, ?_⟩
            · have h := own_far2 (b := g) (i := 0) HO6.out hg (.slice D6 (a + 1) d6)
              rw [List.length_append, List.length_singleton, ← HNl.out, List.map_append]
              exact h
            · have h := own_far2 (b := g) (i := 0) HE6.out hg (.slice D6 (a + 1) d6)
              rw [HE0.out] at h ⊢
              exact h
          · rw [if_neg (fun h => hm0 (by rw [HMl.out, h.2]; rfl))] at HLq
            have hm1 : (0 : Int) < (m : Int) := by omega
            clear hm0
            go_wp2_with fail
            go_ret
            refine ⟨HB1.out.mono hgw, ?_⟩
            rw [HLq.out]
            exact ⟨rfl, HR1.out⟩
        · rw [if_neg (fun h => ha (by rw [h.1, HNl.out]))] at HLq
          have ha' : ¬ (a : Int) = (n : Int) := by omega
          have ha2 : ((a : Int) == (n : Int)) = false := by simpa using ha'
          clear ha
          go_wp2_with fail
          go_ret
          refine ⟨HB1.out.mono hgw, ?_⟩
          rw [HLq.out]
          exact ⟨rfl, HR1.out⟩
      · rw [decide_eq_false hv] at he1
        rw [if_neg hv] at HLq
        clear hv
        by_cases hv2 : kx = [101]
        · rw [decide_eq_true hv2] at he2
          rw [if_pos hv2] at HLq
          clear hv2
          have hBw : B ≤ w1.heap.size := Nat.le_trans hB hw1
          have HAl := Lib.hid (bel_al (Below.refl w1.heap.size w1) (.cells #[.int .i64 (a : Int), .int .i64 (b : Int)] 76))
          have HOa := Lib.hid (own_block HOe.out fun c hc => HAl.out.block c (HOe.out.lt c hc).2)
          have HOb := Lib.hid (own_block HOl.out fun c hc => HAl.out.block c (HOl.out.lt c hc).2)
          go_wp2_with (at_builtin; refine wpList_cat_at elemEdge _ _ rfl rfl HOa.out (Nat.le_trans hBw HAl.out.size) (Sl.newE _ _ _ _) rfl rfl (by simp [Value.oneCell']) (by unfold lim; omega) (by unfold lim; omega) ?_; intro v6 w6 hown6 hgr; obtain ⟨D6, d6, rfl, _⟩ := Sl.own hown6; have HO6 := Lib.hid hown6; have HE6 := Lib.hid (own_otherL hgr HOa.out HOb.out (by decide)); have HB6 := Lib.hid ((HAl.out.mono hBw).trans (hgr.belowOwn (Nat.le_trans hBw HAl.out.size) HOa.out)); have HK6 := Lib.hid (HK.out.below HB6.out hg); have q1 := HK6.out.cell 1; have g1 := HK6.out.frozen 1; simp at q1; clear hown6 hgr)
          go_ret
          refine ⟨((HB1.out.mono hgw).trans (HB6.out.mono (Nat.le_of_lt hg))).setCell (p := ⟨g, 1, none⟩) (Nat.le_refl _) _, ?_⟩
          rw [HLq.out]
          refine ⟨rfl, .slice X n xc, .slice D6 (m + 1) d6, by have h := HK6.out.set_ 1 (.slice D6 (m + 1) d6); simpa using h, ?_, ?_⟩
          · have h := own_far2 (b := g) (i := 1) HE6.out hg (.slice D6 (m + 1) d6)
            rw [← HNl.out]
            exact h
          · have h := own_far2 (b := g) (i := 1) HO6.out hg (.slice D6 (m + 1) d6)
            rw [List.length_append, List.length_singleton, ← HMl.out, Rk.cells_snoc]
            exact h
        · rw [decide_eq_false hv2] at he2
          rw [if_neg hv2] at HLq
          clear hv2
          go_wp2_with fail
          go_ret
          refine ⟨HB1.out.mono hgw, ?_⟩
          rw [HLq.out]
          exact ⟨rfl, HR1.out⟩
end Go.Proofs.YtbbmgcdocolakaaGreatDoor
/-
  errors.Is at a fault, over chains; fault.In, errors.Unwrap, fault.First, fault.Words.
-/
namespace Go.Proofs.YtbbmgcdocolakaaGreatDoor
open Go.RowKit Go.Extern.Stop Go.Stop Go.Extern
set_option maxRecDepth 100000

/-- Is a fault of the code c of the kind of a target (c2, a2, s2)? -/
def isB (c c2 a2 : Int) (s2 : ByteArray) : Bool := (c2 == c) && (a2 == 0) && s2.toList.isEmpty
def Err.isA (E : Err) (c2 a2 : Int) (s2 : ByteArray) : Bool := match E.flt? with | some (c, _, _) => isB c c2 a2 s2 | none => false

theorem eql_string_empty (s : ByteArray) : (s.toList == []) = s.toList.isEmpty := by cases s.toList <;> rfl

theorem fx_toFault (v : Value) (w : World) : (Instr.typeAssert (.iface 78 v) 34 78 true).run Tryz.prog w = .ok (.tuple #[v, .bool true]) w := by kernel_rfl

theorem fi_compF : (Tryz.prog.info? 78).map (·.comparable) = some true := by kernel_rfl
theorem fi_sizeF : (Tryz.prog.info? 81).map (·.size) = some 3 := by kernel_rfl
theorem fi_noUnwrap (v : Value) (xT : TypeId) (w : World) : (Instr.typeAssert (.iface 78 v) xT 161 true).run Tryz.prog w = .ok (.tuple #[.nilIface, .bool false]) w := run_typeAssert_lacksB Tryz.underlying161 (by kernel_rfl) (by kernel_rfl) v xT w
theorem fi_noUnwraps (v : Value) (xT : TypeId) (w : World) : (Instr.typeAssert (.iface 78 v) xT 186 true).run Tryz.prog w = .ok (.tuple #[.nilIface, .bool false]) w := run_typeAssert_lacksB Tryz.underlying186 (by kernel_rfl) (by kernel_rfl) v xT w
theorem fi_typeOf (v : Value) (w : World) : (ReflectliteType.typeOf #[.iface 78 v]).run Tryz.prog w = .ok (.iface 178 (.agg #[.pointer (some ⟨7, 78, none⟩)])) w := by kernel_rfl
theorem fi_comparable (w : World) : ((ReflectliteType.method fun t => do Rtype.noPackHeld "Comparable" t; (fun a => Value.bool a.comparable) <$> typeInfo t) #[.agg #[.pointer (some ⟨7, 78, none⟩)]]).run Tryz.prog w = .ok (.bool true) w := by kernel_rfl
theorem fi_methodComparable (v : Value) (w : World) : (Go.method 343 178 v "Comparable").run Tryz.prog w = .ok (170, v) w := by kernel_rfl

end Go.Proofs.YtbbmgcdocolakaaGreatDoor
/-
  errors.Is, fault.Is, fault.In, errors.Unwrap, fault.First, fault.Words by contracts.
-/
namespace Go.Proofs.YtbbmgcdocolakaaGreatDoor
open Go.RowKit Go.Extern.Stop Go.Stop Go.Extern
set_option maxRecDepth 100000

/-- A step around an error. -/

def Err.out : Err → Err
  | .step _ e => e
  | _ => .nil
def Err.words : Err → List ByteArray
  | .step w e => w :: e.words
  | _ => []


theorem fu_nil (xT : TypeId) (w : World) : (Instr.typeAssert .nilIface xT 161 true).run Tryz.prog w = .ok (.tuple #[.nilIface, .bool false]) w := by kernel_rfl
theorem Unwrap_any (E : Err) (v : Value) (w0 w : World) (hE : E.At w0 v) (hw : Below w0.heap.size w0 w) :
    Calls Tryz.prog 73 #[v] w fun e w' => ∃ v', e = .returned v' ∧ E.out.At w0 v' ∧ w = w' := by
  have HB := Lib.hid hw
  clear hw
  have n0 := fu_nil
  have uF := fi_noUnwrap
  have uS := fs_hasUnwrap
  have mS := fs_methodUnwrap
  cases E with
  | nil =>
    obtain rfl : v = .nilIface := hE
    go_enter Tryz.func73, Tryz.ntmps73
    go_wp2
    go_ret
    exact ⟨_, rfl, rfl, rfl⟩
  | flt c a s =>
    obtain ⟨g, rfl, hblk⟩ := hE
    clear hblk
    go_enter Tryz.func73, Tryz.ntmps73
    go_wp2
    go_ret
    exact ⟨_, rfl, rfl, rfl⟩
  | txt s =>
    first
      | exact False.elim hE
      | (obtain ⟨g, rfl, hblk⟩ := hE
         have uT := ft_noUnwrap
         clear hblk
         go_enter Tryz.func73, Tryz.ntmps73
         go_wp2
         go_ret
         exact ⟨_, rfl, rfl, rfl⟩)
  | step word e =>
    obtain ⟨g, v', rfl, hblk, hv', hnn⟩ := hE
    have hc1 := (hblk.keep HB.out).cell 1
    simp at hc1
    have HV := Lib.hid hv'
    have HU := Lib.hid (stepUnwrap g v' _ hc1)
    clear hblk hv' hc1 hnn
    go_enter Tryz.func73, Tryz.ntmps73
    go_wp2_with (go_at_call 164; refine HU.out.mono ?_; rintro ev w' ⟨rfl, rfl⟩)
    go_ret
    exact ⟨_, rfl, HV.out, rfl⟩

end Go.Proofs.YtbbmgcdocolakaaGreatDoor
/-
  fault.Words over chains.
-/
namespace Go.Proofs.YtbbmgcdocolakaaGreatDoor
open Go.RowKit Go.Extern.Stop Go.Stop Go.Extern
set_option maxRecDepth 100000

theorem elemStrO : Elem Tryz.prog 47 9 (.string ⟨#[]⟩) 1 16 := ⟨Tryz.underlying47, by kernel_rfl, rfl, by decide⟩
theorem fw_isStep (v : Value) (w : World) : (Instr.typeAssert (.iface 125 v) 34 125 true).run Tryz.prog w = .ok (.tuple #[v, .bool true]) w := by kernel_rfl
theorem fw_isntStepF (v : Value) (w : World) : (Instr.typeAssert (.iface 78 v) 34 125 true).run Tryz.prog w = .ok (.tuple #[.pointer none, .bool false]) w := by kernel_rfl

def Err.size : Err → Nat
  | .nil => 0
  | .step _ e => e.size + 1
  | _ => 1
theorem Err.words_le : ∀ E : Err, E.words.length ≤ E.size
  | .nil => Nat.le_refl _
  | .flt _ _ _ => by simp [Err.words]
  | .txt _ => by simp [Err.words]
  | .step _ e => by have := Err.words_le e; simp only [Err.words, List.length_cons, Err.size]; omega

set_option maxHeartbeats 2000000 in
theorem Words_any (E : Err) (v : Value) (w : World) (hE : E.At w v) (hd : E.size ≤ 4294967296) :
    Calls Tryz.prog 67 #[v] w fun e w' => ∃ A c, e = .returned (.slice A E.words.length c) ∧ w'.ownsRow w.heap.size 9 1 (.slice A E.words.length c) E.words.length (E.words.map Value.string) ∧ Below w.heap.size w w' := by
  have iS := fw_isStep
  have iF := fw_isntStepF
  have HD := Lib.hid hd
  have HL := Lib.hid (Err.words_le E)
  go_enter Tryz.func67, Tryz.ntmps67
  go_wp2
  go_loopg [0, 3] E.size (fun k e l wr => ∃ (E' : Err) (done : List ByteArray), E'.At w e ∧ E'.size = k ∧ Hid (E.words = done ++ E'.words) ∧ wr.ownsRow w.heap.size 9 1 l done.length (done.map Value.string) ∧ Below w.heap.size w wr)
  case atStart => exact ⟨E, [], hE, rfl, rfl, World.ownsRow_nil _ _ _ _, Below.refl _ _⟩
  case round =>
    obtain ⟨E', done, hE', hk, HW, hown, hb⟩ := hrel
    have hlen : done.length ≤ 4294967296 := by have := HD.out; have := HL.out; have := congrArg List.length HW.out; simp only [List.length_append] at this; omega
    have HK := Lib.hid hk
    clear hE hk hd
    have HU := Lib.hid (Unwrap_any E' _ w wr hE' hb)
    have HE := Lib.hid hE'
    cases E' with
    | nil =>
      obtain rfl : _ = Value.nilIface := hE'
      have hw : done = E.words := by have := HW.out; simpa [Err.words] using this.symm
      subst hw
      obtain ⟨A, c, rfl, hsl⟩ := Sl.own hown
      have HS := Lib.hid hown
      clear hown hsl
      go_wp2
      go_ret
      exact ⟨A, c, rfl, HS.out, hb⟩
    | flt c a s =>
      obtain ⟨g, rfl, hblk⟩ := hE'
      clear hblk
      have h2 : Err.nil.At wr .nilIface := rfl
      go_wp2_with (go_at_call 73; refine HU.out.mono ?_; rintro ev w' ⟨v', rfl, hv', rfl⟩)
      obtain rfl : v' = .nilIface := hv'
      go_roundg 0
      case measure => have := HK.out; simp only [Err.size] at this; omega
      case rel => exact ⟨.nil, done, rfl, rfl, by show _ = _; rw [HW.out]; rfl, hown, hb⟩
    | txt s => exact hE'.elim
    | step word e =>
      clear HU
      obtain ⟨g, v', rfl, hblk, hv', hnn⟩ := hE'
      have hc0 := (hblk.keep hb).cell 0
      simp at hc0
      have HV := Lib.hid hv'
      clear hblk hv' hnn
      go_wp2_with (first | (at_builtin; refine wpList_push elemStrO _ _ rfl rfl hown hb (Nat.le_refl _) rfl rfl rfl (by simp [Value.oneCell']) (by unfold lim; omega) (by unfold lim; omega) ?_; intro l' w1 hown1 hb1) | (go_at_call 73; refine (Unwrap_any (.step word e) _ w _ HE.out (by assumption)).mono ?_; rintro ev w' ⟨v2, rfl, hv2, rfl⟩))
      go_roundg e.size
      case measure => have := HK.out; simp only [Err.size] at this; omega
      case rel => exact ⟨e, done ++ [word], hv2, rfl, by show _ = _; rw [HW.out]; simp [Err.words], by simpa using hown1, hb1⟩
end Go.Proofs.YtbbmgcdocolakaaGreatDoor
/-
  load: a line that is wrong; where what a graph tells stands.
-/
namespace Go.Proofs.YtbbmgcdocolakaaGreatDoor
open Go.RowKit Go.Proofs.YtbbmgcdocolakaaGreatDoor.Pg
attribute [local go_sem ↓] Go.wp_at_zero Go.wp_at_succ
set_option maxRecDepth 100000
set_option linter.unusedVariables false

theorem wrong5_any (a : Int) (s : ByteArray) (w : World) : Calls Tryz.prog 32 #[.int .i64 a, .string s] w fun e w' => ∃ v, e = .returned v ∧ (Err.flt 11 a s).At w' v ∧ Below w.heap.size w w' := by
  go_enter Tryz.func32, Tryz.ntmps32
  go_wp2_with (go_at_call 29; refine (New_err _ _ _ _).mono ?_; rintro e w4 ⟨v4, rfl, hv4, hb4⟩; have HV4 := Lib.hid hv4; have HB4 := Lib.hid hb4; clear hv4 hb4)
  go_ret
  exact ⟨v4, rfl, HV4.out, HB4.out⟩
/-- At which line. -/
def placeZ (n : Nat) (E : Err) (c a : Int) : Int := if 0 < E.words.length then n + a else if c = 6 then 0 else a
set_option maxHeartbeats 4000000 in
theorem placed_any (Er : Err) (v : Value) (c a : Int) (s : ByteArray) (g n xc : Nat) (X : Option Addr) (ev : Value) (w : World) (hE : Er.At w v) (hf : Er.flt? = some (c, a, s)) (hd : Er.size ≤ 10) (ha : 0 ≤ a ∧ a ≤ 1000000) (hn : n ≤ 1000000) (hk : Blk w g 66 #[.slice X n xc, ev]) (hg : ErrT w) :
    Calls Tryz.prog 33 #[.pointer (some ⟨g, 0, none⟩), v] w fun e w' => ∃ v', e = .returned v' ∧ (Err.step tGraph (.flt 11 (placeZ n Er c a) s)).At w' v' ∧ Below w.heap.size w w' := by
  obtain ⟨w0, hw0⟩ : ∃ W, W = w.alloc (.cells #[.pointer none] 78) := ⟨_, rfl⟩
  have HB0 := Lib.hid (show Below w.heap.size w w0 from by rw [hw0]; exact bel_al (Below.refl _ _) _)
  have HA := Lib.hid (show Calls Tryz.prog 66 #[v, .iface 117 (.pointer (some ⟨w.heap.size, 0, none⟩))] w0 fun e w' => e = .returned (.bool true) ∧ ∃ q, Below w.heap.size w0 w' ∧ Blk w q 81 #[.int .i64 c, .int .i64 a, .string s] ∧ w'.cell? ⟨w.heap.size, 0, none⟩ = some (.pointer (some ⟨q, 0, none⟩)) from
    (As_done Er v w w0 hE HB0.out ⟨w.heap.size, 0, none⟩ (.pointer none) (hg.keep HB0.out) (by rw [hw0]; simp) (by rw [hw0]; simp)).mono fun e w' ⟨hb1, hp⟩ => by
      rcases hp with ⟨c', a', s', q, h1, h2, h3, h4⟩ | ⟨h1, _⟩
      · rw [hf] at h1
        have h5 := Option.some.inj h1
        have e1 : c = c' := (Prod.mk.inj h5).1
        have h6 := (Prod.mk.inj h5).2
        have e2 : a = a' := (Prod.mk.inj h6).1
        have e3 : s = s' := (Prod.mk.inj h6).2
        subst e1 e2 e3
        exact ⟨h2, q, hb1, h3, h4⟩
      · rw [hf] at h1; cases h1)
  have HE := Lib.hid hE
  have HK := Lib.hid hk
  have HF := Lib.hid hf
  have HD := Lib.hid hd
  clear hE hk hg hf hd
  go_enter Tryz.func33, Tryz.ntmps33
  go_upto_region 2 with (fail)
  rw [← hw0]
  clear hw0
  go_upto_region 4 with (go_at_call 66; refine HA.out.mono ?_; clear HA; rintro e w1 ⟨rfl, q, hb1, h2, h3⟩; have HB1 := Lib.hid (HB0.out.trans hb1); have HQ1 := Lib.hid (h2.keep (HB0.out.trans hb1)); have HT1 := Lib.hid h3; clear hb1 h2 h3)
  have HE1 := Lib.hid (HE.out.keep HB1.out)
  have HK1 := Lib.hid (HK.out.keep HB1.out)
  have HWo := Lib.hid (Words_any Er v w1 HE1.out (by have := HD.out; omega))
  have HAll := Lib.hid (show ∀ W, Below w1.heap.size w1 W → W.cell? ⟨w.heap.size, 0, none⟩ = some (.pointer (some ⟨q, 0, none⟩)) ∧ W.cell? ⟨q, 0, none⟩ = some (.int .i64 c) ∧ W.cell? ⟨q, 1, none⟩ = some (.int .i64 a) ∧ W.cell? ⟨q, 2, none⟩ = some (.string s) ∧ W.cell? ⟨g, 0, none⟩ = some (.slice X n xc) from fun W hW => ⟨(hW.cell (World.block_lt_of_cell? _ _ HT1.out)).trans HT1.out, (HQ1.out.keep hW).cell 0, (HQ1.out.keep hW).cell 1, (HQ1.out.keep hW).cell 2, (HK1.out.keep hW).cell 0⟩)
  have hwl := Err.words_le Er
  have hwl9 : Er.words.length ≤ 10 := by have := HD.out; omega
  obtain ⟨wl, hwl2⟩ : ∃ k, k = Er.words.length := ⟨_, rfl⟩
  have HP := Lib.hid (show placeZ n Er c a = if 0 < wl then (n : Int) + a else if c = 6 then 0 else a from by unfold placeZ; rw [hwl2])
  rw [← hwl2] at HWo hwl9
  clear hwl hwl2 HE HE1 HK HK1 HQ1 HT1 HF HD
  go_upto_region 5 with (fail)
  by_cases h0 : 0 < wl
  · rw [if_pos h0] at HP
    have h0' : (0 : Int) < (wl : Int) := by omega
    go_upto_region 6 with (go_at_call 67; refine HWo.out.mono ?_; clear HWo; rintro e w2 ⟨A2, c2, rfl, _, hb2⟩; have HB2 := Lib.hid hb2; clear hb2)
    obtain ⟨y0, y1, y2, y3, y4⟩ := HAll.out w2 HB2.out
    go_quiet (fail)
    have HB3 := Lib.hid (bel_drewN HB2.out nq)
    clear y0 y1 y2 y3 y4
    obtain ⟨w3, hw3⟩ : ∃ W, W = w2.drewN nq := ⟨_, rfl⟩
    rw [← hw3] at HB3 ⊢
    clear hw3
    obtain ⟨y0, y1, y2, y3, y4⟩ := HAll.out w3 HB3.out
    go_wp2_with (first
      | (go_at_call 39; refine HI.out.mono ?_; clear HI; rintro e w5 ⟨v5, rfl, hv5, hb5⟩; have HV5 := Lib.hid hv5; have HB5 := Lib.hid (HB4.out.andThen hb5); clear hv5 hb5)
      | (go_at_call 32; refine (wrong5_any _ _ _).mono ?_; rintro e w4 ⟨v4, rfl, hv4, hb4⟩; have HI := Lib.hid (In_any tGraph (.flt 11 ((n : Int) + a) s) v4 w4 hv4); have HB4 := Lib.hid (HB3.out.andThen hb4); clear hv4 hb4))
    go_ret
    refine ⟨v5, rfl, ?_, HB1.out.andThen HB5.out⟩
    rw [HP.out]
    have h := HV5.out
    rwa [Err.in_of (by exact fun h => by cases h)] at h
  · rw [if_neg h0] at HP
    have h0' : ¬ (0 : Int) < (wl : Int) := by omega
    by_cases h6 : c = 6
    · rw [if_pos h6] at HP
      subst h6
      go_upto_region 7 with (go_at_call 67; refine HWo.out.mono ?_; clear HWo; rintro e w2 ⟨A2, c2, rfl, _, hb2⟩; have HB2 := Lib.hid hb2; clear hb2)
      obtain ⟨y0, y1, y2, y3, y4⟩ := HAll.out w2 HB2.out
      go_wp2_with (first
        | (go_at_call 39; refine HI.out.mono ?_; clear HI; rintro e w5 ⟨v5, rfl, hv5, hb5⟩; have HV5 := Lib.hid hv5; have HB5 := Lib.hid (HB4.out.andThen hb5); clear hv5 hb5)
        | (go_at_call 32; refine (wrong5_any _ _ _).mono ?_; rintro e w4 ⟨v4, rfl, hv4, hb4⟩; have HI := Lib.hid (In_any tGraph (.flt 11 0 s) v4 w4 hv4); have HB4 := Lib.hid (HB2.out.andThen hb4); clear hv4 hb4))
      go_ret
      refine ⟨v5, rfl, ?_, HB1.out.andThen HB5.out⟩
      rw [HP.out]
      have h := HV5.out
      rwa [Err.in_of (by exact fun h => by cases h)] at h
    · rw [if_neg h6] at HP
      have h6b : (c == 6) = false := by simpa using h6
      go_upto_region 7 with (go_at_call 67; refine HWo.out.mono ?_; clear HWo; rintro e w2 ⟨A2, c2, rfl, _, hb2⟩; have HB2 := Lib.hid hb2; clear hb2)
      obtain ⟨y0, y1, y2, y3, y4⟩ := HAll.out w2 HB2.out
      go_wp2_with (first
        | (go_at_call 39; refine HI.out.mono ?_; clear HI; rintro e w5 ⟨v5, rfl, hv5, hb5⟩; have HV5 := Lib.hid hv5; have HB5 := Lib.hid (HB4.out.andThen hb5); clear hv5 hb5)
        | (go_at_call 32; refine (wrong5_any _ _ _).mono ?_; rintro e w4 ⟨v4, rfl, hv4, hb4⟩; have HI := Lib.hid (In_any tGraph (.flt 11 a s) v4 w4 hv4); have HB4 := Lib.hid (HB2.out.andThen hb4); clear hv4 hb4))
      go_ret
      refine ⟨v5, rfl, ?_, HB1.out.andThen HB5.out⟩
      rw [HP.out]
      have h := HV5.out
      rwa [Err.in_of (by exact fun h => by cases h)] at h
end Go.Proofs.YtbbmgcdocolakaaGreatDoor
