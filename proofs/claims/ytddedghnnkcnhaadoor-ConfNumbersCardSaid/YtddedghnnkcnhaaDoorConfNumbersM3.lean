/-
  Part 3 of the proof of ConfNumbers: PatA0, PatA1, PatB, PatC, PatD, PatE, PatS, PatX, FrameT, FrameV, FrameG, TxtP.
-/
import Derived.Deep.RegionHeld3
import Derived.Deep.DrawnRows
import Derived.Test.YtddedghnnkcnhaaDoorConfNumbersM2
import Derived.Test.YtddedghnnkcnhaaDoorConfNumbersM1
import Derived.Test.YtddedghnnkcnhaaDoorProg
import Derived.Shelf.Strings.Builder1
import Derived.Shelf.Strings.Builder2
import Derived.Shelf.Strings.OnBuilder
import Derived.Shelf.LaysM
import Derived.Shelf.Strconv.Itoa3
import Derived.Ground.Names2Prog
import Derived.Lib.AppendIntMem
import Derived.Lib.ItoaLen
import Derived.Lib.SmallJoins
import Derived.Lib.LaidTab
import Derived.LaidSub
import Derived.Deep.DeepLaidRun
import Derived.Lib.SplitLaws
import Derived.Lib.CutLaws
import Derived.Lib.IndexBytes
import Derived.Lib.Join
import Derived.Lib.ItoaNum
import Derived.Lib.AtoiAll
import Derived.RowKit
/-
  Patterns: walks of turned, within, cmp.Or, order, Degree, far.
-/
namespace Go.Proofs.YtddedghnnkcnhaaDoor
open Go.RowKit
attribute [local go_sem ↓] Go.wp_at_zero Go.wp_at_succ
set_option maxRecDepth 100000
set_option linter.unusedVariables false

theorem elemEdge : Elem Tryd.prog 164 169 (.agg #[.int .i64 0, .int .i64 0]) 2 16 := ⟨Tryd.underlying164, by kernel_rfl, rfl, by decide⟩
/-- An edge as a value. -/
def ev (e : Int × Int) : Value := .agg #[.int .i64 e.1, .int .i64 e.2]
def turnE (e : Int × Int) : Int × Int := if e.1 ≤ e.2 then e else (e.2, e.1)

def orL : List Int → Int
  | [] => 0
  | x :: l => if x = 0 then orL l else x
end Go.Proofs.YtddedghnnkcnhaaDoor
namespace Go.Proofs.YtddedghnnkcnhaaDoor
open Go.RowKit
attribute [local go_sem ↓] Go.wp_at_zero Go.wp_at_succ
set_option maxRecDepth 100000
set_option linter.unusedVariables false
theorem ordE_or (a b : Int × Int) : orL [cmpI a.1 b.1, cmpI a.2 b.2] = Pt.ordE a b := by
  unfold orL orL orL Pt.ordE Pt.or2
  show (if Pt.cmpI a.1 b.1 = 0 then (if Pt.cmpI a.2 b.2 = 0 then 0 else Pt.cmpI a.2 b.2) else Pt.cmpI a.1 b.1) = _
  by_cases h : Pt.cmpI a.1 b.1 = 0
  · rw [if_pos h, if_pos h]
    split <;> omega
  · rw [if_neg h, if_neg h]

theorem cell_drew (W : World) (a : Addr) : W.drew.cell? a = W.cell? a := rfl
theorem cell_new (W : World) (cs : Array Value) (e : TypeId) (i g : Nat) (hg : W.heap.size = g) : (W.alloc (.cells cs e)).cell? ⟨g, i, none⟩ = cs[i]? := by subst hg; exact World.cell?_alloc_new _ _ _ _
/-- An edge of a row that reads as these. -/
theorem Sl.edge {w : World} {A : Option Addr} {n k : Nat} {E : List (Int × Int)} {e : Int × Int} (h : Sl w 2 A n (Rk.cells E)) (hk : k < n) (he : E[k]? = some e) :
    ∃ b off, A = some ⟨b, off, none⟩ ∧ w.cell? ⟨b, off + k * 2, none⟩ = some (.int .i64 e.1) ∧ w.cell? ⟨b, off + k * 2 + 1, none⟩ = some (.int .i64 e.2) := by
  obtain ⟨b, off, rfl, hc⟩ := h.at_ hk
  obtain ⟨u0, e0, c0⟩ := hc 0 (by omega)
  obtain ⟨u1, e1, c1⟩ := hc 1 (by omega)
  obtain ⟨hl, he⟩ := List.getElem?_eq_some_iff.1 he
  obtain ⟨g0, g1⟩ := Rk.cells_at E k hl
  rw [g0, he] at e0
  rw [g1, he] at e1
  obtain rfl := Option.some.inj e0
  obtain rfl := Option.some.inj e1
  exact ⟨b, off, rfl, by simpa using c0, by rw [Nat.add_assoc]; exact c1⟩
theorem Sl.len2 {w : World} {A : Option Addr} {n : Nat} {E : List (Int × Int)} (h : Sl w 2 A n (Rk.cells E)) : E.length = n := by
  have h1 := h.1
  rw [Rk.cells_length] at h1
  omega

end Go.Proofs.YtddedghnnkcnhaaDoor
/-
  Patterns: walks of Compare, Degree, far.
-/
namespace Go.Proofs.YtddedghnnkcnhaaDoor
open Go.RowKit
attribute [local go_sem ↓] Go.wp_at_zero Go.wp_at_succ
set_option maxRecDepth 100000
set_option linter.unusedVariables false

/-- A pattern as a value. -/
abbrev pv (A : Option Addr) (n c : Nat) (B : Option Addr) (m d : Nat) : Value := .agg #[.slice A n c, .slice B m d]
theorem orL_four (x y z u : Int) : orL [x, y, z, u] = Pt.or2 x (Pt.or2 y (Pt.or2 z u)) := by
  unfold orL orL orL orL orL Pt.or2
  by_cases h1 : x = 0
  · rw [if_pos h1, if_pos h1]
    by_cases h2 : y = 0
    · rw [if_pos h2, if_pos h2]
      by_cases h3 : z = 0
      · rw [if_pos h3, if_pos h3]
        by_cases h4 : u = 0
        · rw [if_pos h4, h4]
        · rw [if_neg h4]
      · rw [if_neg h3, if_neg h3]
    · rw [if_neg h2, if_neg h2]
  · rw [if_neg h1, if_neg h1]
theorem cmpL_by : ∀ a b : List Int, cmpL a b = Pt.cmpBy Pt.cmpI a b
  | [], [] => rfl
  | [], _ :: _ => rfl
  | _ :: _, [] => rfl
  | x :: a, y :: b => by
    rw [cmpL, Pt.cmpBy, ← cmpL_by a b]
    unfold Pt.cmpI
    by_cases h : x < y
    · rw [if_pos h, if_pos h, if_neg (by omega)]
    · rw [if_neg h, if_neg h]
      by_cases h2 : y < x
      · rw [if_pos h2, if_pos h2, if_neg (by omega)]
      · rw [if_neg h2, if_neg h2, if_pos rfl]

end Go.Proofs.YtddedghnnkcnhaaDoor
/-
  Patterns: walks of Degree, far, labels, Right.
-/
namespace Go.Proofs.YtddedghnnkcnhaaDoor
open Go.RowKit
attribute [local go_sem ↓] Go.wp_at_zero Go.wp_at_succ
set_option maxRecDepth 100000
set_option linter.unusedVariables false

theorem deg_take {E : List (Int × Int)} {k : Nat} {e : Int × Int} (v : Int) (he : E[k]? = some e) : Pt.deg (E.take (k + 1)) v = Pt.deg (E.take k) v + (if e.1 = v ∨ e.2 = v then 1 else 0) := by
  obtain ⟨h1, h2⟩ := List.getElem?_eq_some_iff.1 he
  unfold Pt.deg
  rw [List.take_succ_eq_append_getElem h1, h2, List.filter_append, List.length_append]
  by_cases h : e.1 = v ∨ e.2 = v
  · rw [if_pos h]
    rcases h with h | h <;> simp [h]
  · rw [if_neg h]
    have h3 : ¬ e.1 = v := fun x => h (.inl x)
    have h4 : ¬ e.2 = v := fun x => h (.inr x)
    simp [h3, h4]
theorem deg_le (E : List (Int × Int)) (v : Int) : Pt.deg E v ≤ E.length := by
  unfold Pt.deg
  exact List.length_filter_le _ _

/-- Labels that may be. -/
def labOK (L : List Int) : Prop := L.length ≤ 8 ∧ ∀ x ∈ L, 0 ≤ x ∧ x ≤ 255
def labC (L : List Int) : Int := if 8 < L.length then 6 else 3
end Go.Proofs.YtddedghnnkcnhaaDoor
/-
  Patterns: the walk of Right.
-/
namespace Go.Proofs.YtddedghnnkcnhaaDoor
open Go.RowKit
attribute [local go_sem ↓] Go.wp_at_zero Go.wp_at_succ
set_option maxRecDepth 100000
set_option linter.unusedVariables false

/-- An edge at its place: it may be, and comes behind the one ahead of it. -/
def atOK (n : Nat) (E : List (Int × Int)) (i : Nat) (e : Int × Int) : Prop := Pt.EdgeOK n e ∧ ∀ f, 0 < i → E[i - 1]? = some f → Pt.ordE f e < 0
def rightP (L : List Int) (E : List (Int × Int)) : Prop := labOK L ∧ ∀ i e, E[i]? = some e → atOK L.length E i e
/-- What Right answers. -/
def RightRes (L : List Int) (E : List (Int × Int)) (w : World) (e : Ending) (w' : World) : Prop :=
  (rightP L E ∧ e = .returned .nilIface ∧ Below w.heap.size w w') ∨ (¬ rightP L E ∧ ∃ c a s v, e = .returned v ∧ (Err.flt c a s).At w' v ∧ Below w.heap.size w w' ∧ 0 < c ∧ (¬ labOK L → c = labC L))

end Go.Proofs.YtddedghnnkcnhaaDoor
/-
  Patterns: walks of the statements' Of and Same.
-/
namespace Go.Proofs.YtddedghnnkcnhaaDoor
open Go.RowKit
attribute [local go_sem ↓] Go.wp_at_zero Go.wp_at_succ
set_option maxRecDepth 100000
set_option linter.unusedVariables false

theorem own_far2 {w : World} {B b i size n : Nat} {e : TypeId} {v : Value} {xs : List Value} (h : w.ownsRow B e size v n xs) (hb : b < B) (u : Value) : (w.setCell ⟨b, i, none⟩ u).ownsRow B e size v n xs :=
  own_block h fun g hg => Below.heap_setCell _ _ _ _ (fun e => by have h1 := (h.lt g hg).1; have h2 : g = b := e; omega)
end Go.Proofs.YtddedghnnkcnhaaDoor
/-
  strconv.Itoa and strings.Join, out of the library's shelf, laid over this seat's translation.
-/
namespace Go.Proofs.YtddedghnnkcnhaaDoor
open Go.Shelf Go.RowKit
set_option linter.unusedVariables false
open Go.RowKit in
open Go.RowKit in
def laysM171_ren : Go.Shelf.Ren := ⟨fun | 171 => 25 | 243 => 41 | 246 => 57 | 283 => 64 | 284 => 65 | 285 => 66 | 286 => 67 | 129 => 72 | 317 => 71 | 318 => 73 | 319 => 74 | 320 => 75 | 337 => 76 | 338 => 77 | n => n, fun | 3 => 3 | 9 => 9 | 2 => 2 | 4 => 4 | 171 => 123 | 0 => 0 | 53 => 116 | 37 => 25 | 5 => 5 | 173 => 126 | 212 => 135 | 51 => 103 | 20 => 20 | 213 => 136 | 46 => 82 | 232 => 143 | 233 => 144 | n => n, fun | 17 => 4 | 18 => 7 | 19 => 8 | n => n⟩
theorem laysM171 : Go.Proofs.LaysM.n171 Tryd.prog laysM171_ren := {
  mixed := by kernel_rfl
  f129 := Tryd.func72.trans (congrArg some (by kernel_rfl))
  f171 := Tryd.func25.trans (congrArg some (by kernel_rfl))
  f243 := Tryd.func41.trans (congrArg some (by kernel_rfl))
  f246 := Tryd.func57.trans (congrArg some (by kernel_rfl))
  f283 := Tryd.func64.trans (congrArg some (by kernel_rfl))
  f284 := Tryd.func65.trans (congrArg some (by kernel_rfl))
  f285 := Tryd.func66.trans (congrArg some (by kernel_rfl))
  f286 := Tryd.func67.trans (congrArg some (by kernel_rfl))
  f317 := Tryd.func71.trans (congrArg some (by kernel_rfl))
  f318 := Tryd.func73.trans (congrArg some (by kernel_rfl))
  f319 := Tryd.func74.trans (congrArg some (by kernel_rfl))
  f320 := Tryd.func75.trans (congrArg some (by kernel_rfl))
  f337 := Tryd.func76.trans (congrArg some (by kernel_rfl))
  f338 := Tryd.func77.trans (congrArg some (by kernel_rfl))
  t0 := Tryd.underlying0
  a0 := Tryd.isAgg0
  z0 := Tryd.sizeOf0
  v0 := Tryd.zeroValue0
  t2 := Tryd.underlying2
  a2 := Tryd.isAgg2
  z2 := Tryd.sizeOf2
  v2 := Tryd.zeroValue2
  t3 := Tryd.underlying3
  a3 := Tryd.isAgg3
  z3 := Tryd.sizeOf3
  v3 := Tryd.zeroValue3
  t4 := Tryd.underlying4
  a4 := Tryd.isAgg4
  z4 := Tryd.sizeOf4
  v4 := Tryd.zeroValue4
  t5 := Tryd.underlying5
  a5 := Tryd.isAgg5
  z5 := Tryd.sizeOf5
  v5 := Tryd.zeroValue5
  t9 := Tryd.underlying9
  a9 := Tryd.isAgg9
  z9 := Tryd.sizeOf9
  v9 := Tryd.zeroValue9
  t20 := Tryd.underlying20
  a20 := Tryd.isAgg20
  z20 := Tryd.sizeOf20
  v20 := Tryd.zeroValue20
  t37 := Tryd.underlying25
  a37 := Tryd.isAgg25
  z37 := Tryd.sizeOf25
  v37 := Tryd.zeroValue25
  t46 := Tryd.underlying82
  a46 := Tryd.isAgg82
  z46 := Tryd.sizeOf82
  v46 := Tryd.zeroValue82
  t51 := Tryd.underlying103
  a51 := Tryd.isAgg103
  z51 := Tryd.sizeOf103
  v51 := Tryd.zeroValue103
  t53 := Tryd.underlying116
  a53 := Tryd.isAgg116
  z53 := Tryd.sizeOf116
  v53 := Tryd.zeroValue116
  t171 := Tryd.underlying123
  a171 := Tryd.isAgg123
  z171 := Tryd.sizeOf123
  v171 := Tryd.zeroValue123
  t173 := Tryd.underlying126
  a173 := Tryd.isAgg126
  z173 := Tryd.sizeOf126
  v173 := Tryd.zeroValue126
  t212 := Tryd.underlying135
  a212 := Tryd.isAgg135
  z212 := Tryd.sizeOf135
  v212 := Tryd.zeroValue135
  t213 := Tryd.underlying136
  a213 := Tryd.isAgg136
  z213 := Tryd.sizeOf136
  t232 := Tryd.underlying143
  a232 := Tryd.isAgg143
  z232 := Tryd.sizeOf143
  v232 := Tryd.zeroValue143
  t233 := Tryd.underlying144
  a233 := Tryd.isAgg144
  z233 := Tryd.sizeOf144
  v233 := Tryd.zeroValue144
  g17 := by kernel_rfl
  g18 := by kernel_rfl
  g19 := by kernel_rfl
  i0 := by kernel_rfl
  i2 := by kernel_rfl
  i3 := by kernel_rfl
  i4 := by kernel_rfl
  i5 := by kernel_rfl
  i9 := by kernel_rfl
  i20 := by kernel_rfl
  i37 := by kernel_rfl
  i46 := by kernel_rfl
  i51 := by kernel_rfl
  i53 := by kernel_rfl
  i171 := by kernel_rfl
  i173 := by kernel_rfl
  i212 := by kernel_rfl
  i232 := by kernel_rfl
  i233 := by kernel_rfl
  m17 := by kernel_rfl
  m18 := by kernel_rfl
  m19 := by kernel_rfl }
open Go.RowKit Go.Sort Go.Lib in
theorem strconv_Itoa (n : Int) (h0 : -9223372036854775808 ≤ n) (h1 : n ≤ 9223372036854775807) (w : World) (htab : Lib.TabIs Tryd.prog w "internal/strconv.uint64pow10" .u64 Lib.pow10Tab) :
    Calls Tryd.prog 25 #[.int .i64 n] w fun e w' => e = .returned (.string ⟨(Lib.itoa n).toArray⟩) ∧ ∃ k os, w' = grow (w.drewN k) os := Any.strconv_Itoa laysM171 n h0 h1 w htab
end Go.Proofs.YtddedghnnkcnhaaDoor
/-
  Patterns: the walk of Text.
-/
namespace Go.Proofs.YtddedghnnkcnhaaDoor
open Go.RowKit
attribute [local go_sem ↓] Go.wp_at_zero Go.wp_at_succ
set_option maxRecDepth 100000
set_option linter.unusedVariables false

theorem elemStr : Elem Tryd.prog 23 9 (.string ⟨#[]⟩) 1 16 := ⟨Tryd.underlying23, by kernel_rfl, rfl, by decide⟩
/-- The table that Itoa reads. -/
def TabW (w : World) : Prop := Lib.TabIs Tryd.prog w "internal/strconv.uint64pow10" .u64 Lib.pow10Tab
theorem TabW.keep {w w' : World} (h : TabW w) (hb : Below w.heap.size w w') : TabW w' := Lib.tabBelow_of_tabIs h w' hb
def i64P (x : Int) : Prop := -9223372036854775808 ≤ x ∧ x ≤ 9223372036854775807
abbrev itoaB (x : Int) : ByteArray := ⟨(Lib.itoa x).toArray⟩
theorem Itoa_any (x : Int) (w : World) (hx : i64P x) (hT : TabW w) : Calls Tryd.prog 25 #[.int .i64 x] w fun e w' => e = .returned (.string (itoaB x)) ∧ Below w.heap.size w w' :=
  (strconv_Itoa x hx.1 hx.2 w hT).mono fun e w' ⟨h1, k, os, h2⟩ => ⟨h1, by rw [h2]; exact Lib.below_grow _ w (Nat.le_refl _) k os⟩
theorem itoaB_size (x : Int) (h : i64P x) : (itoaB x).size ≤ 21 := by
  show (Lib.itoa x).toArray.size ≤ 21
  rw [List.size_toArray]
  exact Lib.itoa_length_le x h.1 h.2
def edgeB (e : Int × Int) : ByteArray := itoaB e.1 ++ ⟨#[45]⟩ ++ itoaB e.2
def strs (l : List ByteArray) : List Value := l.map Value.string

theorem edgeB_size (e : Int × Int) (h1 : i64P e.1) (h2 : i64P e.2) : (edgeB e).size ≤ 100 := by
  have a := itoaB_size _ h1
  have b := itoaB_size _ h2
  have c : (⟨#[45]⟩ : ByteArray).size = 1 := rfl
  unfold edgeB
  rw [ByteArray.size_append, ByteArray.size_append]
  omega
def joinB (S : List ByteArray) : ByteArray := ⟨(Lib.join (S.map (·.data.toList)) [44]).toArray⟩
theorem tail_len : ∀ (r : List (List UInt8)), (∀ b ∈ r, b.length ≤ 100) → (Lib.joinTail [44] r).length ≤ r.length * 101
  | [], _ => Nat.le_refl _
  | x :: r, h => by
    have h1 := tail_len r (fun b hb => h b (List.mem_cons_of_mem _ hb))
    have h2 := h x (List.mem_cons_self ..)
    unfold Lib.joinTail at h1 ⊢
    rw [List.map_cons, List.flatten_cons, List.length_append, List.length_cons, List.length_append]
    simp only [List.length_cons, List.length_nil]
    omega
theorem join_len (r : List (List UInt8)) (h : ∀ b ∈ r, b.length ≤ 100) : (Lib.join r [44]).length ≤ r.length * 101 := by
  rcases r with _ | ⟨x, r⟩
  · exact Nat.le_refl _
  · have h1 := tail_len r (fun b hb => h b (List.mem_cons_of_mem _ hb))
    have h2 := h x (List.mem_cons_self ..)
    rw [Lib.join_cons, List.length_append, List.length_cons]
    omega
theorem dataLen (b : ByteArray) : b.data.toList.length = b.size := Array.length_toList
theorem joinB_len (S : List ByteArray) (h : ∀ b ∈ S, b.size ≤ 100) : (Lib.join (S.map (·.data.toList)) [44]).length ≤ S.length * 101 := by
  have := join_len (S.map (·.data.toList)) (fun b hb => by
    obtain ⟨x, hx, rfl⟩ := List.mem_map.1 hb
    show x.data.toList.length ≤ 100
    rw [dataLen]
    exact h x hx)
  rw [List.length_map] at this
  exact this
theorem joinB_size (S : List ByteArray) (h : ∀ b ∈ S, b.size ≤ 100) : (joinB S).size ≤ S.length * 101 := by
  show (Lib.join (S.map (·.data.toList)) [44]).toArray.size ≤ _
  rw [List.size_toArray]
  exact joinB_len S h
/-- A pattern's text. -/
def textB (L : List Int) (E : List (Int × Int)) : ByteArray := joinB (L.map itoaB) ++ ⟨#[124]⟩ ++ joinB (E.map edgeB)

end Go.Proofs.YtddedghnnkcnhaaDoor
/-
  The frame where the tables of math/bits and strconv are listed beside errors.errorType; a pattern that came in.
-/
namespace Go.Proofs.YtddedghnnkcnhaaDoor
open Go.ChangeShapes Go.WideShapes Go.ChangeAt Go.RowKit Go.Joins
set_option linter.unusedVariables false
set_option maxRecDepth 100000

def tabLaid : List (String × DataW Unit) := [("math/bits.deBruijn32tab", Rows.laid_math_bits_deBruijn32tab), ("math/bits.deBruijn64tab", Rows.laid_math_bits_deBruijn64tab), ("internal/strconv.uint64pow10", Rows.laid_internal_strconv_uint64pow10), ("errors.errorType", Rows.laid_errors_errorType)]
theorem tab_err : (tabLaid.filter fun x => x.1 == "errors.errorType") = errLaid := by kernel_rfl
theorem tab_pow : (tabLaid.filter fun x => x.1 == "internal/strconv.uint64pow10") = [("internal/strconv.uint64pow10", Rows.laid_internal_strconv_uint64pow10)] := by kernel_rfl
theorem pow_data : (Rows.laid_internal_strconv_uint64pow10 : DataW Unit) = Lib.tabData .u64 Lib.pow10Tab := by kernel_rfl
theorem pow_none : ([("internal/strconv.uint64pow10", (Rows.laid_internal_strconv_uint64pow10 : DataW Unit))].filter fun x => x.2.handleName?.isNone) = [("internal/strconv.uint64pow10", Rows.laid_internal_strconv_uint64pow10)] := by kernel_rfl
theorem errT_of_tab {W : World} (h : laidMetH Tryd.prog tabLaid W) : ErrT W := by
  have h1 := laidMetH.filter (fun x => x.1 == "errors.errorType") h
  rw [tab_err] at h1
  exact errT_of_laid h1
theorem tabW_of_tab {W : World} (h : laidMetH Tryd.prog tabLaid W) : TabW W := by
  have h1 := laidMetH.filter (fun x => x.1 == "internal/strconv.uint64pow10") h
  rw [tab_pow] at h1
  have h2 := (laidMetH_iff.1 h1).1
  rw [pow_none, pow_data] at h2
  exact Lib.tabIs_of_head (g := 4) (by kernel_rfl) (by kernel_rfl) Tryd.underlying135 Tryd.underlying116 (by kernel_rfl) (by kernel_rfl) h2

/-- A table's values. -/
def litsOf : DataW Unit → List Value
  | .agg ps => ps.map fun | .lit (.int k x) => .int k x | _ => .bool false
  | _ => []
/-- A world that meets the condition: the settled one, the variables' cells laid. -/
noncomputable def tabWorld (os : Os) : World :=
  { laidWorld os with heap := (((laidWorld os).heap.modify 7 fun
      | .cells _ t frozen => .cells (litsOf Rows.laid_math_bits_deBruijn32tab).toArray t frozen
      | o => o).modify 8 fun
      | .cells _ t frozen => .cells (litsOf Rows.laid_math_bits_deBruijn64tab).toArray t frozen
      | o => o).modify 4 fun
      | .cells _ t frozen => .cells (litsOf Rows.laid_internal_strconv_uint64pow10).toArray t frozen
      | o => o }
theorem tab_met (os : Os) (args : Array Value) : laidMetH Tryd.prog tabLaid ((tabWorld os).forCall (fun _ _ => 0) ⟨#[], args, []⟩).memory :=
  laidMetH_of_parts (laidMet_of_run3 30 (by kernel_rfl) (by kernel_rfl) (by kernel_rfl)) (by kernel_rfl)

section
variable {H : Type} {enc : TypeId × Value → H} {P : Program} {w : World} {base : Nat} {spare : Nat → Bool} {held : Bool}
/-- A slice of ints that came in, with the bulk. -/
theorem open_sl_ints_upto {t e : TypeId} {k : IntKind} {fuel n c B : Nat} {A : Option Addr} {x : DataW H × List MemPlace} (ht : P.underlying t = some (.slice e)) (he : P.underlying e = some (.int k)) (hs : P.cellsOf e = 1)
    (h : DataW.trod enc P w base spare held fuel t [.slice A n c] = some x) (hB : Rows.uptoBulk x.1 ≤ B) :
    n ≤ B ∧ ∃ zs : List Int, zs.length = n ∧ Sl w 1 A n (zs.map (Value.int k)) ∧ ∀ z ∈ zs, (Lit.int k z).wf = true := by
  obtain ⟨hm, _⟩ := open_sl_upto hs (by omega) ht h hB
  exact ⟨hm, (open_sl_ints ht he hs h).2⟩
/-- The shape of a slice's value. -/
theorem slice_shape {t e : TypeId} {fuel : Nat} {v : Value} {y : DataW H × List MemPlace} (ht : P.underlying t = some (.slice e)) (h : DataW.trod enc P w base spare held fuel t [v] = some y) : ∃ A n c, v = .slice A n c := by
  rcases DataW.trod_slice ht h with ⟨h4, _⟩ | ⟨A, n, c, _, _, _, _, h4, _⟩
  · injection h4 with h4 _
    exact ⟨_, _, _, h4⟩
  · injection h4 with h4 _
    exact ⟨_, _, _, h4⟩
end

section
variable {H : Type} {enc : TypeId × Value → H} {w : World} {base b0 : Nat} {spare : Nat → Bool} {held : Bool} {r : Reach}
end
end Go.Proofs.YtddedghnnkcnhaaDoor
/-
  A pattern that came in, the first form: with its capacities and its numbers' bounds.
-/
namespace Go.Proofs.YtddedghnnkcnhaaDoor
open Go.ChangeShapes Go.WideShapes Go.ChangeAt Go.RowKit Go.Joins
set_option linter.unusedVariables false
set_option maxRecDepth 100000

theorem wf_i64P {z : Int} (h : (Lit.int .i64 z).wf = true) : i64P z := wf_i64 h
/-- A slice that stands in a struct: its capacity. -/
theorem cap_field {P : Program} {w : World} {r : Reach} {base : Nat} {t e : TypeId} (ht : P.underlying t = some (.slice e)) {a : Option Addr} {n c : Nat} (h : Cell.okWide P w r base t (.slice a n c)) : n ≤ c ∧ c ≤ 9223372036854775807 :=
  cap_ok (r := r) (base := base) (w := w) ht (by simp only [Value.okWide, ht]; exact h)
section
variable {H : Type} {enc : TypeId × Value → H} {w : World} {base b0 : Nat} {spare : Nat → Bool} {held : Bool} {r : Reach}
end
end Go.Proofs.YtddedghnnkcnhaaDoor
/-
  The closed facts of a row over a great program, in parts (each by the kernel apart).
-/
namespace Go.Proofs.YtddedghnnkcnhaaDoor
open Go.ChangeShapes Go.WideShapes Go.ChangeAt Go.RowKit
set_option linter.unusedVariables false

section
variable {P : Program} {f : FuncId} {fn : Func} {s : ChangeSpec} {c : OpenClaim}
theorem joined_of (h0 : (c.wf (OpenSpec.ofChange s) && laidOutB P && mapsRowed P && fn.params.all (P.readableRec ·) && namedTie P c.named s.vars && (c.stops == []) && (P.stops == []) && (c.knobs == []) && (P.stopKnobs == [])) = true)
    (h1 : (c.inPlace == P.inPlace f) = true) (h2 : (c.unfollowed == P.unfollowed f) = true) (h3 : (c.recurses == P.recurses f) = true) (h4 : (c.named == P.varsNamed f) = true)
    (h5 : ((c.maps == (fn.params.toList ++ s.plain.varTypes P).any (P.mapsRec ·)) && (c.ifaces == (fn.params.toList ++ s.plain.varTypes P).any (P.ifacesRec ·)) && (c.mapsOut == P.mapsAmong fn.resultTypes.toList) &&
      (c.loops == (fn.params.toList ++ s.plain.varTypes P).any (P.loopsFrom ·)) && (c.wideKeys == (fn.params.toList ++ s.plain.varTypes P ++ fn.resultTypes.toList).any (P.wideKeysFrom ·)) &&
      s.vars.all (P.varReadable ·) && fn.resultTypes.all (fun t => P.readableRec t && decide (t < P.types.size)) && (c.ifacesOut == fn.resultTypes.toList.any (P.ifacesRec ·)) && (c.loopsOut == fn.resultTypes.toList.any (P.loopsFrom ·))) = true)
    (h6 : ((c.plainKeys == P.plainKeys) && c.shortTexts.isNone && P.stopsHeard && P.mayEnter && (c.lifted == P.liftsFinal) && (P.make == some c.make)) = true)
    (h7 : ((c.kinds == (if c.domain.isEmpty then [] else fn.params.toList.map fun t => match P.underlying t with | some (.int k) => some k | _ => none)) && (c.pinned == c.pinnedBy) &&
      (c.veiled == (fn.params.toList ++ s.plain.varTypes P ++ fn.resultTypes.toList).any (P.veiledRec ·)) && c.veiledFits P fn.params.toList (fn.params.toList ++ s.plain.varTypes P ++ fn.resultTypes.toList)) = true) :
    joinedFacts P f fn s c = true := by
  unfold joinedFacts
  simp only [Bool.and_eq_true] at h0 h5 h6 h7 ⊢
  obtain ⟨⟨⟨⟨⟨⟨⟨⟨a1, a2⟩, a3⟩, a4⟩, a5⟩, a6⟩, a7⟩, a8⟩, a9⟩ := h0
  obtain ⟨⟨⟨⟨⟨⟨⟨⟨b1, b2⟩, b3⟩, b4⟩, b5⟩, b6⟩, b7⟩, b8⟩, b9⟩ := h5
  obtain ⟨⟨⟨⟨⟨d1, d2⟩, d3⟩, d4⟩, d5⟩, d6⟩ := h6
  obtain ⟨⟨⟨e1, e2⟩, e3⟩, e4⟩ := h7
  exact ⟨⟨⟨⟨⟨⟨⟨⟨⟨⟨⟨⟨⟨⟨⟨⟨⟨⟨⟨⟨⟨⟨⟨⟨⟨⟨⟨⟨⟨⟨⟨a1, a2⟩, a3⟩, a4⟩, a5⟩, a6⟩, a7⟩, a8⟩, a9⟩, h1⟩, h2⟩, h3⟩, h4⟩, b1⟩, b2⟩, b3⟩, b4⟩, b5⟩, b6⟩, b7⟩, b8⟩, b9⟩, d1⟩, d2⟩, d3⟩, d4⟩, d5⟩, d6⟩, e1⟩, e2⟩, e3⟩, e4⟩
end
end Go.Proofs.YtddedghnnkcnhaaDoor
/-
  Texts plainly: cut and split at one byte, joined again; numbers as digits, there and back.
-/
namespace Go.Proofs.YtddedghnnkcnhaaDoor.Tx
open Go
set_option linter.unusedVariables false

def cut1 (c : UInt8) : List UInt8 → List UInt8 × List UInt8 × Bool
  | [] => ([], [], false)
  | b :: l => if b = c then ([], l, true) else (b :: (cut1 c l).1, (cut1 c l).2.1, (cut1 c l).2.2)
theorem indexByte_split (c : UInt8) : ∀ s, Lib.indexByte s c = -1 ∨ ∃ i : Nat, Lib.indexByte s c = i := fun s => by
  have h := Lib.indexByte_ge s c
  by_cases h1 : Lib.indexByte s c = -1
  · exact .inl h1
  · exact .inr ⟨(Lib.indexByte s c).toNat, by omega⟩
theorem cut1_eq (c : UInt8) : ∀ s : List UInt8, Lib.cut s [c] = cut1 c s
  | [] => by
    unfold Lib.cut
    rw [Lib.index_one]
    rfl
  | b :: l => by
    have ih := cut1_eq c l
    unfold Lib.cut at ih ⊢
    rw [Lib.index_one] at ih ⊢
    unfold cut1
    by_cases hb : b = c
    · rw [if_pos hb]
      have e : Lib.indexByte (b :: l) c = 0 := by
        unfold Lib.indexByte
        rw [if_pos (beq_iff_eq.2 hb)]
      rw [e]
      simp
    · rw [if_neg hb, ← ih]
      have hbn : ¬ (b == c) = true := fun h => hb (beq_iff_eq.1 h)
      rcases indexByte_split c l with h | ⟨i, h⟩
      · have e : Lib.indexByte (b :: l) c = -1 := by
          unfold Lib.indexByte
          rw [if_neg hbn, h]
          rfl
        rw [e, h]
        simp
      · have e : Lib.indexByte (b :: l) c = ((i + 1 : Nat) : Int) := by
          unfold Lib.indexByte
          rw [if_neg hbn, h, if_neg (by rw [beq_iff_eq]; omega)]
          omega
        rw [e, h]
        have h0 : (0 : Int) ≤ (i : Int) + 1 := by omega
        simp [h0]
theorem cut1_none {c : UInt8} : ∀ {s : List UInt8}, c ∉ s → cut1 c s = (s, [], false)
  | [], _ => rfl
  | b :: l, h => by
    have h1 : ¬ b = c := fun e => h (by rw [e]; exact List.mem_cons_self ..)
    have h2 := cut1_none (c := c) (s := l) fun hm => h (List.mem_cons_of_mem _ hm)
    rw [cut1, if_neg h1, h2]
theorem cut1_app {c : UInt8} : ∀ {s : List UInt8} (t : List UInt8), c ∉ s → cut1 c (s ++ c :: t) = (s, t, true)
  | [], t, _ => by rw [List.nil_append, cut1, if_pos rfl]
  | b :: l, t, h => by
    have h1 : ¬ b = c := fun e => h (by rw [e]; exact List.mem_cons_self ..)
    have h2 := cut1_app (c := c) (s := l) t fun hm => h (List.mem_cons_of_mem _ hm)
    rw [List.cons_append, cut1, if_neg h1, h2]
theorem app_of_mem {c : UInt8} : ∀ {s : List UInt8}, c ∈ s → ∃ a b, s = a ++ c :: b ∧ c ∉ a
  | [], h => by cases h
  | x :: l, h => by
    by_cases hx : x = c
    · subst hx
      exact ⟨[], l, rfl, by simp⟩
    · rcases List.mem_cons.1 h with h1 | h1
      · exact absurd h1.symm hx
      · obtain ⟨a, b, e, hn⟩ := app_of_mem h1
        refine ⟨x :: a, b, by rw [e, List.cons_append], fun hm => ?_⟩
        rcases List.mem_cons.1 hm with h2 | h2
        · exact hx h2.symm
        · exact hn h2
theorem cut1_cases (c : UInt8) (s : List UInt8) : (c ∉ s ∧ cut1 c s = (s, [], false)) ∨ (∃ a b, s = a ++ c :: b ∧ c ∉ a ∧ cut1 c s = (a, b, true)) := by
  by_cases h : c ∈ s
  · right
    obtain ⟨a, b, rfl, ha⟩ := app_of_mem h
    exact ⟨a, b, rfl, ha, cut1_app b ha⟩
  · exact .inl ⟨h, cut1_none h⟩
def split1 (c : UInt8) : List UInt8 → List (List UInt8)
  | [] => [[]]
  | b :: l => if b = c then [] :: split1 c l else match split1 c l with
    | [] => [[b]]
    | x :: r => (b :: x) :: r
theorem split1_ne (c : UInt8) : ∀ s, split1 c s ≠ []
  | [] => by simp [split1]
  | b :: l => by
    unfold split1
    split
    · simp
    · split <;> simp
theorem split1_none {c : UInt8} : ∀ {s : List UInt8}, c ∉ s → split1 c s = [s]
  | [], _ => rfl
  | b :: l, h => by
    have h1 : ¬ b = c := fun e => h (by rw [e]; exact List.mem_cons_self ..)
    have h2 := split1_none (c := c) (s := l) fun hm => h (List.mem_cons_of_mem _ hm)
    rw [split1, if_neg h1, h2]
theorem split1_app {c : UInt8} : ∀ {s : List UInt8} (t : List UInt8), c ∉ s → split1 c (s ++ c :: t) = s :: split1 c t
  | [], t, _ => by rw [List.nil_append, split1, if_pos rfl]
  | b :: l, t, h => by
    have h1 : ¬ b = c := fun e => h (by rw [e]; exact List.mem_cons_self ..)
    have h2 := split1_app (c := c) (s := l) t fun hm => h (List.mem_cons_of_mem _ hm)
    rw [List.cons_append, split1, if_neg h1, h2]
theorem splitK_eq (c : UInt8) : ∀ (k : Nat) (s : List UInt8), s.count c = k → Lib.splitK [c] 0 k s = split1 c s
  | 0, s, h => by
    rw [split1_none (List.count_eq_zero.1 h)]
    rfl
  | k + 1, s, h => by
    have hc := cut1_eq c s
    rcases cut1_cases c s with ⟨h1, _⟩ | ⟨a, b, rfl, ha, hcut⟩
    · rw [List.count_eq_zero.2 h1] at h
      omega
    · rw [hcut] at hc
      unfold Lib.cut at hc
      unfold Lib.splitK
      have ih := splitK_eq c k b (by
        rw [List.count_append, List.count_eq_zero.2 ha, List.count_cons_self] at h
        omega)
      by_cases h0 : 0 ≤ Lib.index (a ++ c :: b) [c]
      · rw [if_pos h0] at hc
        rw [if_neg (by rw [beq_iff_eq]; omega), split1_app b ha]
        simp only [Prod.mk.injEq] at hc
        rw [Nat.add_zero, hc.1, hc.2.1, ih]
      · rw [if_neg h0] at hc
        simp at hc
theorem split_eq (c : UInt8) (s : ByteArray) : (Lib.splitB ⟨#[c]⟩ 0 (Lib.countB s ⟨#[c]⟩) s).map (·.data.toList) = split1 c s.data.toList := by
  rw [Lib.splitB_data]
  refine splitK_eq c _ _ ?_
  have h := Lib.count_one c s.data.toList
  exact h.symm
theorem join_split (c : UInt8) : ∀ s : List UInt8, Lib.join (split1 c s) [c] = s
  | [] => by rw [split1, Lib.join_one]
  | b :: l => by
    have ih := join_split c l
    unfold split1
    by_cases hb : b = c
    · rw [if_pos hb]
      cases hs : split1 c l with
      | nil => exact absurd hs (split1_ne c l)
      | cons x r =>
        rw [hs, Lib.join_cons] at ih
        rw [Lib.join_cons, List.nil_append, Lib.joinTail, List.map_cons, List.flatten_cons, hb]
        unfold Lib.joinTail at ih
        rw [List.append_assoc, ih]
        rfl
    · rw [if_neg hb]
      cases hs : split1 c l with
      | nil => exact absurd hs (split1_ne c l)
      | cons x r =>
        rw [hs, Lib.join_cons] at ih
        show Lib.join ((b :: x) :: r) [c] = b :: l
        rw [Lib.join_cons, List.cons_append, ih]
theorem split_join (c : UInt8) : ∀ (x : List UInt8) (r : List (List UInt8)), c ∉ x → (∀ y ∈ r, c ∉ y) → split1 c (Lib.join (x :: r) [c]) = x :: r
  | x, [], hx, _ => by rw [Lib.join_one, split1_none hx]
  | x, y :: r, hx, hr => by
    have ih := split_join c y r (hr y (List.mem_cons_self ..)) fun z hz => hr z (List.mem_cons_of_mem _ hz)
    rw [Lib.join_cons] at ih ⊢
    rw [Lib.joinTail, List.map_cons, List.flatten_cons, List.append_assoc]
    unfold Lib.joinTail at ih
    show split1 c (x ++ c :: (y ++ _)) = _
    rw [split1_app _ hx, ih]

theorem parse_app : ∀ (l r : List UInt8) (acc : Nat), Lib.parseUint10 acc (l ++ r) = match Lib.parseUint10 acc l with
    | .ok a => Lib.parseUint10 a r
    | e => e
  | [], r, acc => rfl
  | b :: l, r, acc => by
    rw [List.cons_append]
    simp only [Lib.parseUint10]
    split
    · split
      · rfl
      · split
        · rfl
        · exact parse_app l r _
    · rfl
theorem digit_nat {d : Nat} (h : d < 10) : (UInt8.ofNat (48 + d)).toNat = 48 + d := by
  rw [UInt8.toNat_ofNat']
  omega
theorem parse_dec : ∀ u : Nat, u < 18446744073709551616 → Lib.parseUint10 0 (Lib.decDigits u) = .ok u := by
  intro u
  induction u using Nat.strongRecOn with
  | ind u ih =>
    intro hu
    by_cases h : u < 10
    · rw [Lib.decDigits, dif_pos h]
      unfold Lib.parseUint10 Lib.parseUint10
      rw [digit_nat h, if_pos (by omega), if_neg (by omega), if_neg (by omega)]
      congr 1
      omega
    · have h2 := ih (u / 10) (by omega) (by omega)
      rw [Lib.decDigits, dif_neg h, parse_app, h2]
      show Lib.parseUint10 (u / 10) [UInt8.ofNat (48 + u % 10)] = _
      unfold Lib.parseUint10 Lib.parseUint10
      rw [digit_nat (Nat.mod_lt _ (by omega)), if_pos (by omega), if_neg (by omega), if_neg (by omega)]
      congr 1
      omega
theorem dec_ne (u : Nat) : Lib.decDigits u ≠ [] := by
  by_cases h : u < 10
  · rw [Lib.decDigits, dif_pos h]; simp
  · rw [Lib.decDigits, dif_neg h]; simp
theorem dec_digit : ∀ (u : Nat), ∀ b ∈ Lib.decDigits u, 48 ≤ b.toNat ∧ b.toNat ≤ 57 := by
  intro u
  induction u using Nat.strongRecOn with
  | ind u ih =>
    intro b hb
    by_cases h : u < 10
    · rw [Lib.decDigits, dif_pos h] at hb
      rw [List.mem_singleton.1 hb, digit_nat h]
      omega
    · rw [Lib.decDigits, dif_neg h] at hb
      rcases List.mem_append.1 hb with hb | hb
      · exact ih _ (by omega) b hb
      · rw [List.mem_singleton.1 hb, digit_nat (Nat.mod_lt _ (by omega))]
        omega
/-- The digits of a number are parsed as it. -/
theorem atoi_dec {u : Nat} (h : u ≤ 9223372036854775807) : Lib.atoiAll (Lib.decDigits u) = .ok (u : Int) := by
  have hp := parse_dec u (by omega)
  have hd := dec_digit u
  cases he : Lib.decDigits u with
  | nil => exact absurd he (dec_ne u)
  | cons c r =>
    rw [he] at hp hd
    have hc := hd c (List.mem_cons_self ..)
    unfold Lib.atoiAll
    simp only
    rw [if_neg (show ¬ (c.toNat = 43 ∨ c.toNat = 45) by omega)]
    unfold Lib.parseMag
    rw [if_neg (by simp), hp]
    simp only
    rw [if_neg (by omega), if_neg (by omega), if_neg (by omega)]
/-- The digits that a number's text is, no more than so many of them. -/
theorem itoa_nat (u : Nat) : Lib.itoa (u : Int) = Lib.decDigits u := by
  unfold Lib.itoa
  rw [if_neg (by omega), Int.toNat_natCast]
theorem dec_inj {u v : Nat} (hu : u ≤ 9223372036854775807) (hv : v ≤ 9223372036854775807) (h : Lib.decDigits u = Lib.decDigits v) : u = v := by
  have h1 := atoi_dec hu
  rw [h, atoi_dec hv] at h1
  injection h1 with h1
  omega
theorem dec_len_lt : ∀ (k u : Nat), 1 ≤ k → ((Lib.decDigits u).length ≤ k ↔ u < 10 ^ k)
  | 0, u, h => by omega
  | k + 1, u, _ => by
    by_cases h : u < 10
    · rw [Lib.decDigits, dif_pos h]
      have : 10 ^ 1 ≤ 10 ^ (k + 1) := Nat.pow_le_pow_right (by omega) (by omega)
      simp
      omega
    · rw [Lib.decDigits, dif_neg h, List.length_append, List.length_singleton]
      rcases Nat.eq_zero_or_pos k with hk | hk
      · subst hk
        have := List.length_pos_iff.2 (dec_ne (u / 10))
        omega
      · have ih := dec_len_lt k (u / 10) hk
        rw [Nat.pow_succ]
        omega
end Go.Proofs.YtddedghnnkcnhaaDoor.Tx
