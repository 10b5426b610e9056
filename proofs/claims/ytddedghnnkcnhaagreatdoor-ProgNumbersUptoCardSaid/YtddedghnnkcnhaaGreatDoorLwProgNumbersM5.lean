/-
  Part 5 of the proof of LwProgNumbers: FrameT, TxtP, LibC.
-/
import Derived.Test.YtddedghnnkcnhaaGreatDoorLwProgNumbersM2
import Derived.Test.YtddedghnnkcnhaaGreatDoorLwProgNumbersM4
import Derived.Lib.SmallJoins
import Derived.Lib.LaidTab
import Derived.LaidSub
import Derived.Deep.DeepLaidRun
import Derived.Lib.SplitLaws
import Derived.Lib.CutLaws
import Derived.Lib.IndexBytes
import Derived.Lib.Join
import Derived.Lib.ItoaNum
import Derived.Lib.AtoiAll
import Derived.RowKit
import Derived.Test.YtddedghnnkcnhaaGreatDoorLwProgNumbersM1
import Derived.Shelf.Strings.Cut
import Derived.Shelf.Strings.Split
import Derived.Shelf.Strconv.AtoiAll
import Derived.Shelf.Slices.Turned
import Derived.Shelf.LaysM
import Derived.Shelf.LaysC
/-
  The frame where the tables of math/bits and strconv are listed beside errors.errorType; a pattern that came in.
-/
namespace Go.Proofs.YtddedghnnkcnhaaGreatDoor
open Go.ChangeShapes Go.WideShapes Go.ChangeAt Go.RowKit Go.Joins
set_option linter.unusedVariables false
set_option maxRecDepth 100000

def tabLaid : List (String × DataW Unit) := [("math/bits.deBruijn32tab", Rows.laid_math_bits_deBruijn32tab), ("math/bits.deBruijn64tab", Rows.laid_math_bits_deBruijn64tab), ("internal/strconv.uint64pow10", Rows.laid_internal_strconv_uint64pow10), ("errors.errorType", Rows.laid_errors_errorType)]
theorem tab_err : (tabLaid.filter fun x => x.1 == "errors.errorType") = errLaid := by kernel_rfl
theorem tab_pow : (tabLaid.filter fun x => x.1 == "internal/strconv.uint64pow10") = [("internal/strconv.uint64pow10", Rows.laid_internal_strconv_uint64pow10)] := by kernel_rfl
theorem pow_data : (Rows.laid_internal_strconv_uint64pow10 : DataW Unit) = Lib.tabData .u64 Lib.pow10Tab := by kernel_rfl
theorem pow_none : ([("internal/strconv.uint64pow10", (Rows.laid_internal_strconv_uint64pow10 : DataW Unit))].filter fun x => x.2.handleName?.isNone) = [("internal/strconv.uint64pow10", Rows.laid_internal_strconv_uint64pow10)] := by kernel_rfl
theorem errT_of_tab {W : World} (h : laidMetH Tryz.prog tabLaid W) : ErrT W := by
  have h1 := laidMetH.filter (fun x => x.1 == "errors.errorType") h
  rw [tab_err] at h1
  exact errT_of_laid h1
theorem tabW_of_tab {W : World} (h : laidMetH Tryz.prog tabLaid W) : TabW W := by
  have h1 := laidMetH.filter (fun x => x.1 == "internal/strconv.uint64pow10") h
  rw [tab_pow] at h1
  have h2 := (laidMetH_iff.1 h1).1
  rw [pow_none, pow_data] at h2
  exact Lib.tabIs_of_head (g := 2) (by kernel_rfl) (by kernel_rfl) Tryz.underlying315 Tryz.underlying190 (by kernel_rfl) (by kernel_rfl) h2

/-- A table's values. -/
def litsOf : DataW Unit → List Value
  | .agg ps => ps.map fun | .lit (.int k x) => .int k x | _ => .bool false
  | _ => []
/-- A world that meets the condition: the settled one, the variables' cells laid. -/
noncomputable def tabWorld (os : Os) : World :=
  { laidWorld os with heap := (((laidWorld os).heap.modify 7 fun
      | .cells _ t frozen => .cells (litsOf Rows.laid_math_bits_deBruijn32tab).toArray t frozen
      | o => o).modify 8 fun
      | .cells _ t frozen => .cells (litsOf Rows.laid_math_bits_deBruijn64tab).toArray t frozen
      | o => o).modify 2 fun
      | .cells _ t frozen => .cells (litsOf Rows.laid_internal_strconv_uint64pow10).toArray t frozen
      | o => o }
theorem tab_met (os : Os) (args : Array Value) : laidMetH Tryz.prog tabLaid ((tabWorld os).forCall (fun _ _ => 0) ⟨#[], args, []⟩).memory :=
  laidMetH_of_parts (laidMet_of_run3 30 (by kernel_rfl) (by kernel_rfl) (by kernel_rfl)) (by kernel_rfl)

section
variable {H : Type} {enc : TypeId × Value → H} {P : Program} {w : World} {base : Nat} {spare : Nat → Bool} {held : Bool}
/-- A slice of ints that came in, with the bulk. -/
theorem open_sl_ints_upto {t e : TypeId} {k : IntKind} {fuel n c B : Nat} {A : Option Addr} {x : DataW H × List MemPlace} (ht : P.underlying t = some (.slice e)) (he : P.underlying e = some (.int k)) (hs : P.cellsOf e = 1)
    (h : DataW.trod enc P w base spare held fuel t [.slice A n c] = some x) (hB : Rows.uptoBulk x.1 ≤ B) :
    n ≤ B ∧ ∃ zs : List Int, zs.length = n ∧ Sl w 1 A n (zs.map (Value.int k)) ∧ ∀ z ∈ zs, (Lit.int k z).wf = true := by
  obtain ⟨hm, _⟩ := open_sl_upto hs (by omega) ht h hB
  exact ⟨hm, (open_sl_ints ht he hs h).2⟩
/-- The shape of a slice's value. -/
theorem slice_shape {t e : TypeId} {fuel : Nat} {v : Value} {y : DataW H × List MemPlace} (ht : P.underlying t = some (.slice e)) (h : DataW.trod enc P w base spare held fuel t [v] = some y) : ∃ A n c, v = .slice A n c := by
  rcases DataW.trod_slice ht h with ⟨h4, _⟩ | ⟨A, n, c, _, _, _, _, h4, _⟩
  · injection h4 with h4 _
    exact ⟨_, _, _, h4⟩
  · injection h4 with h4 _
    exact ⟨_, _, _, h4⟩
end

section
variable {H : Type} {enc : TypeId × Value → H} {w : World} {base b0 : Nat} {spare : Nat → Bool} {held : Bool} {r : Reach}
theorem pat_fields : ∃ f0 f1 : Field, Tryz.prog.underlying 25 = some (.struct #[f0, f1]) ∧ f0.type = 22 ∧ f1.type = 23 :=
  ⟨_, _, Tryz.underlying25, rfl, rfl⟩
theorem edge_fields : ∃ f0 f1 : Field, Tryz.prog.underlying 66 = some (.struct #[f0, f1]) ∧ (f0.offset = 0 ∧ f1.offset = 1) ∧ f0.type = 3 ∧ f1.type = 3 :=
  ⟨_, _, Tryz.underlying66, ⟨rfl, rfl⟩, rfl, rfl⟩
theorem pat_one : ∀ f0 f1 : Field, f0.type = 22 → f1.type = 23 → True := fun _ _ _ _ => trivial
/-- A pattern that came in, with the bulk. -/
theorem open_pat_upto {v : Value} {d : DataW H} {p : List MemPlace} {B : Nat} (hv : Value.okWide Tryz.prog w r b0 25 v) (h : DataW.Trod enc Tryz.prog w base spare held 25 v d p) (hB : Rows.uptoBulk d ≤ B) :
    ∃ (A : Option Addr) (n c : Nat) (B' : Option Addr) (m e : Nat) (L : List Int) (E : List (Int × Int)), v = pv A n c B' m e ∧ L.length = n ∧ n ≤ B ∧ m ≤ B ∧ Sl w 1 A n (L.map (Value.int .i64)) ∧ Sl w 2 B' m (Rk.cells E) := by
  obtain ⟨c0, c1, y0, y1, fu, rfl, rfl, rfl, hy0, hy1⟩ := open_agg2 Tryz.underlying25 (by kernel_rfl) (by kernel_rfl) hv h
  have hB' : Rows.uptoBulk y0.1 ≤ B ∧ Rows.uptoBulk y1.1 ≤ B := by
    simp only [Rows.uptoBulk, Rows.uptoBulkAll] at hB
    omega
  obtain ⟨A, n, c, rfl⟩ := slice_shape Tryz.underlying22 hy0
  obtain ⟨B', m, e, rfl⟩ := slice_shape Tryz.underlying23 hy1
  obtain ⟨hn, L, hL, hs, _⟩ := open_sl_ints_upto Tryz.underlying22 Tryz.underlying3 (by kernel_rfl) hy0 hB'.1
  obtain ⟨hm, _⟩ := open_sl_upto (s := 2) (by kernel_rfl) (by omega) Tryz.underlying23 hy1 hB'.2
  obtain ⟨_, E, hE, ht, _⟩ := open_sl_pairs Tryz.underlying23 Tryz.underlying66 (by kernel_rfl) rfl rfl (by kernel_rfl) (by kernel_rfl) Tryz.underlying3 Tryz.underlying3 hy1
  exact ⟨A, n, c, B', m, e, L, E, rfl, hL, hn, hm, hs, ht⟩
end
end Go.Proofs.YtddedghnnkcnhaaGreatDoor
/-
  Texts plainly: cut and split at one byte, joined again; numbers as digits, there and back.
-/
namespace Go.Proofs.YtddedghnnkcnhaaGreatDoor.Tx
open Go
set_option linter.unusedVariables false

def cut1 (c : UInt8) : List UInt8 → List UInt8 × List UInt8 × Bool
  | [] => ([], [], false)
  | b :: l => if b = c then ([], l, true) else (b :: (cut1 c l).1, (cut1 c l).2.1, (cut1 c l).2.2)
theorem indexByte_split (c : UInt8) : ∀ s, Lib.indexByte s c = -1 ∨ ∃ i : Nat, Lib.indexByte s c = i := fun s => by
  have h := Lib.indexByte_ge s c
  by_cases h1 : Lib.indexByte s c = -1
  · exact .inl h1
  · exact .inr ⟨(Lib.indexByte s c).toNat, by omega⟩
theorem cut1_eq (c : UInt8) : ∀ s : List UInt8, Lib.cut s [c] = cut1 c s
  | [] => by
    unfold Lib.cut
    rw [Lib.index_one]
    rfl
  | b :: l => by
    have ih := cut1_eq c l
    unfold Lib.cut at ih ⊢
    rw [Lib.index_one] at ih ⊢
    unfold cut1
    by_cases hb : b = c
    · rw [if_pos hb]
      have e : Lib.indexByte (b :: l) c = 0 := by
        unfold Lib.indexByte
        rw [if_pos (beq_iff_eq.2 hb)]
      rw [e]
      simp
    · rw [if_neg hb, ← ih]
      have hbn : ¬ (b == c) = true := fun h => hb (beq_iff_eq.1 h)
      rcases indexByte_split c l with h | ⟨i, h⟩
      · have e : Lib.indexByte (b :: l) c = -1 := by
          unfold Lib.indexByte
          rw [if_neg hbn, h]
          rfl
        rw [e, h]
        simp
      · have e : Lib.indexByte (b :: l) c = ((i + 1 : Nat) : Int) := by
          unfold Lib.indexByte
          rw [if_neg hbn, h, if_neg (by rw [beq_iff_eq]; omega)]
          omega
        rw [e, h]
        have h0 : (0 : Int) ≤ (i : Int) + 1 := by omega
        simp [h0]
theorem cut1_none {c : UInt8} : ∀ {s : List UInt8}, c ∉ s → cut1 c s = (s, [], false)
  | [], _ => rfl
  | b :: l, h => by
    have h1 : ¬ b = c := fun e => h (by rw [e]; exact List.mem_cons_self ..)
    have h2 := cut1_none (c := c) (s := l) fun hm => h (List.mem_cons_of_mem _ hm)
    rw [cut1, if_neg h1, h2]
theorem cut1_app {c : UInt8} : ∀ {s : List UInt8} (t : List UInt8), c ∉ s → cut1 c (s ++ c :: t) = (s, t, true)
  | [], t, _ => by rw [List.nil_append, cut1, if_pos rfl]
  | b :: l, t, h => by
    have h1 : ¬ b = c := fun e => h (by rw [e]; exact List.mem_cons_self ..)
    have h2 := cut1_app (c := c) (s := l) t fun hm => h (List.mem_cons_of_mem _ hm)
    rw [List.cons_append, cut1, if_neg h1, h2]
theorem app_of_mem {c : UInt8} : ∀ {s : List UInt8}, c ∈ s → ∃ a b, s = a ++ c :: b ∧ c ∉ a
  | [], h => by cases h
  | x :: l, h => by
    by_cases hx : x = c
    · subst hx
      exact ⟨[], l, rfl, by simp⟩
    · rcases List.mem_cons.1 h with h1 | h1
      · exact absurd h1.symm hx
      · obtain ⟨a, b, e, hn⟩ := app_of_mem h1
        refine ⟨x :: a, b, by rw [e, List.cons_append], fun hm => ?_⟩
        rcases List.mem_cons.1 hm with h2 | h2
        · exact hx h2.symm
        · exact hn h2
theorem cut1_cases (c : UInt8) (s : List UInt8) : (c ∉ s ∧ cut1 c s = (s, [], false)) ∨ (∃ a b, s = a ++ c :: b ∧ c ∉ a ∧ cut1 c s = (a, b, true)) := by
  by_cases h : c ∈ s
  · right
    obtain ⟨a, b, rfl, ha⟩ := app_of_mem h
    exact ⟨a, b, rfl, ha, cut1_app b ha⟩
  · exact .inl ⟨h, cut1_none h⟩
def split1 (c : UInt8) : List UInt8 → List (List UInt8)
  | [] => [[]]
  | b :: l => if b = c then [] :: split1 c l else match split1 c l with
    | [] => [[b]]
    | x :: r => (b :: x) :: r
theorem split1_ne (c : UInt8) : ∀ s, split1 c s ≠ []
  | [] => by simp [split1]
  | b :: l => by
    unfold split1
    split
    · simp
    · split <;> simp
theorem split1_none {c : UInt8} : ∀ {s : List UInt8}, c ∉ s → split1 c s = [s]
  | [], _ => rfl
  | b :: l, h => by
    have h1 : ¬ b = c := fun e => h (by rw [e]; exact List.mem_cons_self ..)
    have h2 := split1_none (c := c) (s := l) fun hm => h (List.mem_cons_of_mem _ hm)
    rw [split1, if_neg h1, h2]
theorem split1_app {c : UInt8} : ∀ {s : List UInt8} (t : List UInt8), c ∉ s → split1 c (s ++ c :: t) = s :: split1 c t
  | [], t, _ => by rw [List.nil_append, split1, if_pos rfl]
  | b :: l, t, h => by
    have h1 : ¬ b = c := fun e => h (by rw [e]; exact List.mem_cons_self ..)
    have h2 := split1_app (c := c) (s := l) t fun hm => h (List.mem_cons_of_mem _ hm)
    rw [List.cons_append, split1, if_neg h1, h2]
theorem splitK_eq (c : UInt8) : ∀ (k : Nat) (s : List UInt8), s.count c = k → Lib.splitK [c] 0 k s = split1 c s
  | 0, s, h => by
    rw [split1_none (List.count_eq_zero.1 h)]
    rfl
  | k + 1, s, h => by
    have hc := cut1_eq c s
    rcases cut1_cases c s with ⟨h1, _⟩ | ⟨a, b, rfl, ha, hcut⟩
    · rw [List.count_eq_zero.2 h1] at h
      omega
    · rw [hcut] at hc
      unfold Lib.cut at hc
      unfold Lib.splitK
      have ih := splitK_eq c k b (by
        rw [List.count_append, List.count_eq_zero.2 ha, List.count_cons_self] at h
        omega)
      by_cases h0 : 0 ≤ Lib.index (a ++ c :: b) [c]
      · rw [if_pos h0] at hc
        rw [if_neg (by rw [beq_iff_eq]; omega), split1_app b ha]
        simp only [Prod.mk.injEq] at hc
        rw [Nat.add_zero, hc.1, hc.2.1, ih]
      · rw [if_neg h0] at hc
        simp at hc
theorem split_eq (c : UInt8) (s : ByteArray) : (Lib.splitB ⟨#[c]⟩ 0 (Lib.countB s ⟨#[c]⟩) s).map (·.data.toList) = split1 c s.data.toList := by
  rw [Lib.splitB_data]
  refine splitK_eq c _ _ ?_
  have h := Lib.count_one c s.data.toList
  exact h.symm
theorem join_split (c : UInt8) : ∀ s : List UInt8, Lib.join (split1 c s) [c] = s
  | [] => by rw [split1, Lib.join_one]
  | b :: l => by
    have ih := join_split c l
    unfold split1
    by_cases hb : b = c
    · rw [if_pos hb]
      cases hs : split1 c l with
      | nil => exact absurd hs (split1_ne c l)
      | cons x r =>
        rw [hs, Lib.join_cons] at ih
        rw [Lib.join_cons, List.nil_append, Lib.joinTail, List.map_cons, List.flatten_cons, hb]
        unfold Lib.joinTail at ih
        rw [List.append_assoc, ih]
        rfl
    · rw [if_neg hb]
      cases hs : split1 c l with
      | nil => exact absurd hs (split1_ne c l)
      | cons x r =>
        rw [hs, Lib.join_cons] at ih
        show Lib.join ((b :: x) :: r) [c] = b :: l
        rw [Lib.join_cons, List.cons_append, ih]
theorem split_join (c : UInt8) : ∀ (x : List UInt8) (r : List (List UInt8)), c ∉ x → (∀ y ∈ r, c ∉ y) → split1 c (Lib.join (x :: r) [c]) = x :: r
  | x, [], hx, _ => by rw [Lib.join_one, split1_none hx]
  | x, y :: r, hx, hr => by
    have ih := split_join c y r (hr y (List.mem_cons_self ..)) fun z hz => hr z (List.mem_cons_of_mem _ hz)
    rw [Lib.join_cons] at ih ⊢
    rw [Lib.joinTail, List.map_cons, List.flatten_cons, List.append_assoc]
    unfold Lib.joinTail at ih
    show split1 c (x ++ c :: (y ++ _)) = _
    rw [split1_app _ hx, ih]

theorem parse_app : ∀ (l r : List UInt8) (acc : Nat), Lib.parseUint10 acc (l ++ r) = match Lib.parseUint10 acc l with
    | .ok a => Lib.parseUint10 a r
    | e => e
  | [], r, acc => rfl
  | b :: l, r, acc => by
    rw [List.cons_append]
    simp only [Lib.parseUint10]
    split
    · split
      · rfl
      · split
        · rfl
        · exact parse_app l r _
    · rfl
theorem digit_nat {d : Nat} (h : d < 10) : (UInt8.ofNat (48 + d)).toNat = 48 + d := by
  rw [UInt8.toNat_ofNat']
  omega
theorem parse_dec : ∀ u : Nat, u < 18446744073709551616 → Lib.parseUint10 0 (Lib.decDigits u) = .ok u := by
  intro u
  induction u using Nat.strongRecOn with
  | ind u ih =>
    intro hu
    by_cases h : u < 10
    · rw [Lib.decDigits, dif_pos h]
      unfold Lib.parseUint10 Lib.parseUint10
      rw [digit_nat h, if_pos (by omega), if_neg (by omega), if_neg (by omega)]
      congr 1
      omega
    · have h2 := ih (u / 10) (by omega) (by omega)
      rw [Lib.decDigits, dif_neg h, parse_app, h2]
      show Lib.parseUint10 (u / 10) [UInt8.ofNat (48 + u % 10)] = _
      unfold Lib.parseUint10 Lib.parseUint10
      rw [digit_nat (Nat.mod_lt _ (by omega)), if_pos (by omega), if_neg (by omega), if_neg (by omega)]
      congr 1
      omega
theorem dec_ne (u : Nat) : Lib.decDigits u ≠ [] := by
  by_cases h : u < 10
  · rw [Lib.decDigits, dif_pos h]; simp
  · rw [Lib.decDigits, dif_neg h]; simp
theorem dec_digit : ∀ (u : Nat), ∀ b ∈ Lib.decDigits u, 48 ≤ b.toNat ∧ b.toNat ≤ 57 := by
  intro u
  induction u using Nat.strongRecOn with
  | ind u ih =>
    intro b hb
    by_cases h : u < 10
    · rw [Lib.decDigits, dif_pos h] at hb
      rw [List.mem_singleton.1 hb, digit_nat h]
      omega
    · rw [Lib.decDigits, dif_neg h] at hb
      rcases List.mem_append.1 hb with hb | hb
      · exact ih _ (by omega) b hb
      · rw [List.mem_singleton.1 hb, digit_nat (Nat.mod_lt _ (by omega))]
        omega
/-- The digits of a number are parsed as it. -/
theorem atoi_dec {u : Nat} (h : u ≤ 9223372036854775807) : Lib.atoiAll (Lib.decDigits u) = .ok (u : Int) := by
  have hp := parse_dec u (by omega)
  have hd := dec_digit u
  cases he : Lib.decDigits u with
  | nil => exact absurd he (dec_ne u)
  | cons c r =>
    rw [he] at hp hd
    have hc := hd c (List.mem_cons_self ..)
    unfold Lib.atoiAll
    simp only
    rw [if_neg (show ¬ (c.toNat = 43 ∨ c.toNat = 45) by omega)]
    unfold Lib.parseMag
    rw [if_neg (by simp), hp]
    simp only
    rw [if_neg (by omega), if_neg (by omega), if_neg (by omega)]
/-- The digits that a number's text is, no more than so many of them. -/
theorem itoa_nat (u : Nat) : Lib.itoa (u : Int) = Lib.decDigits u := by
  unfold Lib.itoa
  rw [if_neg (by omega), Int.toNat_natCast]
theorem dec_inj {u v : Nat} (hu : u ≤ 9223372036854775807) (hv : v ≤ 9223372036854775807) (h : Lib.decDigits u = Lib.decDigits v) : u = v := by
  have h1 := atoi_dec hu
  rw [h, atoi_dec hv] at h1
  injection h1 with h1
  omega
theorem dec_len_lt : ∀ (k u : Nat), 1 ≤ k → ((Lib.decDigits u).length ≤ k ↔ u < 10 ^ k)
  | 0, u, h => by omega
  | k + 1, u, _ => by
    by_cases h : u < 10
    · rw [Lib.decDigits, dif_pos h]
      have : 10 ^ 1 ≤ 10 ^ (k + 1) := Nat.pow_le_pow_right (by omega) (by omega)
      simp
      omega
    · rw [Lib.decDigits, dif_neg h, List.length_append, List.length_singleton]
      rcases Nat.eq_zero_or_pos k with hk | hk
      · subst hk
        have := List.length_pos_iff.2 (dec_ne (u / 10))
        omega
      · have ih := dec_len_lt k (u / 10) hk
        rw [Nat.pow_succ]
        omega
end Go.Proofs.YtddedghnnkcnhaaGreatDoor.Tx
/-
  strings.Cut, strings.Split, strconv.Atoi, slices.Index at strings, out of the library's shelf, laid over this seat's translation; the variables that they read.
-/
namespace Go.Proofs.YtddedghnnkcnhaaGreatDoor
open Go.Shelf Go.RowKit
set_option linter.unusedVariables false
def lay145_ren : Go.Shelf.Ren := ⟨fun | 145 => 114 | 217 => 247 | 219 => 221 | 220 => 176 | 224 => 249 | 225 => 248 | 266 => 265 | 267 => 250 | 314 => 266 | n => n, fun | 3 => 3 | 4 => 4 | 5 => 5 | 9 => 9 | 46 => 221 | 51 => 211 | 59 => 164 | 146 => 319 | n => n, fun | 1 => 1 | n => n⟩
theorem lay145 : Go.Proofs.Lays.n145 Tryz.prog lay145_ren := {
  mixed := by kernel_rfl
  f145 := Tryz.func114.trans (congrArg some (by kernel_rfl))
  f217 := Tryz.func247.trans (congrArg some (by kernel_rfl))
  f219 := Tryz.func221.trans (congrArg some (by kernel_rfl))
  f220 := Tryz.func176.trans (congrArg some (by kernel_rfl))
  f224 := Tryz.func249.trans (congrArg some (by kernel_rfl))
  f225 := Tryz.func248.trans (congrArg some (by kernel_rfl))
  f266 := Tryz.func265.trans (congrArg some (by kernel_rfl))
  f267 := Tryz.func250.trans (congrArg some (by kernel_rfl))
  f314 := Tryz.func266.trans (congrArg some (by kernel_rfl))
  t3 := Tryz.underlying3
  a3 := Tryz.isAgg3
  z3 := Tryz.sizeOf3
  v3 := Tryz.zeroValue3
  t4 := Tryz.underlying4
  a4 := Tryz.isAgg4
  z4 := Tryz.sizeOf4
  v4 := Tryz.zeroValue4
  t5 := Tryz.underlying5
  a5 := Tryz.isAgg5
  z5 := Tryz.sizeOf5
  v5 := Tryz.zeroValue5
  t9 := Tryz.underlying9
  a9 := Tryz.isAgg9
  z9 := Tryz.sizeOf9
  v9 := Tryz.zeroValue9
  t46 := Tryz.underlying221
  a46 := Tryz.isAgg221
  z46 := Tryz.sizeOf221
  v46 := Tryz.zeroValue221
  t51 := Tryz.underlying211
  a51 := Tryz.isAgg211
  z51 := Tryz.sizeOf211
  v51 := Tryz.zeroValue211
  t59 := Tryz.underlying164
  a59 := Tryz.isAgg164
  z59 := Tryz.sizeOf164
  v59 := Tryz.zeroValue164
  t146 := Tryz.underlying319
  a146 := Tryz.isAgg319
  z146 := Tryz.sizeOf319
  v146 := Tryz.zeroValue319
  g1 := by kernel_rfl }
def lay146_ren : Go.Shelf.Ren := ⟨fun | 138 => 225 | 143 => 226 | 146 => 142 | 195 => 253 | 197 => 254 | 217 => 247 | 218 => 255 | 219 => 221 | 221 => 190 | 224 => 249 | 225 => 248 | 260 => 272 | 266 => 265 | 267 => 250 | 268 => 224 | 314 => 266 | n => n, fun | 0 => 0 | 3 => 3 | 4 => 4 | 5 => 5 | 9 => 9 | 21 => 21 | 31 => 83 | 46 => 221 | 51 => 211 | 105 => 308 | 119 => 338 | 138 => 340 | 139 => 341 | 146 => 319 | n => n, fun | 1 => 1 | 3 => 5 | 4 => 6 | n => n⟩
theorem lay146 : Go.Proofs.Lays.n146 Tryz.prog lay146_ren := {
  mixed := by kernel_rfl
  f138 := Tryz.func225.trans (congrArg some (by kernel_rfl))
  f143 := Tryz.func226.trans (congrArg some (by kernel_rfl))
  f146 := Tryz.func142.trans (congrArg some (by kernel_rfl))
  f195 := Tryz.func253.trans (congrArg some (by kernel_rfl))
  f197 := Tryz.func254.trans (congrArg some (by kernel_rfl))
  f217 := Tryz.func247.trans (congrArg some (by kernel_rfl))
  f218 := Tryz.func255.trans (congrArg some (by kernel_rfl))
  f219 := Tryz.func221.trans (congrArg some (by kernel_rfl))
  f221 := Tryz.func190.trans (congrArg some (by kernel_rfl))
  f224 := Tryz.func249.trans (congrArg some (by kernel_rfl))
  f225 := Tryz.func248.trans (congrArg some (by kernel_rfl))
  f260 := Tryz.func272.trans (congrArg some (by kernel_rfl))
  f266 := Tryz.func265.trans (congrArg some (by kernel_rfl))
  f267 := Tryz.func250.trans (congrArg some (by kernel_rfl))
  f268 := Tryz.func224.trans (congrArg some (by kernel_rfl))
  f314 := Tryz.func266.trans (congrArg some (by kernel_rfl))
  t0 := Tryz.underlying0
  a0 := Tryz.isAgg0
  z0 := Tryz.sizeOf0
  v0 := Tryz.zeroValue0
  t3 := Tryz.underlying3
  a3 := Tryz.isAgg3
  z3 := Tryz.sizeOf3
  v3 := Tryz.zeroValue3
  t4 := Tryz.underlying4
  a4 := Tryz.isAgg4
  z4 := Tryz.sizeOf4
  v4 := Tryz.zeroValue4
  t5 := Tryz.underlying5
  a5 := Tryz.isAgg5
  z5 := Tryz.sizeOf5
  v5 := Tryz.zeroValue5
  t9 := Tryz.underlying9
  a9 := Tryz.isAgg9
  z9 := Tryz.sizeOf9
  v9 := Tryz.zeroValue9
  t21 := Tryz.underlying21
  a21 := Tryz.isAgg21
  z21 := Tryz.sizeOf21
  v21 := Tryz.zeroValue21
  t31 := Tryz.underlying83
  a31 := Tryz.isAgg83
  z31 := Tryz.sizeOf83
  v31 := Tryz.zeroValue83
  t46 := Tryz.underlying221
  a46 := Tryz.isAgg221
  z46 := Tryz.sizeOf221
  v46 := Tryz.zeroValue221
  t51 := Tryz.underlying211
  a51 := Tryz.isAgg211
  z51 := Tryz.sizeOf211
  v51 := Tryz.zeroValue211
  t105 := Tryz.underlying308
  a105 := Tryz.isAgg308
  z105 := Tryz.sizeOf308
  v105 := Tryz.zeroValue308
  t119 := Tryz.underlying338
  a119 := Tryz.isAgg338
  z119 := Tryz.sizeOf338
  t138 := Tryz.underlying340
  a138 := Tryz.isAgg340
  z138 := Tryz.sizeOf340
  v138 := Tryz.zeroValue340
  t139 := Tryz.underlying341
  a139 := Tryz.isAgg341
  z139 := Tryz.sizeOf341
  v139 := Tryz.zeroValue341
  t146 := Tryz.underlying319
  a146 := Tryz.isAgg319
  z146 := Tryz.sizeOf319
  v146 := Tryz.zeroValue319
  g1 := by kernel_rfl
  g3 := by kernel_rfl
  g4 := by kernel_rfl }
def lay172_ren : Go.Shelf.Ren := ⟨fun | 129 => 218 | 171 => 83 | 172 => 222 | 205 => 286 | 243 => 154 | 244 => 251 | 245 => 252 | 246 => 202 | 247 => 267 | 279 => 268 | 280 => 269 | 281 => 270 | 282 => 271 | 283 => 234 | 284 => 235 | 285 => 236 | 286 => 237 | 287 => 284 | 316 => 285 | 317 => 260 | 318 => 261 | 319 => 262 | 320 => 263 | 321 => 290 | 322 => 291 | 337 => 282 | 338 => 283 | n => n, fun | 0 => 0 | 2 => 2 | 3 => 3 | 4 => 4 | 5 => 5 | 9 => 9 | 20 => 20 | 21 => 21 | 37 => 26 | 46 => 221 | 51 => 211 | 53 => 190 | 75 => 42 | 76 => 184 | 80 => 187 | 85 => 322 | 127 => 240 | 143 => 347 | 145 => 349 | 167 => 321 | 168 => 324 | 171 => 284 | 173 => 286 | 175 => 332 | 210 => 336 | 212 => 315 | 213 => 316 | 232 => 344 | 233 => 345 | n => n, fun | 15 => 3 | 16 => 4 | 17 => 2 | 18 => 7 | 19 => 8 | n => n⟩
theorem lay172 : Go.Proofs.LaysC.n172 Tryz.prog lay172_ren := {
  mixed := by kernel_rfl
  f129 := Tryz.func218.trans (congrArg some (by kernel_rfl))
  f171 := Tryz.func83.trans (congrArg some (by kernel_rfl))
  f172 := Tryz.func222.trans (congrArg some (by kernel_rfl))
  f205 := Tryz.func286.trans (congrArg some (by kernel_rfl))
  f243 := Tryz.func154.trans (congrArg some (by kernel_rfl))
  f244 := Tryz.func251.trans (congrArg some (by kernel_rfl))
  f245 := Tryz.func252.trans (congrArg some (by kernel_rfl))
  f246 := Tryz.func202.trans (congrArg some (by kernel_rfl))
  f247 := Tryz.func267.trans (congrArg some (by kernel_rfl))
  f279 := Tryz.func268.trans (congrArg some (by kernel_rfl))
  f280 := Tryz.func269.trans (congrArg some (by kernel_rfl))
  f281 := Tryz.func270.trans (congrArg some (by kernel_rfl))
  f282 := Tryz.func271.trans (congrArg some (by kernel_rfl))
  f283 := Tryz.func234.trans (congrArg some (by kernel_rfl))
  f284 := Tryz.func235.trans (congrArg some (by kernel_rfl))
  f285 := Tryz.func236.trans (congrArg some (by kernel_rfl))
  f286 := Tryz.func237.trans (congrArg some (by kernel_rfl))
  f287 := Tryz.func284.trans (congrArg some (by kernel_rfl))
  f316 := Tryz.func285.trans (congrArg some (by kernel_rfl))
  f317 := Tryz.func260.trans (congrArg some (by kernel_rfl))
  f318 := Tryz.func261.trans (congrArg some (by kernel_rfl))
  f319 := Tryz.func262.trans (congrArg some (by kernel_rfl))
  f320 := Tryz.func263.trans (congrArg some (by kernel_rfl))
  f321 := Tryz.func290.trans (congrArg some (by kernel_rfl))
  f322 := Tryz.func291.trans (congrArg some (by kernel_rfl))
  f337 := Tryz.func282.trans (congrArg some (by kernel_rfl))
  f338 := Tryz.func283.trans (congrArg some (by kernel_rfl))
  t0 := Tryz.underlying0
  a0 := Tryz.isAgg0
  z0 := Tryz.sizeOf0
  v0 := Tryz.zeroValue0
  t2 := Tryz.underlying2
  a2 := Tryz.isAgg2
  z2 := Tryz.sizeOf2
  v2 := Tryz.zeroValue2
  t3 := Tryz.underlying3
  a3 := Tryz.isAgg3
  z3 := Tryz.sizeOf3
  v3 := Tryz.zeroValue3
  t4 := Tryz.underlying4
  a4 := Tryz.isAgg4
  z4 := Tryz.sizeOf4
  v4 := Tryz.zeroValue4
  t5 := Tryz.underlying5
  a5 := Tryz.isAgg5
  z5 := Tryz.sizeOf5
  v5 := Tryz.zeroValue5
  t9 := Tryz.underlying9
  a9 := Tryz.isAgg9
  z9 := Tryz.sizeOf9
  v9 := Tryz.zeroValue9
  t20 := Tryz.underlying20
  a20 := Tryz.isAgg20
  z20 := Tryz.sizeOf20
  v20 := Tryz.zeroValue20
  t21 := Tryz.underlying21
  a21 := Tryz.isAgg21
  z21 := Tryz.sizeOf21
  v21 := Tryz.zeroValue21
  t37 := Tryz.underlying26
  a37 := Tryz.isAgg26
  z37 := Tryz.sizeOf26
  v37 := Tryz.zeroValue26
  t46 := Tryz.underlying221
  a46 := Tryz.isAgg221
  z46 := Tryz.sizeOf221
  v46 := Tryz.zeroValue221
  t51 := Tryz.underlying211
  a51 := Tryz.isAgg211
  z51 := Tryz.sizeOf211
  v51 := Tryz.zeroValue211
  t53 := Tryz.underlying190
  a53 := Tryz.isAgg190
  z53 := Tryz.sizeOf190
  v53 := Tryz.zeroValue190
  t75 := Tryz.underlying42
  a75 := Tryz.isAgg42
  z75 := Tryz.sizeOf42
  v75 := Tryz.zeroValue42
  t76 := Tryz.underlying184
  a76 := Tryz.isAgg184
  z76 := Tryz.sizeOf184
  v76 := Tryz.zeroValue184
  t85 := Tryz.underlying322
  a85 := Tryz.isAgg322
  z85 := Tryz.sizeOf322
  v85 := Tryz.zeroValue322
  t127 := Tryz.underlying240
  a127 := Tryz.isAgg240
  z127 := Tryz.sizeOf240
  v127 := Tryz.zeroValue240
  t143 := Tryz.underlying347
  a143 := Tryz.isAgg347
  z143 := Tryz.sizeOf347
  v143 := Tryz.zeroValue347
  t145 := Tryz.underlying349
  a145 := Tryz.isAgg349
  z145 := Tryz.sizeOf349
  v145 := Tryz.zeroValue349
  t167 := Tryz.underlying321
  a167 := Tryz.isAgg321
  z167 := Tryz.sizeOf321
  v167 := Tryz.zeroValue321
  t168 := Tryz.underlying324
  a168 := Tryz.isAgg324
  z168 := Tryz.sizeOf324
  v168 := Tryz.zeroValue324
  t171 := Tryz.underlying284
  a171 := Tryz.isAgg284
  z171 := Tryz.sizeOf284
  v171 := Tryz.zeroValue284
  t173 := Tryz.underlying286
  a173 := Tryz.isAgg286
  z173 := Tryz.sizeOf286
  v173 := Tryz.zeroValue286
  t175 := Tryz.underlying332
  a175 := Tryz.isAgg332
  z175 := Tryz.sizeOf332
  v175 := Tryz.zeroValue332
  t210 := Tryz.underlying336
  a210 := Tryz.isAgg336
  z210 := Tryz.sizeOf336
  v210 := Tryz.zeroValue336
  t212 := Tryz.underlying315
  a212 := Tryz.isAgg315
  z212 := Tryz.sizeOf315
  v212 := Tryz.zeroValue315
  t213 := Tryz.underlying316
  a213 := Tryz.isAgg316
  z213 := Tryz.sizeOf316
  t232 := Tryz.underlying344
  a232 := Tryz.isAgg344
  z232 := Tryz.sizeOf344
  v232 := Tryz.zeroValue344
  t233 := Tryz.underlying345
  a233 := Tryz.isAgg345
  z233 := Tryz.sizeOf345
  v233 := Tryz.zeroValue345
  g15 := by kernel_rfl
  g16 := by kernel_rfl
  g17 := by kernel_rfl
  g18 := by kernel_rfl
  g19 := by kernel_rfl
  t80 := Tryz.underlying187
  a80 := Tryz.isAgg187
  z80 := Tryz.sizeOf187
  v80 := Tryz.zeroValue187
  i0 := by kernel_rfl
  i2 := by kernel_rfl
  i3 := by kernel_rfl
  i4 := by kernel_rfl
  i5 := by kernel_rfl
  i9 := by kernel_rfl
  i20 := by kernel_rfl
  i21 := by kernel_rfl
  i37 := by kernel_rfl
  i46 := by kernel_rfl
  i51 := by kernel_rfl
  i53 := by kernel_rfl
  i75 := by kernel_rfl
  i76 := by kernel_rfl
  i80 := by kernel_rfl
  i85 := by kernel_rfl
  i127 := by kernel_rfl
  i143 := by kernel_rfl
  i145 := by kernel_rfl
  i167 := by kernel_rfl
  i168 := by kernel_rfl
  i171 := by kernel_rfl
  i173 := by kernel_rfl
  i175 := by kernel_rfl
  i210 := by kernel_rfl
  i212 := by kernel_rfl
  i232 := by kernel_rfl
  i233 := by kernel_rfl
  m15 := by kernel_rfl
  m16 := by kernel_rfl
  m17 := by kernel_rfl
  m18 := by kernel_rfl
  m19 := by kernel_rfl
  c0 := by kernel_rfl
  c2 := by kernel_rfl
  c3 := by kernel_rfl
  c4 := by kernel_rfl
  c5 := by kernel_rfl
  c9 := by kernel_rfl
  c20 := by kernel_rfl
  c21 := by kernel_rfl
  c37 := by kernel_rfl
  c46 := by kernel_rfl
  c51 := by kernel_rfl
  c53 := by kernel_rfl
  c75 := by kernel_rfl
  c76 := by kernel_rfl
  c80 := by kernel_rfl
  c85 := by kernel_rfl
  c127 := by kernel_rfl
  c143 := by kernel_rfl
  c145 := by kernel_rfl
  c167 := by kernel_rfl
  c168 := by kernel_rfl
  c171 := by kernel_rfl
  c173 := by kernel_rfl
  c175 := by kernel_rfl
  c210 := by kernel_rfl
  c212 := by kernel_rfl
  c213 := by kernel_rfl
  c232 := by kernel_rfl
  c233 := by kernel_rfl }
def lay109_ren : Go.Shelf.Ren := ⟨fun | 109 => 146 | n => n, fun | 0 => 0 | 3 => 3 | 4 => 4 | 9 => 9 | 31 => 83 | n => n, fun n => n⟩
theorem lay109 : Go.Proofs.Lays.n109 Tryz.prog lay109_ren := {
  mixed := by kernel_rfl
  f109 := Tryz.func146.trans (congrArg some (by kernel_rfl))
  t0 := Tryz.underlying0
  a0 := Tryz.isAgg0
  z0 := Tryz.sizeOf0
  v0 := Tryz.zeroValue0
  t3 := Tryz.underlying3
  a3 := Tryz.isAgg3
  z3 := Tryz.sizeOf3
  v3 := Tryz.zeroValue3
  t4 := Tryz.underlying4
  a4 := Tryz.isAgg4
  z4 := Tryz.sizeOf4
  v4 := Tryz.zeroValue4
  t9 := Tryz.underlying9
  a9 := Tryz.isAgg9
  z9 := Tryz.sizeOf9
  v9 := Tryz.zeroValue9
  t31 := Tryz.underlying83
  a31 := Tryz.isAgg83
  z31 := Tryz.sizeOf83
  v31 := Tryz.zeroValue83 }

/-- The variables of the library that are read: whatever they hold, it is of their types. -/
structure LibW (w : World) : Prop where
  max : ∃ m, w.cell? ⟨1, 0, none⟩ = some (.int .i64 m)
  syn : ∃ ev, w.cell? ⟨3, 0, none⟩ = some ev ∧ (ev = .nilIface ∨ ∃ te pe, ev = .iface te pe)
  rng : ∃ ev, w.cell? ⟨4, 0, none⟩ = some ev ∧ (ev = .nilIface ∨ ∃ te pe, ev = .iface te pe)
theorem LibW.keep {w w' : World} (h : LibW w) (hb : Below w.heap.size w w') : LibW w' := by
  obtain ⟨⟨m, hm⟩, ⟨e1, h1, k1⟩, ⟨e2, h2, k2⟩⟩ := h
  exact ⟨⟨m, (hb.cell (World.block_lt_of_cell? _ _ hm)).trans hm⟩, ⟨e1, (hb.cell (World.block_lt_of_cell? _ _ h1)).trans h1, k1⟩, ⟨e2, (hb.cell (World.block_lt_of_cell? _ _ h2)).trans h2, k2⟩⟩
/-- Bytes as a string. -/
abbrev bz (l : List UInt8) : ByteArray := ⟨l.toArray⟩
theorem bz_data (s : ByteArray) : bz s.data.toList = s := rfl
theorem data_bz (l : List UInt8) : (bz l).data.toList = l := by simp
theorem bz_size (l : List UInt8) : (bz l).size = l.length := by
  show l.toArray.size = _
  simp
/-- strings.Cut at one byte. -/
theorem Cut_any (l : List UInt8) (c : UInt8) (w : World) (hs : l.length ≤ 1000000) (hL : LibW w) :
    Calls Tryz.prog 114 #[.string (bz l), .string ⟨#[c]⟩] w fun e w' => e = .returned (.tuple #[.string (bz (Tx.cut1 c l).1), .string (bz (Tx.cut1 c l).2.1), .bool (Tx.cut1 c l).2.2]) ∧ Below w.heap.size w w' := by
  obtain ⟨m, hm⟩ := hL.max
  refine (Any.strings_Cut lay145 (bz l) ⟨#[c]⟩ m w (by rw [bz_size]; omega) hm).mono fun e w' ⟨h1, n, h2⟩ => ⟨?_, by rw [h2]; exact bel_drewN (Below.refl _ _) n⟩
  rw [h1, data_bz]
  have e : (⟨#[c]⟩ : ByteArray).data.toList = [c] := rfl
  rw [e, Tx.cut1_eq]
/-- strings.Split at one byte. -/
theorem Split_any (l : List UInt8) (c : UInt8) (w : World) (hs : l.length ≤ 1000000) (hL : LibW w) :
    Calls Tryz.prog 142 #[.string (bz l), .string ⟨#[c]⟩] w fun e w' => e = .returned (.slice (some ⟨w.heap.size, 0, none⟩) (Tx.split1 c l).length (Tx.split1 c l).length) ∧ Sl w' 1 (some ⟨w.heap.size, 0, none⟩) (Tx.split1 c l).length ((Tx.split1 c l).map fun x => Value.string (bz x)) ∧ Below w.heap.size w w' := by
  obtain ⟨m, hm⟩ := hL.max
  have hsp := Tx.split_eq c (bz l)
  rw [data_bz] at hsp
  have hlen : (Lib.splitB ⟨#[c]⟩ 0 (Lib.countB (bz l) ⟨#[c]⟩) (bz l)).length = Lib.countB (bz l) ⟨#[c]⟩ + 1 := Lib.splitB_all ⟨#[c]⟩ (Nat.le_refl 1) 0 _ _ rfl
  have hln : (Tx.split1 c l).length = Lib.countB (bz l) ⟨#[c]⟩ + 1 := by rw [← hsp, List.length_map, hlen]
  have hvs : (Lib.splitB ⟨#[c]⟩ 0 (Lib.countB (bz l) ⟨#[c]⟩) (bz l)).map Value.string = (Tx.split1 c l).map fun x => Value.string (bz x) := by
    rw [← hsp, List.map_map]
    rfl
  refine (Any.strings_Split lay146 (by kernel_rfl) (bz l) ⟨#[c]⟩ m w (by rw [bz_size]; omega) hm (Nat.le_refl 1)).mono fun e w' ⟨h1, h2⟩ => ?_
  rw [hln]
  refine ⟨h1, ?_, by rw [h2]; exact bel_al (Below.refl _ _) _⟩
  rw [h2, hvs]
  exact Sl.newAt w _ _ _ (by rw [List.length_map, hln])
/-- strconv.Atoi. -/
theorem Atoi_any (l : List UInt8) (w : World) (hs : l.length ≤ 1000000) (hL : LibW w) :
    Calls Tryz.prog 222 #[.string (bz l)] w fun e w' => Below w.heap.size w w' ∧ ((∃ v, Lib.atoiAll l = .ok v ∧ e = .returned (.tuple #[.int .i64 v, .nilIface])) ∨ ((∀ v, Lib.atoiAll l ≠ .ok v) ∧ ∃ (z : Int) (T : TypeId) (x : Value), e = .returned (.tuple #[.int .i64 z, .iface T x]))) := by
  have hd : (bz l).data.toList = l := data_bz l
  rcases h : Lib.atoiAll l with v | _ | _
  · refine (Any.strconv_Atoi_ok lay172 (bz l) (by rw [bz_size]; omega) v (by rw [hd]; exact h) w).mono fun e w' ⟨h1, h2⟩ => ⟨?_, .inl ⟨v, rfl, h1⟩⟩
    rcases h2 with rfl | ⟨t, rfl⟩
    · exact Below.refl _ _
    · exact Lib.bytesWorld_below _ _ _
  · obtain ⟨ev, he, hk⟩ := hL.syn
    exact (Any.strconv_Atoi_syntax lay172 (bz l) (by rw [bz_size]; omega) (by rw [hd]; exact h) ev w he hk).mono fun e w' ⟨N, h1, _, _, h4⟩ => ⟨h4, .inr ⟨fun v e => (by cases e), _, _, _, h1⟩⟩
  · obtain ⟨ev, he, hk⟩ := hL.rng
    exact (Any.strconv_Atoi_range lay172 (bz l) (by rw [bz_size]; omega) (by rw [hd]; exact h) ev w he hk).mono fun e w' ⟨N, h1, _, _, h4⟩ => ⟨h4, .inr ⟨fun v e => (by cases e), _, _, _, h1⟩⟩
end Go.Proofs.YtddedghnnkcnhaaGreatDoor
