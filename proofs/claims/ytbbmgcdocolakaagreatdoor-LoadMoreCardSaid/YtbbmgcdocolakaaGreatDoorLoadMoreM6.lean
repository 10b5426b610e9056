/-
  Part 6 of the proof of LoadMore: PgB, PgC, ConfR, CfA, Chain, Chain2, WireA.
-/
import Derived.Test.YtbbmgcdocolakaaGreatDoorLoadMoreM5
import Derived.Test.YtbbmgcdocolakaaGreatDoorLoadMoreM1
import Derived.Deep.LoopGhost
set_option linter.unusedVariables false
/-
  Programs of tests: walks of number, test, Parse.
-/
namespace Go.Proofs.YtbbmgcdocolakaaGreatDoor
open Go.RowKit Go.Proofs.YtbbmgcdocolakaaGreatDoor.Pg
attribute [local go_sem ↓] Go.wp_at_zero Go.wp_at_succ
set_option maxRecDepth 100000
set_option linter.unusedVariables false

theorem split_len_le (c : UInt8) : ∀ (s x : List UInt8), x ∈ Tx.split1 c s → x.length ≤ s.length
  | [], x, h => by
    rw [Tx.split1] at h
    rw [List.mem_singleton.1 h]
    exact Nat.le_refl _
  | b :: l, x, h => by
    have ih := split_len_le c l
    unfold Tx.split1 at h
    split at h
    · rcases List.mem_cons.1 h with rfl | h
      · exact Nat.zero_le _
      · have := ih x h
        rw [List.length_cons]
        omega
    · split at h
      · rw [List.mem_singleton.1 h]
        simp
      · rename_i y r hy
        rcases List.mem_cons.1 h with rfl | h
        · have := ih y (by rw [hy]; exact List.mem_cons_self ..)
          simp only [List.length_cons]
          omega
        · have := ih x (by rw [hy]; exact List.mem_cons_of_mem _ h)
          rw [List.length_cons]
          omega
theorem cut_len_le (c : UInt8) (s : List UInt8) : (Tx.cut1 c s).1.length ≤ s.length ∧ (Tx.cut1 c s).2.1.length ≤ s.length := by
  rcases Tx.cut1_cases c s with ⟨_, h⟩ | ⟨a, b, rfl, _, h⟩
  · rw [h]; simp
  · rw [h]; simp; omega
theorem itoaB_bz (v : Int) : itoaB v = bz (Lib.itoa v) := rfl
theorem bz_beq (l m : List UInt8) : ((bz l).toList == (bz m).toList) = decide (l = m) := by
  rw [bz_toList, bz_toList]
  by_cases h : l = m
  · simp [h]
  · rw [decide_eq_false h]
    simpa using h
/-- What a number's walk answers. -/
def NumRes (o : Option Int) (w : World) (e : Ending) (w' : World) : Prop :=
  ∃ (z : Int) (b : Bool), e = .returned (.tuple #[.int .i64 z, .bool b]) ∧ Below w.heap.size w w' ∧ ((o = some z ∧ b = true) ∨ (o = none ∧ b = false))
/-- What a test's text answers. -/
def TestRes (x : List UInt8) (w : World) (e : Ending) (w' : World) : Prop :=
  ∃ (k n : Int) (b : Bool), e = .returned (.tuple #[.agg #[.int .i64 k, .int .i64 n], .bool b]) ∧ Below w.heap.size w w' ∧ ((testP x = some (k, n) ∧ b = true) ∨ (testP x = none ∧ b = false))
end Go.Proofs.YtbbmgcdocolakaaGreatDoor
/-
  Texts joined at any byte; the walk of prog.Text.
-/
namespace Go.Proofs.YtbbmgcdocolakaaGreatDoor
open Go.RowKit Go.Proofs.YtbbmgcdocolakaaGreatDoor.Pg
attribute [local go_sem ↓] Go.wp_at_zero Go.wp_at_succ
set_option maxRecDepth 100000
set_option linter.unusedVariables false

theorem tailC_len (c : UInt8) : ∀ (r : List (List UInt8)) (M : Nat), (∀ b ∈ r, b.length ≤ M) → (Lib.joinTail [c] r).length ≤ r.length * (M + 1)
  | [], M, _ => Nat.zero_le _
  | x :: r, M, h => by
    have h1 := tailC_len c r M (fun b hb => h b (List.mem_cons_of_mem _ hb))
    have h2 := h x (List.mem_cons_self ..)
    unfold Lib.joinTail at h1 ⊢
    rw [List.map_cons, List.flatten_cons, List.length_append, List.length_cons, List.length_append]
    simp only [List.length_cons, List.length_nil]
    rw [Nat.add_mul (r.length) 1 (M + 1)]
    omega
theorem joinC_len (c : UInt8) (r : List (List UInt8)) (M : Nat) (h : ∀ b ∈ r, b.length ≤ M) : (Lib.join r [c]).length ≤ r.length * (M + 1) := by
  rcases r with _ | ⟨x, r⟩
  · exact Nat.zero_le _
  · have h1 := tailC_len c r M (fun b hb => h b (List.mem_cons_of_mem _ hb))
    have h2 := h x (List.mem_cons_self ..)
    rw [Lib.join_cons, List.length_append, List.length_cons, Nat.add_mul r.length 1 (M + 1)]
    omega
theorem bz_app (l m : List UInt8) : bz l ++ bz m = bz (l ++ m) := by
  apply ByteArray.ext
  simp
theorem opL_len {o : Int × Int} (h1 : 1 ≤ o.1 ∧ o.1 ≤ 8) (h2 : i64P o.2) : (opL o).length ≤ 30 := by
  have h3 := (name_ne h1.1 h1.2).2.2.2.2
  have h4 := Lib.itoa_length_le o.2 h2.1 h2.2
  unfold opL
  rw [List.length_append]
  split
  · rw [List.length_cons]; omega
  · simp; omega
theorem own_lt {w : World} {g : Nat} {t : TypeId} {k n c m : Nat} {A : Option Addr} {xs : List Value} (h : w.ownsRow g t k (.slice A n c) m xs) {x : Addr} (hx : A = some x) : x.block < w.heap.size := by
  subst hx
  exact (h.lt x.block rfl).2
end Go.Proofs.YtbbmgcdocolakaaGreatDoor
/-
  Jobs' texts plainly: which numbers each word takes.
-/
namespace Go.Proofs.YtbbmgcdocolakaaGreatDoor.Cf
open Go Go.Proofs.YtbbmgcdocolakaaGreatDoor.Tx Go.Proofs.YtbbmgcdocolakaaGreatDoor.Pg
set_option linter.unusedVariables false

/-- A number's text, as the statement writes it. -/
def sgnL (n : Int) : List UInt8 := if n < 0 then [45, 48] else Lib.itoa n
theorem numP_neg (d : Nat) : numP d [45, 48] = none := by
  unfold numP
  split
  · rename_i v hv
    rw [if_neg]
    rintro ⟨_, h2, h3⟩
    have e : v = ((v.toNat : Nat) : Int) := by omega
    rw [e, itoa_nat] at h2
    have := dec_digit v.toNat 45 (by rw [h2]; simp)
    revert this
    decide
  · rfl
theorem numC_sgn {m n : Int} (hm : m ≤ 1000000) (h9 : n ≤ 9223372036854775807) : numC m (sgnL n) = if 1 ≤ n ∧ n ≤ m then some n else none := by
  unfold sgnL
  by_cases hn : n < 0
  · rw [if_pos hn, if_neg (by omega)]
    unfold numC
    rw [numP_neg]
  · rw [if_neg hn]
    by_cases hc : 1 ≤ n ∧ n ≤ m
    · rw [if_pos hc, numC_itoa hc.1 hc.2 hm]
    · rw [if_neg hc]
      have e : n = ((n.toNat : Nat) : Int) := by omega
      unfold numC
      rw [e, itoa_nat]
      by_cases hl : (Lib.decDigits n.toNat).length ≤ 7
      · rw [numP_dec (by omega) hl]
        simp only
        rw [if_neg (by omega)]
      · have : numP 7 (Lib.decDigits n.toNat) = none := by
          unfold numP
          rw [atoi_dec (by omega)]
          simp only
          rw [if_neg (fun h => hl h.1)]
        rw [this]
theorem sgn_no {n : Int} : (10 : UInt8) ∉ sgnL n := by
  unfold sgnL
  split
  · decide
  · exact itoa_no (by omega)
def mostK (k : Nat) : Int := if k = 0 then 8 else if k = 2 then 64 else 1000000
def wordK (k : Nat) : List UInt8 := if k = 0 then wSize else if k = 1 then wSupport else if k = 2 then wWorkers else wCap
def fieldK (k : Nat) (c : CF) : Int := if k = 0 then c.size else if k = 1 then c.sup else if k = 2 then c.wk else c.cap
/-- The lines of the statement. -/
def linesK (k : Nat) (n : Int) : List (List UInt8) :=
  [lineW wJob (jobL 3), lineW (wordK k) (sgnL n)] ++ (if k = 0 then [] else [lineW wSize [49]]) ++ (if k = 1 then [] else [lineW wSupport [49]])
theorem one_itoa : ([49] : List UInt8) = Lib.itoa 1 := by
  rw [show (1 : Int) = ((1 : Nat) : Int) from rfl, itoa_nat, Lib.decDigits_one (by omega)]
  rfl
theorem set_k {c : CF} {k : Nat} {n : Int} (hk : k < 4) (h3 : c.kind = 3) (h9 : n ≤ 9223372036854775807) (h1 : 1 ≤ n) (hm : n ≤ mostK k) : ∃ c', setC c (wordK k) (sgnL n) = some c' ∧ c'.kind = 3 ∧ fieldK k c' = n ∧ (∀ j, j < 4 → j ≠ k → fieldK j c' = fieldK j c) := by
  have hs : sgnL n = Lib.itoa n := by unfold sgnL; rw [if_neg (by omega)]
  rw [hs]
  rcases (show k = 0 ∨ k = 1 ∨ k = 2 ∨ k = 3 by omega) with rfl | rfl | rfl | rfl
  · exact ⟨_, set_size h1 hm, h3, rfl, fun j hj hne => by rcases (show j = 1 ∨ j = 2 ∨ j = 3 by omega) with rfl | rfl | rfl <;> rfl⟩
  · exact ⟨_, set_support h3 h1 hm, h3, rfl, fun j hj hne => by rcases (show j = 0 ∨ j = 2 ∨ j = 3 by omega) with rfl | rfl | rfl <;> rfl⟩
  · exact ⟨_, set_workers h1 hm, h3, rfl, fun j hj hne => by rcases (show j = 0 ∨ j = 1 ∨ j = 3 by omega) with rfl | rfl | rfl <;> rfl⟩
  · exact ⟨_, set_cap h1 hm, h3, rfl, fun j hj hne => by rcases (show j = 0 ∨ j = 1 ∨ j = 2 by omega) with rfl | rfl | rfl <;> rfl⟩
theorem set_k_no {c : CF} {k : Nat} {n : Int} (hk : k < 4) (h9 : n ≤ 9223372036854775807) (h : ¬ (1 ≤ n ∧ n ≤ mostK k)) : setC c (wordK k) (sgnL n) = none := by
  have hm : mostK k ≤ 1000000 := by unfold mostK; split <;> (try split) <;> omega
  have hn := numC_sgn (n := n) hm h9
  rw [if_neg h] at hn
  rcases (show k = 0 ∨ k = 1 ∨ k = 2 ∨ k = 3 by omega) with rfl | rfl | rfl | rfl
  · have hn : numC 8 (sgnL n) = none := hn
    show setC c wSize (sgnL n) = none
    unfold setC
    rw [if_neg (by decide), if_neg (by decide), if_neg (by decide), if_pos rfl, hn]
    rfl
  · have hn : numC 1000000 (sgnL n) = none := hn
    show setC c wSupport (sgnL n) = none
    unfold setC
    rw [if_neg (by decide), if_neg (by decide), if_pos rfl, hn]
    split <;> rfl
  · have hn : numC 64 (sgnL n) = none := hn
    show setC c wWorkers (sgnL n) = none
    unfold setC
    rw [if_neg (by decide), if_neg (by decide), if_neg (by decide), if_neg (by decide), if_pos rfl, hn]
    rfl
  · have hn : numC 1000000 (sgnL n) = none := hn
    show setC c wCap (sgnL n) = none
    unfold setC
    rw [if_neg (by decide), if_neg (by decide), if_neg (by decide), if_neg (by decide), if_neg (by decide), if_pos rfl, hn]
    rfl
theorem wordK_no {k : Nat} (hk : k < 4) : (32 : UInt8) ∉ wordK k ∧ (10 : UInt8) ∉ wordK k ∧ wordK k ∉ [wJob] ∧ wordK k ≠ wJob ∧ (k ≠ 0 → wSize ≠ wordK k) ∧ (k ≠ 1 → wSupport ≠ wordK k) := by
  rcases (show k = 0 ∨ k = 1 ∨ k = 2 ∨ k = 3 by omega) with rfl | rfl | rfl | rfl <;> decide
/-- Which numbers each word takes, and where one that it doesn't is told. -/
theorem parse_numbers {k : Nat} {n : Int} (hk : k < 4) (h9 : n ≤ 9223372036854775807) :
    (1 ≤ n ∧ n ≤ mostK k → ∃ c, parseC (tellL (linesK k n)) = .ok c ∧ fieldK k c = n) ∧ (¬ (1 ≤ n ∧ n ≤ mostK k) → ∃ w, parseC (tellL (linesK k n)) = .bad 1 w) := by
  obtain ⟨w1, w2, w3, w4, w5, w6⟩ := wordK_no hk
  have hno : ∀ l ∈ linesK k n, (10 : UInt8) ∉ l := by
    intro l hl
    unfold linesK at hl
    rw [List.mem_append, List.mem_append] at hl
    rcases hl with (hl | hl) | hl
    · rcases List.mem_cons.1 hl with rfl | hl
      · decide
      · rw [List.mem_singleton.1 hl]
        exact line_no w2 sgn_no
    · split at hl
      · cases hl
      · rw [List.mem_singleton.1 hl]; decide
    · split at hl
      · cases hl
      · rw [List.mem_singleton.1 hl]; decide
  unfold parseC
  rw [tell_nil _ hno]
  clear hno
  unfold linesK
  simp only [List.cons_append, List.nil_append]
  rw [goC_line (by simp) (by decide) (by decide) (by decide) (set_job (k := 3) (by omega) (by omega))]
  have hn1 : ¬ ((0 + 1 : Nat) ≠ 0 ↔ wordK k = wJob) := fun e => w4 (e.1 (by omega))
  constructor
  · rintro ⟨h1, hm⟩
    obtain ⟨c', hset, hk3, hf, hot⟩ := set_k (c := { CF.start with kind := 3 }) hk rfl h9 h1 hm
    rw [goC_line (by simp) w1 w3 hn1 hset]
    by_cases k0 : k = 0
    · subst k0
      rw [if_pos rfl, if_neg (by decide), List.nil_append, List.cons_append, List.nil_append, one_itoa, goC_line (by simp) (by decide) (by decide) (by decide) (set_support hk3 (by omega) (by omega)), goC, if_pos rfl]
      unfold endC
      rw [if_neg (fun e => e.elim (fun e => e (by decide)) fun e => e.2 (by decide))]
      exact ⟨_, rfl, hf⟩
    · rw [if_neg k0, List.cons_append, List.nil_append, one_itoa, List.cons_append, goC_line (by simp) (by decide) (fun e => by
        rcases List.mem_cons.1 e with e | e
        · exact w5 k0 e
        · revert e; decide) (by decide) (set_size (by omega) (by omega))]
      by_cases k1 : k = 1
      · subst k1
        rw [if_pos rfl, List.nil_append, goC, if_pos rfl]
        unfold endC
        rw [if_neg (fun e => e.elim (fun e => e (by decide)) fun e => e.2 (by decide))]
        exact ⟨_, rfl, hf⟩
      · rw [if_neg k1, List.cons_append, List.nil_append, goC_line (by simp) (by decide) (fun e => by
          rcases List.mem_cons.1 e with e | e
          · revert e; decide
          · rcases List.mem_cons.1 e with e | e
            · exact w6 k1 e
            · revert e; decide) (by decide) (set_support (c := { c' with size := 1 }) hk3 (by omega) (by omega)), goC, if_pos rfl]
        unfold endC
        rw [if_neg (fun e => e.elim (fun e => e (List.mem_cons_of_mem _ (List.mem_cons_self ..))) fun e => e.2 (List.mem_cons_self ..))]
        refine ⟨_, rfl, ?_⟩
        rcases (show k = 2 ∨ k = 3 by omega) with rfl | rfl <;> exact hf
  · intro hb
    rw [goC_fail (by split <;> split <;> simp) (show lineC _ _ _ (lineW (wordK k) (sgnL n)) = none by
      unfold lineC lineW
      rw [cut1_app _ w1]
      simp only
      rw [if_neg (fun e => e.elim (fun e => by cases e) fun e => e.elim w3 hn1)]
      exact set_k_no hk h9 hb)]
    exact ⟨_, rfl⟩
end Go.Proofs.YtbbmgcdocolakaaGreatDoor.Cf
/-
  conf: walks of names, Name, within, wrong, number, Edges.
-/
namespace Go.Proofs.YtbbmgcdocolakaaGreatDoor
open Go.RowKit Go.Proofs.YtbbmgcdocolakaaGreatDoor.Pg
attribute [local go_sem ↓] Go.wp_at_zero Go.wp_at_succ
set_option maxRecDepth 100000
set_option linter.unusedVariables false

def jobsB : List ByteArray := Cf.jobsL.map fun l => ⟨l.toArray⟩
end Go.Proofs.YtbbmgcdocolakaaGreatDoor
/-
  Chains of errors: errors.As at *api.Fault, errors.Is at a fault, errors.Unwrap, and the fault package's functions over whole chains.
-/
namespace Go.Proofs.YtbbmgcdocolakaaGreatDoor
open Go.RowKit Go.Extern.Stop Go.Stop Go.Extern

def Err.depth : Err → Nat
  | .step _ e => e.depth + 1
  | _ => 0
def Err.flt? : Err → Option (Int × Int × ByteArray)
  | .flt c a s => some (c, a, s)
  | .step _ e => e.flt?
  | _ => none
theorem Err.code_of : ∀ (E : Err), E ≠ .nil → (∀ w v, E.At w v → E.code = match E.flt? with | some (c, _, _) => c | none => -1)
  | .nil, h, _, _, _ => absurd rfl h
  | .flt _ _ _, _, _, _, _ => rfl
  | .txt _, _, _, _, _ => rfl
  | .step _ e, _, w, _, ⟨_, v', _, _, h3, h4⟩ => Err.code_of e h4 w v' h3
theorem Err.at_of : ∀ (E : Err), E.at_ = match E.flt? with | some (_, a, _) => a | none => 0
  | .nil => rfl
  | .flt _ _ _ => rfl
  | .txt _ => rfl
  | .step _ e => Err.at_of e

theorem fs_typeOf (v : Value) (w : World) : (ReflectliteType.typeOf #[.iface 125 v]).run Tryz.prog w = .ok (.iface 178 (.agg #[.pointer (some ⟨7, 125, none⟩)])) w := by kernel_rfl
theorem fs_assignable (w : World) : (ReflectliteType.relation "AssignableTo" ReflectliteType.assignableTo #[.agg #[.pointer (some ⟨7, 125, none⟩)], .iface 178 (.agg #[.pointer (some ⟨7, 78, none⟩)])]).run Tryz.prog w = .ok (.bool false) w := by kernel_rfl
theorem fs_noAs (v : Value) (xT : TypeId) (w : World) : (Instr.typeAssert (.iface 125 v) xT 183 true).run Tryz.prog w = .ok (.tuple #[.nilIface, .bool false]) w := run_typeAssert_lacksB Tryz.underlying183 (by kernel_rfl) (by kernel_rfl) v xT w
theorem fs_hasUnwrap (v : Value) (xT : TypeId) (w : World) : (Instr.typeAssert (.iface 125 v) xT 161 true).run Tryz.prog w = .ok (.tuple #[.iface 125 v, .bool true]) w := run_typeAssert_hasB Tryz.underlying161 (by kernel_rfl) v xT w
theorem fs_methodUnwrap (v : Value) (w : World) : (Go.method 343 125 v "Unwrap").run Tryz.prog w = .ok (164, v) w := by kernel_rfl

theorem stepUnwrap (g : Nat) (v' : Value) (w : World) (hc : w.cell? ⟨g, 1, none⟩ = some v') :
    Calls Tryz.prog 164 #[.pointer (some ⟨g, 0, none⟩)] w fun e w' => e = .returned v' ∧ w = w' := by
  go_enter Tryz.func164, Tryz.ntmps164
  go_wp2
  go_ret
  exact ⟨rfl, rfl⟩

/-- What errors.as leaves: the target is set to the chain's first fault; or the chain has none. -/
def AsPost (E : Err) (w0 w1 : World) (t : Addr) (ev : Ending) (w' : World) : Prop :=
  (∃ c a s g, E.flt? = some (c, a, s) ∧ ev = .returned (.bool true) ∧ Blk w0 g 81 #[.int .i64 c, .int .i64 a, .string s] ∧ (w1.alloc (.cells #[.pointer (some ⟨g, 0, none⟩)] 78)).setCell t (.pointer (some ⟨g, 0, none⟩)) = w') ∨
  (E.flt? = none ∧ ev = .returned (.bool false) ∧ w1 = w')

theorem Err.At.iface_ {w : World} {E : Err} {v : Value} (h : E.At w v) (hne : E ≠ .nil) : ∃ T x, v = .iface T x := by
  cases E with
  | nil => exact absurd rfl hne
  | flt c a s => obtain ⟨g, rfl, _⟩ := h; exact ⟨_, _, rfl⟩
  | step w e => obtain ⟨g, _, rfl, _⟩ := h; exact ⟨_, _, rfl⟩
  | txt s => exact h.elim

set_option maxHeartbeats 2000000 in
theorem as_any (E : Err) (v : Value) (w0 w : World) (hE : E.At w0 v) (hw : Below w0.heap.size w0 w) (hne : E ≠ .nil) (t b : Addr) (old : Value) (hb0 : w.cell? b = some (.pointer (some t))) (ht0 : w.cell? t = some old) (hf0 : w.frozen? t = false) :
    Calls Tryz.prog 92 #[v, .iface 117 (.pointer (some t)), .agg #[.pointer (some ⟨7, 117, none⟩), .pointer (some b), .int .u64 150], .iface 178 (.agg #[.pointer (some ⟨7, 78, none⟩)])] w
      (AsPost E w0 (w.alloc (.cells #[.pointer (some ⟨7, 117, none⟩), .pointer (some b), .int .u64 150] 148)) t) := by
  have h83 := @run_callFunc_extern Tryz.prog 89 _ (fun args => ReflectliteValue.unpack (args.getD 0 (.tuple #[]))) Tryz.func89 (by kernel_rfl) (by kernel_rfl) (by kernel_rfl) (by kernel_rfl)
  have h87 := @run_callFunc_extern Tryz.prog 118 _ ReflectliteType.typeOf Tryz.func118 (by kernel_rfl) (by kernel_rfl) (by kernel_rfl) (by kernel_rfl)
  have h125 := @run_callFunc_extern Tryz.prog 169 _ (ReflectliteType.relation "AssignableTo" ReflectliteType.assignableTo) Tryz.func169 (by kernel_rfl) (by kernel_rfl) (by kernel_rfl) (by kernel_rfl)
  have h95 := @run_callFunc_extern Tryz.prog 119 _ (ReflectliteValue.method (ReflectliteValue.valueError "reflectlite.Value.Elem" 0) ReflectliteValue.elem) Tryz.func119 (by kernel_rfl) (by kernel_rfl) (by kernel_rfl) (by kernel_rfl)
  have h96 := @run_callFunc_extern Tryz.prog 120 _ ReflectliteValue.set Tryz.func120 (by kernel_rfl) (by kernel_rfl) (by kernel_rfl) (by kernel_rfl)
  have tO := fx_typeOf
  have mA := fx_methodAssignableTo
  have aP := fx_assignable
  have vP := fx_valueOfP
  have tS := fs_typeOf
  have aS := fs_assignable
  have nS := fs_noAs
  have uS := fs_hasUnwrap
  have mS := fs_methodUnwrap
  have htl := World.block_lt_of_cell? w t ht0
  have hbl := World.block_lt_of_cell? w b hb0
  have el := fx_elemV b t (w.alloc (.cells #[.pointer (some ⟨7, 117, none⟩), .pointer (some b), .int .u64 150] 148)) (by rw [World.cell?_alloc_lt _ _ b hbl]; exact hb0)
  have st := fun e => fx_set t ⟨w.heap.size + 1, 0, none⟩ e old ((w.alloc (.cells #[.pointer (some ⟨7, 117, none⟩), .pointer (some b), .int .u64 150] 148)).alloc (.cells #[.pointer (some e)] 78))
    (by rw [World.cell?_alloc_at _ _ _ _ (by simp)]; rfl)
    (by rw [World.cell?_alloc_lt _ _ t (by simp; omega), World.cell?_alloc_lt _ _ t htl]; exact ht0)
    (by rw [World.frozen?_alloc_old _ _ t (by simp; omega), World.frozen?_alloc_old _ _ t (Nat.ne_of_lt htl)]; exact hf0)
  have HB := Lib.hid (bel_al hw (.cells #[.pointer (some ⟨7, 117, none⟩), .pointer (some b), .int .u64 150] 148))
  clear hb0 ht0 hf0 hw
  go_enter Tryz.func92, Tryz.ntmps92
  go_wp2
  go_loopg [0] E.depth (fun k e wr => ∃ E' : Err, E'.At w0 e ∧ E'.depth = k ∧ Hid (E'.flt? = E.flt?) ∧ E' ≠ .nil ∧ wr = w.alloc (.cells #[.pointer (some ⟨7, 117, none⟩), .pointer (some b), .int .u64 150] 148))
  case atStart => exact ⟨E, hE, rfl, rfl, hne, rfl⟩
  case round =>
    obtain ⟨E', hE', hk, HE, hne', rfl⟩ := hrel
    clear hE hne
    cases E' with
    | nil => exact absurd rfl hne'
    | flt c a s =>
      obtain ⟨g, rfl, hblk⟩ := hE'
      have st' := st ⟨g, 0, none⟩
      have HK := Lib.hid hblk
      clear hblk st
      go_wp2
      go_ret
      exact .inl ⟨c, a, s, g, HE.out.symm, rfl, HK.out, rfl⟩
    | txt s => exact hE'.elim
    | step word e =>
      obtain ⟨g, v', rfl, hblk, hv', hnn⟩ := hE'
      have hc1 := (hblk.keep HB.out).cell 1
      simp at hc1
      have HV := Lib.hid hv'
      have HU := Lib.hid (stepUnwrap g v' _ hc1)
      obtain ⟨T, x, rfl⟩ := Err.At.iface_ hv' hnn
      have HK := Lib.hid hk
      have HN := Lib.hid hnn
      clear hblk st hv' hk hc1 hnn hne'
      go_wp2_with (go_at_call 164; refine HU.out.mono ?_; rintro ev w' ⟨rfl, rfl⟩)
      go_roundg e.depth
      case measure => have := HK.out; simp only [Err.depth] at this; omega
      case rel => exact ⟨e, HV.out, rfl, HE.out, HN.out, rfl⟩
end Go.Proofs.YtbbmgcdocolakaaGreatDoor
/-
  The fault package over whole chains: errors.As, fault.fault, fault.Code, fault.At.
-/
namespace Go.Proofs.YtbbmgcdocolakaaGreatDoor
open Go.RowKit Go.Extern.Stop Go.Stop Go.Extern

set_option maxHeartbeats 2000000 in
theorem As_any (E : Err) (v : Value) (w0 w : World) (hE : E.At w0 v) (hw : Below w0.heap.size w0 w) (hne : E ≠ .nil) (t : Addr) (old : Value) (hg : w.cell? ⟨0, 0, none⟩ = some (.iface 178 (.agg #[.pointer (some ⟨7, 34, none⟩)]))) (ht0 : w.cell? t = some old) (hf0 : w.frozen? t = false) :
    Calls Tryz.prog 66 #[v, .iface 117 (.pointer (some t))] w fun ev w' => ∃ W W1, AsPost E w0 W1 t ev w' ∧ W = ((w.alloc (.cells #[.pointer (some t)] 117)).alloc (.cells #[.pointer (some ⟨7, 117, none⟩), .pointer (some ⟨w.heap.size, 0, none⟩), .int .u64 150] 148)) ∧ W1 = W.alloc (.cells #[.pointer (some ⟨7, 117, none⟩), .pointer (some ⟨w.heap.size, 0, none⟩), .int .u64 150] 148) := by
  have h83 := @run_callFunc_extern Tryz.prog 89 _ (fun args => ReflectliteValue.unpack (args.getD 0 (.tuple #[]))) Tryz.func89 (by kernel_rfl) (by kernel_rfl) (by kernel_rfl) (by kernel_rfl)
  have h84 := @run_callFunc_extern Tryz.prog 90 _ (ReflectliteValue.methodAny (ReflectliteValue.valueError "reflectlite.Value.Type" 0) (fun t _ _ _ => ReflectliteType.toType t)) Tryz.func90 (by kernel_rfl) (by kernel_rfl) (by kernel_rfl) (by kernel_rfl)
  have h85 := @run_callFunc_extern Tryz.prog 91 _ (ReflectliteValue.method (ReflectliteValue.valueError "reflectlite.Value.IsNil" 0) ReflectliteValue.isNil) Tryz.func91 (by kernel_rfl) (by kernel_rfl) (by kernel_rfl) (by kernel_rfl)
  have h112 := @run_callFunc_extern Tryz.prog 157 _ (ReflectliteType.abiMethod fun t => do pure (.int .u8 (← Rtype.kind t))) Tryz.func157 (by kernel_rfl) (by kernel_rfl) (by kernel_rfl) (by kernel_rfl)
  have h127 := @run_callFunc_extern Tryz.prog 171 _ (ReflectliteType.method ReflectliteType.elem) Tryz.func171 (by kernel_rfl) (by kernel_rfl) (by kernel_rfl) (by kernel_rfl)
  have h128 := @run_callFunc_extern Tryz.prog 172 _ (ReflectliteType.relation "Implements" ReflectliteType.implements_) Tryz.func172 (by kernel_rfl) (by kernel_rfl) (by kernel_rfl) (by kernel_rfl)
  have f83 := fx_valueOf
  have f84 := fx_type
  have mK := fx_methodKind
  have mE := fx_methodElem
  have mI := fx_methodImplements
  have kPP := fx_kindPP
  have kP := fx_kindP
  have eP := fx_elem
  have iP := fx_implements
  have hlt : 0 < w.heap.size := World.block_lt_of_cell? w _ hg
  have htl := World.block_lt_of_cell? w t ht0
  have n8 := fx_isNil ⟨w.heap.size, 0, none⟩ t ((w.alloc (.cells #[.pointer (some t)] 117)).alloc (.cells #[.pointer (some ⟨7, 117, none⟩), .pointer (some ⟨w.heap.size, 0, none⟩), .int .u64 150] 148)) (by simp)
  have hg2 : ((w.alloc (.cells #[.pointer (some t)] 117)).alloc (.cells #[.pointer (some ⟨7, 117, none⟩), .pointer (some ⟨w.heap.size, 0, none⟩), .int .u64 150] 148)).cell? ⟨0, 0, none⟩ = some (.iface 178 (.agg #[.pointer (some ⟨7, 34, none⟩)])) := by
    rw [World.cell?_alloc_lt _ _ ⟨0, 0, none⟩ (by simp <;> omega), World.cell?_alloc_lt _ _ ⟨0, 0, none⟩ hlt]; exact hg
  have hin := as_any E v w0 ((w.alloc (.cells #[.pointer (some t)] 117)).alloc (.cells #[.pointer (some ⟨7, 117, none⟩), .pointer (some ⟨w.heap.size, 0, none⟩), .int .u64 150] 148)) hE (bel_al (bel_al hw _) _) hne t ⟨w.heap.size, 0, none⟩ old
    (by rw [World.cell?_alloc_lt _ _ ⟨w.heap.size, 0, none⟩ (by simp)]; simp)
    (by rw [World.cell?_alloc_lt _ _ t (by simp; omega), World.cell?_alloc_lt _ _ t htl]; exact ht0)
    (by rw [World.frozen?_alloc_old _ _ t (by simp; omega), World.frozen?_alloc_old _ _ t (Nat.ne_of_lt htl)]; exact hf0)
  have HIN := Lib.hid hin
  obtain ⟨T, x, rfl⟩ := Err.At.iface_ hE hne
  clear hin hE hne ht0 hf0 hw
  go_enter Tryz.func66, Tryz.ntmps66
  go_wp2_with (go_at_call 92; refine HIN.out.mono ?_)
  intro ev w' hp
  have HP := Lib.hid hp
  rcases hp with ⟨c, a, s, g, h1, rfl, h2, rfl⟩ | ⟨h1, rfl, rfl⟩
  · clear h1 h2
    go_wp2
    go_ret
    exact ⟨_, _, HP.out, rfl, rfl⟩
  · clear h1
    go_wp2
    go_ret
    exact ⟨_, _, HP.out, rfl, rfl⟩

/-- What errors.As leaves, its target the one cell t. -/
def AsDone (E : Err) (w0 w : World) (t : Addr) (old : Value) (ev : Ending) (w' : World) : Prop :=
  Below t.block w w' ∧
  ((∃ c a s g, E.flt? = some (c, a, s) ∧ ev = .returned (.bool true) ∧ Blk w0 g 81 #[.int .i64 c, .int .i64 a, .string s] ∧ w'.cell? t = some (.pointer (some ⟨g, 0, none⟩))) ∨
   (E.flt? = none ∧ ev = .returned (.bool false) ∧ w'.cell? t = some old))

theorem As_done (E : Err) (v : Value) (w0 w : World) (hE : E.At w0 v) (hw : Below w0.heap.size w0 w) (t : Addr) (old : Value) (hg : ErrT w) (ht0 : w.cell? t = some old) (hf0 : w.frozen? t = false) :
    Calls Tryz.prog 66 #[v, .iface 117 (.pointer (some t))] w (AsDone E w0 w t old) := by
  have htl := World.block_lt_of_cell? w t ht0
  by_cases hne : E = .nil
  · subst hne
    obtain rfl : v = .nilIface := hE
    refine (as_nil _ _).mono ?_
    rintro ev w' ⟨rfl, rfl⟩
    exact ⟨Below.refl _ _, .inr ⟨rfl, rfl, ht0⟩⟩
  · refine (As_any E v w0 w hE hw hne t old hg ht0 hf0).mono ?_
    rintro ev w' ⟨W, W1, hp, hW, hW1⟩
    have hb : Below w.heap.size w W1 := by rw [hW1, hW]; exact bel_al (bel_al (bel_al (Below.refl _ _) _) _) _
    have hc : W1.cell? t = some old := (hb.cell htl).trans ht0
    rcases hp with ⟨c, a, s, g, h1, rfl, h2, rfl⟩ | ⟨h1, rfl, rfl⟩
    · refine ⟨((bel_al hb _).mono (Nat.le_of_lt htl)).setCell (Nat.le_refl _) _, .inl ⟨c, a, s, g, h1, rfl, h2, ?_⟩⟩
      exact World.cell?_setCell_same _ _ _ (((bel_al hb _).cell htl).trans ht0)
    · exact ⟨hb.mono (Nat.le_of_lt htl), .inr ⟨h1, rfl, hc⟩⟩

/-- fault.fault: a pointer to the chain's first fault, or none. -/
def FaultPost (E : Err) (w : World) (ev : Ending) (w' : World) : Prop :=
  Below w.heap.size w w' ∧
  ((∃ c a s g, E.flt? = some (c, a, s) ∧ ev = .returned (.pointer (some ⟨g, 0, none⟩)) ∧ Blk w' g 81 #[.int .i64 c, .int .i64 a, .string s]) ∨ (E.flt? = none ∧ ev = .returned (.pointer none)))

theorem fault_any (E : Err) (v : Value) (w : World) (hE : E.At w v) (hg : ErrT w) : Calls Tryz.prog 37 #[v] w (FaultPost E w) := by
  have hb0 := bel_al (Below.refl w.heap.size w) (.cells #[.pointer none] 78)
  have HA := Lib.hid (As_done E v w _ hE hb0 ⟨w.heap.size, 0, none⟩ (.pointer none) (hg.keep hb0) (by simp) (by simp))
  have HE := Lib.hid hE
  clear hE hb0
  go_enter Tryz.func37, Tryz.ntmps37
  go_wp2_with (go_at_call 66; refine HA.out.mono ?_)
  rintro ev w' ⟨hb, hp⟩
  have hb' : Below w.heap.size w w' := (bel_al (Below.refl _ _) _).trans hb
  rcases hp with ⟨c, a, s, g, h1, rfl, h2, h3⟩ | ⟨h1, rfl, h3⟩
  · have H1 := Lib.hid h1
    have H2 := Lib.hid h2
    clear h1 h2
    go_wp2
    go_ret
    exact ⟨hb', .inl ⟨c, a, s, g, H1.out, rfl, H2.out.keep hb'⟩⟩
  · have H1 := Lib.hid h1
    clear h1
    go_wp2
    go_ret
    exact ⟨hb', .inr ⟨H1.out, rfl⟩⟩

theorem Code_any (E : Err) (v : Value) (w : World) (hE : E.At w v) (hg : ErrT w) :
    Calls Tryz.prog 15 #[v] w fun e w' => e = .returned (.int .i64 E.code) ∧ Below w.heap.size w w' := by
  by_cases hne : E = .nil
  · subst hne
    obtain rfl : v = .nilIface := hE
    refine (Code_nil w).mono ?_
    rintro e w' ⟨rfl, rfl⟩
    exact ⟨rfl, Below.refl _ _⟩
  · have hcode := Err.code_of E hne w v hE
    have HC := Lib.hid hcode
    have HA := Lib.hid (fault_any E v w hE hg)
    obtain ⟨T, x, rfl⟩ := Err.At.iface_ hE hne
    clear hE hcode hne
    go_enter Tryz.func15, Tryz.ntmps15
    go_wp2_with (go_at_call 37; refine HA.out.mono ?_)
    rintro ev w' ⟨hb, hp⟩
    rcases hp with ⟨c, a, s, g, h1, rfl, h2⟩ | ⟨h1, rfl⟩
    · have H1 := Lib.hid h1
      have hc0 := h2.cell 0
      simp at hc0
      clear h1 h2
      go_wp2
      go_ret
      exact ⟨by rw [HC.out, H1.out]; rfl, hb⟩
    · have H1 := Lib.hid h1
      clear h1
      go_wp2
      go_ret
      exact ⟨by rw [HC.out, H1.out]; rfl, hb⟩

theorem At_any (E : Err) (v : Value) (w : World) (hE : E.At w v) (hg : ErrT w) :
    Calls Tryz.prog 16 #[v] w fun e w' => e = .returned (.int .i64 E.at_) ∧ Below w.heap.size w w' := by
  have HC := Lib.hid (Err.at_of E)
  have HA := Lib.hid (fault_any E v w hE hg)
  clear hE
  go_enter Tryz.func16, Tryz.ntmps16
  go_wp2_with (go_at_call 37; refine HA.out.mono ?_)
  rintro ev w' ⟨hb, hp⟩
  rcases hp with ⟨c, a, s, g, h1, rfl, h2⟩ | ⟨h1, rfl⟩
  · have H1 := Lib.hid h1
    have hc0 := h2.cell 1
    simp at hc0
    clear h1 h2
    go_wp2
    go_ret
    exact ⟨by rw [HC.out, H1.out]; rfl, hb⟩
  · have H1 := Lib.hid h1
    clear h1
    go_wp2
    go_ret
    exact ⟨by rw [HC.out, H1.out]; rfl, hb⟩
end Go.Proofs.YtbbmgcdocolakaaGreatDoor
/-
  Bytes, words, sums and parcels, plainly: no program in sight.
-/
namespace Go.Proofs.YtbbmgcdocolakaaGreatDoor

/-- A list of bytes. -/
def Bys (l : List Int) : Prop := ∀ x ∈ l, 0 ≤ x ∧ x ≤ 255
theorem Bys.nil : Bys [] := fun _ h => absurd h (by simp)
theorem Bys.append {a b : List Int} (ha : Bys a) (hb : Bys b) : Bys (a ++ b) := fun x hx => (List.mem_append.1 hx).elim (ha x) (hb x)
theorem Bys.left {a b : List Int} (h : Bys (a ++ b)) : Bys a := fun x hx => h x (List.mem_append_left _ hx)
theorem Bys.right {a b : List Int} (h : Bys (a ++ b)) : Bys b := fun x hx => h x (List.mem_append_right _ hx)
theorem Bys.take {a : List Int} (h : Bys a) (k : Nat) : Bys (a.take k) := fun x hx => h x (List.mem_of_mem_take hx)
theorem Bys.drop {a : List Int} (h : Bys a) (k : Nat) : Bys (a.drop k) := fun x hx => h x (List.mem_of_mem_drop hx)
theorem Bys.cons {x : Int} {a : List Int} (h0 : 0 ≤ x) (h1 : x ≤ 255) (h : Bys a) : Bys (x :: a) := fun y hy => by
  rcases List.mem_cons.1 hy with rfl | hy
  · exact ⟨h0, h1⟩
  · exact h y hy
theorem Bys.set {a : List Int} (h : Bys a) (k : Nat) {x : Int} (h0 : 0 ≤ x) (h1 : x ≤ 255) : Bys (a.set k x) := fun y hy => by
  rcases List.mem_or_eq_of_mem_set hy with hy | rfl
  · exact h y hy
  · exact ⟨h0, h1⟩

/-- A number's 4 bytes, the highest first. -/
def wordL (n : Nat) : List Int := [((n / 16777216 % 256 : Nat) : Int), ((n / 65536 % 256 : Nat) : Int), ((n / 256 % 256 : Nat) : Int), ((n % 256 : Nat) : Int)]
theorem wordL_len (n : Nat) : (wordL n).length = 4 := rfl
theorem wordL_bys (n : Nat) : Bys (wordL n) := by
  intro x hx
  simp only [wordL, List.mem_cons, List.not_mem_nil, or_false] at hx
  rcases hx with rfl | rfl | rfl | rfl <;> omega
/-- 4 bytes as a number. -/
def wordN : List Int → Nat
  | a :: b :: c :: d :: _ => a.toNat * 16777216 + b.toNat * 65536 + c.toNat * 256 + d.toNat
  | _ => 0
theorem wordN_of {n : Nat} (h : n < 4294967296) (r : List Int) : wordN (wordL n ++ r) = n := by
  simp only [wordL, List.cons_append, List.nil_append, wordN, Int.toNat_natCast]
  omega
theorem wordN_lt : ∀ {l : List Int}, Bys l → wordN l < 4294967296
  | a :: b :: c :: d :: _, h => by
    have h1 := h a (by simp)
    have h2 := h b (by simp)
    have h3 := h c (by simp)
    have h4 := h d (by simp)
    simp only [wordN]
    omega
  | [], _ => by simp [wordN]
  | [_], _ => by simp [wordN]
  | [_, _], _ => by simp [wordN]
  | [_, _, _], _ => by simp [wordN]
theorem four : ∀ {l : List Int}, 4 ≤ l.length → ∃ a b c d, l.take 4 = [a, b, c, d] ∧ l = a :: b :: c :: d :: l.drop 4
  | a :: b :: c :: d :: r, _ => ⟨a, b, c, d, rfl, rfl⟩
  | [], h => by simp at h
  | [_], h => by simp at h
  | [_, _], h => by simp at h
  | [_, _, _], h => by simp at h
theorem wordL_of {l : List Int} (h : Bys l) (hl : 4 ≤ l.length) : wordL (wordN l) = l.take 4 := by
  obtain ⟨a, b, c, d, h4, he⟩ := four hl
  rw [he] at h
  have h1 := h a (by simp)
  have h2 := h b (by simp)
  have h3 := h c (by simp)
  have h5 := h d (by simp)
  rw [h4, he]
  simp only [wordN, wordL]
  congr 1
  · omega
  · congr 1
    · omega
    · congr 1
      · omega
      · congr 1; omega
theorem wordN_take {l : List Int} (hl : 4 ≤ l.length) : wordN (l.take 4) = wordN l := by
  obtain ⟨a, b, c, d, h4, he⟩ := four hl
  rw [h4]
  conv => rhs; rw [he]
  rfl
theorem wordN_inj {l r : List Int} (h : Bys l) (hr : Bys r) (hl : 4 ≤ l.length) (hlr : 4 ≤ r.length) (e : wordN l = wordN r) : l.take 4 = r.take 4 := by
  rw [← wordL_of h hl, ← wordL_of hr hlr, e]

/-- A byte more in a sum. -/
def sstep (s : Nat × Nat) (c : Int) : Nat × Nat := ((s.1 + c.toNat) % 65521, (s.2 + (s.1 + c.toNat) % 65521) % 65521)
def sumS (l : List Int) : Nat × Nat := l.foldl sstep (1, 0)
theorem sumS_snoc (l : List Int) (c : Int) : sumS (l ++ [c]) = sstep (sumS l) c := by simp [sumS, List.foldl_append]
theorem sumS_lt (l : List Int) : (sumS l).1 < 65521 ∧ (sumS l).2 < 65521 := by
  have : ∀ (l : List Int) (s : Nat × Nat), s.1 < 65521 → s.2 < 65521 → (l.foldl sstep s).1 < 65521 ∧ (l.foldl sstep s).2 < 65521 := by
    intro l
    induction l with
    | nil => intro s h1 h2; exact ⟨h1, h2⟩
    | cons c l ih => intro s h1 h2; exact ih _ (Nat.mod_lt _ (by omega)) (Nat.mod_lt _ (by omega))
  exact this l (1, 0) (by decide) (by decide)
/-- The sum of bytes. -/
def sumL (l : List Int) : Nat := (sumS l).2 * 65536 + (sumS l).1
theorem sumL_lt (l : List Int) : sumL l < 4294967296 := by
  have := sumS_lt l
  unfold sumL; omega
def tot : List Int → Nat
  | [] => 0
  | c :: l => c.toNat + tot l
theorem tot_append : ∀ a b, tot (a ++ b) = tot a + tot b
  | [], b => by simp [tot]
  | c :: a, b => by rw [List.cons_append, tot, tot, tot_append a b]; omega
theorem sumS_fst (l : List Int) : (sumS l).1 = (1 + tot l) % 65521 := by
  have : ∀ (l : List Int) (s : Nat × Nat), s.1 < 65521 → (l.foldl sstep s).1 = (s.1 + tot l) % 65521 := by
    intro l
    induction l with
    | nil => intro s h1; simp only [List.foldl_nil, tot]; omega
    | cons c l ih =>
      intro s h1
      rw [List.foldl_cons, ih _ (Nat.mod_lt _ (by omega)), tot]
      simp only [sstep]
      omega
  exact this l (1, 0) (by decide)
theorem sumL_fst {a b : List Int} (h : sumL a = sumL b) : (sumS a).1 = (sumS b).1 := by
  have h1 := sumS_lt a
  have h2 := sumS_lt b
  unfold sumL at h
  omega
/-- One byte turned: another sum. -/
theorem sumL_turn (a b : List Int) (x y : Int) (hx : 0 ≤ x ∧ x ≤ 255) (hy : 0 ≤ y ∧ y ≤ 255) (hne : x ≠ y) : sumL (a ++ x :: b) ≠ sumL (a ++ y :: b) := by
  intro h
  have := sumL_fst h
  rw [sumS_fst, sumS_fst, tot_append, tot_append, tot, tot] at this
  omega

/-- FWRK. -/
def fwrk : List Int := [70, 87, 82, 75]
/-- What the sum is of. -/
def preL (kind : Int) (body : List Int) : List Int := fwrk ++ kind :: (wordL body.length ++ body)
/-- A parcel. -/
def packL (kind : Int) (body : List Int) : List Int := preL kind body ++ wordL (sumL (preL kind body))
theorem preL_len (kind : Int) (body : List Int) : (preL kind body).length = body.length + 9 := by simp [preL, fwrk, wordL]
theorem packL_len (kind : Int) (body : List Int) : (packL kind body).length = body.length + 13 := by rw [packL, List.length_append, preL_len, wordL_len]
theorem preL_bys {kind : Int} {body : List Int} (hk : 0 ≤ kind ∧ kind ≤ 255) (hb : Bys body) : Bys (preL kind body) :=
  Bys.append (by unfold fwrk Bys; intro x hx; simp only [List.mem_cons, List.not_mem_nil, or_false] at hx; rcases hx with rfl | rfl | rfl | rfl <;> omega) (Bys.cons hk.1 hk.2 ((wordL_bys _).append hb))
theorem packL_bys {kind : Int} {body : List Int} (hk : 0 ≤ kind ∧ kind ≤ 255) (hb : Bys body) : Bys (packL kind body) := (preL_bys hk hb).append (wordL_bys _)

/-- What is wrong with a parcel: nothing (0), its beginning (1), its end (2), its length: too long (3), too short (4), its sum (5). -/
def unW (b : List Int) : Nat :=
  if 4 ≤ b.length ∧ b.take 4 ≠ fwrk then 1
  else if b.length < 13 then 2
  else if b.length - 13 < wordN (b.drop 5) then 3
  else if wordN (b.drop 5) < b.length - 13 then 4
  else if wordN (b.drop (9 + wordN (b.drop 5))) ≠ sumL (b.take (9 + wordN (b.drop 5))) then 5
  else 0
theorem unW_ok {b : List Int} (hb : Bys b) (h : unW b = 0) : ∃ kind body, b = packL kind body ∧ body.length = wordN (b.drop 5) ∧ b[4]? = some kind ∧ (b.drop 9).take body.length = body ∧ 0 ≤ kind ∧ kind ≤ 255 ∧ Bys body := by
  unfold unW at h
  split at h
  · omega
  split at h
  · omega
  split at h
  · omega
  split at h
  · omega
  split at h
  · omega
  rename_i h1 h2 h3 h4 h5
  have hm : b.take 4 = fwrk := Decidable.byContradiction fun e => h1 ⟨by omega, e⟩
  have hn : wordN (b.drop 5) = b.length - 13 := by omega
  have h5 : wordN (b.drop (9 + wordN (b.drop 5))) = sumL (b.take (9 + wordN (b.drop 5))) := Decidable.byContradiction h5
  have hk : b[4]? = some b[4] := List.getElem?_eq_getElem (by omega)
  have hbl : ((b.drop 9).take (b.length - 13)).length = b.length - 13 := by rw [List.length_take, List.length_drop]; omega
  have hpre : b.take (9 + wordN (b.drop 5)) = preL b[4] ((b.drop 9).take (b.length - 13)) := by
    have hw := wordL_of (hb.drop 5) (by rw [List.length_drop]; omega)
    unfold preL
    rw [hbl, ← hm, ← hn, hw, hn]
    have e1 : b.take (9 + (b.length - 13)) = b.take 9 ++ (b.drop 9).take (b.length - 13) := List.take_add ..
    have e2 : b.take 9 = b.take 5 ++ (b.drop 5).take 4 := List.take_add (i := 5) (j := 4) ..
    have e3 : b.take 5 = b.take 4 ++ [b[4]] := List.take_succ_eq_append_getElem (by omega)
    rw [e1, e2, e3]
    simp only [List.append_assoc, List.cons_append, List.nil_append]
  refine ⟨b[4], (b.drop 9).take (b.length - 13), ?_, by rw [hbl, hn], hk, by rw [hbl], (hb _ (List.getElem_mem (by omega))).1, (hb _ (List.getElem_mem (by omega))).2, (hb.drop 9).take _⟩
  unfold packL
  rw [← hpre, ← h5, wordL_of (hb.drop _) (by rw [List.length_drop]; omega)]
  have e1 : (b.drop (9 + wordN (b.drop 5))).take 4 = b.drop (9 + wordN (b.drop 5)) := List.take_of_length_le (by rw [List.length_drop]; omega)
  rw [e1, List.take_append_drop]
theorem packL_parts (kind : Int) (body : List Int) : (packL kind body).take 4 = fwrk ∧ (packL kind body).drop 5 = wordL body.length ++ (body ++ wordL (sumL (preL kind body))) ∧ (packL kind body).take (9 + body.length) = preL kind body ∧ (packL kind body).drop (9 + body.length) = wordL (sumL (preL kind body)) ∧ (packL kind body)[4]? = some kind ∧ ((packL kind body).drop 9).take body.length = body := by
  have hl := preL_len kind body
  refine ⟨rfl, ?_, ?_, ?_, rfl, ?_⟩
  · show (fwrk ++ kind :: (wordL body.length ++ body) ++ wordL (sumL (preL kind body))).drop 5 = _
    rw [List.append_assoc, List.cons_append, List.append_assoc]
    rfl
  · exact List.take_left' (by omega)
  · exact List.drop_left' (by omega)
  · show ((fwrk ++ kind :: (wordL body.length ++ body) ++ wordL (sumL (preL kind body))).drop 9).take body.length = _
    rw [List.append_assoc, List.cons_append, List.append_assoc]
    show ((body ++ wordL (sumL (preL kind body)))).take body.length = _
    exact List.take_left
theorem unW_pack (kind : Int) (body : List Int) (h : body.length < 4294967296) : unW (packL kind body) = 0 := by
  obtain ⟨h1, h2, h3, h4, _, _⟩ := packL_parts kind body
  have hl := packL_len kind body
  have hw : wordN ((packL kind body).drop 5) = body.length := by rw [h2, wordN_of h]
  unfold unW
  rw [hw, h1, h3, h4, hl]
  have hs : wordN (wordL (sumL (preL kind body))) = sumL (preL kind body) := by
    have := wordN_of (sumL_lt (preL kind body)) []
    rwa [List.append_nil] at this
  rw [hs, if_neg (by simp), if_neg (by omega), if_neg (by omega), if_neg (by omega), if_neg (by simp)]
end Go.Proofs.YtbbmgcdocolakaaGreatDoor
