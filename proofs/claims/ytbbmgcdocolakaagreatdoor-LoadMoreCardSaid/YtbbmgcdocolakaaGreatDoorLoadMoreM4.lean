/-
  Part 4 of the proof of LoadMore: TxtP, LibC, FrameM, ProgP.
-/
import Derived.Lib.SplitLaws
import Derived.Lib.CutLaws
import Derived.Lib.IndexBytes
import Derived.Lib.Join
import Derived.Lib.ItoaNum
import Derived.Lib.AtoiAll
import Derived.RowKit
import Derived.Test.YtbbmgcdocolakaaGreatDoorLoadMoreM1
import Derived.Test.YtbbmgcdocolakaaGreatDoorLoadMoreM3
import Derived.Shelf.Strings.Cut
import Derived.Shelf.Strings.Split
import Derived.Shelf.Strconv.AtoiAll
import Derived.Shelf.Slices.Turned
import Derived.Shelf.LaysM
import Derived.Shelf.LaysC
import Derived.Shelf.Vars
import Derived.Lib.SlicesS
set_option linter.unusedVariables false
/-
  Texts plainly: cut and split at one byte, joined again; numbers as digits, there and back.
-/
namespace Go.Proofs.YtbbmgcdocolakaaGreatDoor.Tx
open Go
set_option linter.unusedVariables false

def cut1 (c : UInt8) : List UInt8 → List UInt8 × List UInt8 × Bool
  | [] => ([], [], false)
  | b :: l => if b = c then ([], l, true) else (b :: (cut1 c l).1, (cut1 c l).2.1, (cut1 c l).2.2)
theorem indexByte_split (c : UInt8) : ∀ s, Lib.indexByte s c = -1 ∨ ∃ i : Nat, Lib.indexByte s c = i := fun s => by
  have h := Lib.indexByte_ge s c
  by_cases h1 : Lib.indexByte s c = -1
  · exact .inl h1
  · exact .inr ⟨(Lib.indexByte s c).toNat, by omega⟩
theorem cut1_eq (c : UInt8) : ∀ s : List UInt8, Lib.cut s [c] = cut1 c s
  | [] => by
    unfold Lib.cut
    rw [Lib.index_one]
    rfl
  | b :: l => by
    have ih := cut1_eq c l
    unfold Lib.cut at ih ⊢
    rw [Lib.index_one] at ih ⊢
    unfold cut1
    by_cases hb : b = c
    · rw [if_pos hb]
      have e : Lib.indexByte (b :: l) c = 0 := by
        unfold Lib.indexByte
        rw [if_pos (beq_iff_eq.2 hb)]
      rw [e]
      simp
    · rw [if_neg hb, ← ih]
      have hbn : ¬ (b == c) = true := fun h => hb (beq_iff_eq.1 h)
      rcases indexByte_split c l with h | ⟨i, h⟩
      · have e : Lib.indexByte (b :: l) c = -1 := by
          unfold Lib.indexByte
          rw [if_neg hbn, h]
          rfl
        rw [e, h]
        simp
      · have e : Lib.indexByte (b :: l) c = ((i + 1 : Nat) : Int) := by
          unfold Lib.indexByte
          rw [if_neg hbn, h, if_neg (by rw [beq_iff_eq]; omega)]
          omega
        rw [e, h]
        have h0 : (0 : Int) ≤ (i : Int) + 1 := by omega
        simp [h0]
theorem cut1_none {c : UInt8} : ∀ {s : List UInt8}, c ∉ s → cut1 c s = (s, [], false)
  | [], _ => rfl
  | b :: l, h => by
    have h1 : ¬ b = c := fun e => h (by rw [e]; exact List.mem_cons_self ..)
    have h2 := cut1_none (c := c) (s := l) fun hm => h (List.mem_cons_of_mem _ hm)
    rw [cut1, if_neg h1, h2]
theorem cut1_app {c : UInt8} : ∀ {s : List UInt8} (t : List UInt8), c ∉ s → cut1 c (s ++ c :: t) = (s, t, true)
  | [], t, _ => by rw [List.nil_append, cut1, if_pos rfl]
  | b :: l, t, h => by
    have h1 : ¬ b = c := fun e => h (by rw [e]; exact List.mem_cons_self ..)
    have h2 := cut1_app (c := c) (s := l) t fun hm => h (List.mem_cons_of_mem _ hm)
    rw [List.cons_append, cut1, if_neg h1, h2]
theorem app_of_mem {c : UInt8} : ∀ {s : List UInt8}, c ∈ s → ∃ a b, s = a ++ c :: b ∧ c ∉ a
  | [], h => by cases h
  | x :: l, h => by
    by_cases hx : x = c
    · subst hx
      exact ⟨[], l, rfl, by simp⟩
    · rcases List.mem_cons.1 h with h1 | h1
      · exact absurd h1.symm hx
      · obtain ⟨a, b, e, hn⟩ := app_of_mem h1
        refine ⟨x :: a, b, by rw [e, List.cons_append], fun hm => ?_⟩
        rcases List.mem_cons.1 hm with h2 | h2
        · exact hx h2.symm
        · exact hn h2
theorem cut1_cases (c : UInt8) (s : List UInt8) : (c ∉ s ∧ cut1 c s = (s, [], false)) ∨ (∃ a b, s = a ++ c :: b ∧ c ∉ a ∧ cut1 c s = (a, b, true)) := by
  by_cases h : c ∈ s
  · right
    obtain ⟨a, b, rfl, ha⟩ := app_of_mem h
    exact ⟨a, b, rfl, ha, cut1_app b ha⟩
  · exact .inl ⟨h, cut1_none h⟩
def split1 (c : UInt8) : List UInt8 → List (List UInt8)
  | [] => [[]]
  | b :: l => if b = c then [] :: split1 c l else match split1 c l with
    | [] => [[b]]
    | x :: r => (b :: x) :: r
theorem split1_ne (c : UInt8) : ∀ s, split1 c s ≠ []
  | [] => by simp [split1]
  | b :: l => by
    unfold split1
    split
    · simp
    · split <;> simp
theorem split1_none {c : UInt8} : ∀ {s : List UInt8}, c ∉ s → split1 c s = [s]
  | [], _ => rfl
  | b :: l, h => by
    have h1 : ¬ b = c := fun e => h (by rw [e]; exact List.mem_cons_self ..)
    have h2 := split1_none (c := c) (s := l) fun hm => h (List.mem_cons_of_mem _ hm)
    rw [split1, if_neg h1, h2]
theorem split1_app {c : UInt8} : ∀ {s : List UInt8} (t : List UInt8), c ∉ s → split1 c (s ++ c :: t) = s :: split1 c t
  | [], t, _ => by rw [List.nil_append, split1, if_pos rfl]
  | b :: l, t, h => by
    have h1 : ¬ b = c := fun e => h (by rw [e]; exact List.mem_cons_self ..)
    have h2 := split1_app (c := c) (s := l) t fun hm => h (List.mem_cons_of_mem _ hm)
    rw [List.cons_append, split1, if_neg h1, h2]
theorem splitK_eq (c : UInt8) : ∀ (k : Nat) (s : List UInt8), s.count c = k → Lib.splitK [c] 0 k s = split1 c s
  | 0, s, h => by
    rw [split1_none (List.count_eq_zero.1 h)]
    rfl
  | k + 1, s, h => by
    have hc := cut1_eq c s
    rcases cut1_cases c s with ⟨h1, _⟩ | ⟨a, b, rfl, ha, hcut⟩
    · rw [List.count_eq_zero.2 h1] at h
      omega
    · rw [hcut] at hc
      unfold Lib.cut at hc
      unfold Lib.splitK
      have ih := splitK_eq c k b (by
        rw [List.count_append, List.count_eq_zero.2 ha, List.count_cons_self] at h
        omega)
      by_cases h0 : 0 ≤ Lib.index (a ++ c :: b) [c]
      · rw [if_pos h0] at hc
        rw [if_neg (by rw [beq_iff_eq]; omega), split1_app b ha]
        simp only [Prod.mk.injEq] at hc
        rw [Nat.add_zero, hc.1, hc.2.1, ih]
      · rw [if_neg h0] at hc
        simp at hc
theorem split_eq (c : UInt8) (s : ByteArray) : (Lib.splitB ⟨#[c]⟩ 0 (Lib.countB s ⟨#[c]⟩) s).map (·.data.toList) = split1 c s.data.toList := by
  rw [Lib.splitB_data]
  refine splitK_eq c _ _ ?_
  have h := Lib.count_one c s.data.toList
  exact h.symm
theorem join_split (c : UInt8) : ∀ s : List UInt8, Lib.join (split1 c s) [c] = s
  | [] => by rw [split1, Lib.join_one]
  | b :: l => by
    have ih := join_split c l
    unfold split1
    by_cases hb : b = c
    · rw [if_pos hb]
      cases hs : split1 c l with
      | nil => exact absurd hs (split1_ne c l)
      | cons x r =>
        rw [hs, Lib.join_cons] at ih
        rw [Lib.join_cons, List.nil_append, Lib.joinTail, List.map_cons, List.flatten_cons, hb]
        unfold Lib.joinTail at ih
        rw [List.append_assoc, ih]
        rfl
    · rw [if_neg hb]
      cases hs : split1 c l with
      | nil => exact absurd hs (split1_ne c l)
      | cons x r =>
        rw [hs, Lib.join_cons] at ih
        show Lib.join ((b :: x) :: r) [c] = b :: l
        rw [Lib.join_cons, List.cons_append, ih]
theorem split_join (c : UInt8) : ∀ (x : List UInt8) (r : List (List UInt8)), c ∉ x → (∀ y ∈ r, c ∉ y) → split1 c (Lib.join (x :: r) [c]) = x :: r
  | x, [], hx, _ => by rw [Lib.join_one, split1_none hx]
  | x, y :: r, hx, hr => by
    have ih := split_join c y r (hr y (List.mem_cons_self ..)) fun z hz => hr z (List.mem_cons_of_mem _ hz)
    rw [Lib.join_cons] at ih ⊢
    rw [Lib.joinTail, List.map_cons, List.flatten_cons, List.append_assoc]
    unfold Lib.joinTail at ih
    show split1 c (x ++ c :: (y ++ _)) = _
    rw [split1_app _ hx, ih]

theorem parse_app : ∀ (l r : List UInt8) (acc : Nat), Lib.parseUint10 acc (l ++ r) = match Lib.parseUint10 acc l with
    | .ok a => Lib.parseUint10 a r
    | e => e
  | [], r, acc => rfl
  | b :: l, r, acc => by
    rw [List.cons_append]
    simp only [Lib.parseUint10]
    split
    · split
      · rfl
      · split
        · rfl
        · exact parse_app l r _
    · rfl
theorem digit_nat {d : Nat} (h : d < 10) : (UInt8.ofNat (48 + d)).toNat = 48 + d := by
  rw [UInt8.toNat_ofNat']
  omega
theorem parse_dec : ∀ u : Nat, u < 18446744073709551616 → Lib.parseUint10 0 (Lib.decDigits u) = .ok u := by
  intro u
  induction u using Nat.strongRecOn with
  | ind u ih =>
    intro hu
    by_cases h : u < 10
    · rw [Lib.decDigits, dif_pos h]
      unfold Lib.parseUint10 Lib.parseUint10
      rw [digit_nat h, if_pos (by omega), if_neg (by omega), if_neg (by omega)]
      congr 1
      omega
    · have h2 := ih (u / 10) (by omega) (by omega)
      rw [Lib.decDigits, dif_neg h, parse_app, h2]
      show Lib.parseUint10 (u / 10) [UInt8.ofNat (48 + u % 10)] = _
      unfold Lib.parseUint10 Lib.parseUint10
      rw [digit_nat (Nat.mod_lt _ (by omega)), if_pos (by omega), if_neg (by omega), if_neg (by omega)]
      congr 1
      omega
theorem dec_ne (u : Nat) : Lib.decDigits u ≠ [] := by
  by_cases h : u < 10
  · rw [Lib.decDigits, dif_pos h]; simp
  · rw [Lib.decDigits, dif_neg h]; simp
theorem dec_digit : ∀ (u : Nat), ∀ b ∈ Lib.decDigits u, 48 ≤ b.toNat ∧ b.toNat ≤ 57 := by
  intro u
  induction u using Nat.strongRecOn with
  | ind u ih =>
    intro b hb
    by_cases h : u < 10
    · rw [Lib.decDigits, dif_pos h] at hb
      rw [List.mem_singleton.1 hb, digit_nat h]
      omega
    · rw [Lib.decDigits, dif_neg h] at hb
      rcases List.mem_append.1 hb with hb | hb
      · exact ih _ (by omega) b hb
      · rw [List.mem_singleton.1 hb, digit_nat (Nat.mod_lt _ (by omega))]
        omega
/-- The digits of a number are parsed as it. -/
theorem atoi_dec {u : Nat} (h : u ≤ 9223372036854775807) : Lib.atoiAll (Lib.decDigits u) = .ok (u : Int) := by
  have hp := parse_dec u (by omega)
  have hd := dec_digit u
  cases he : Lib.decDigits u with
  | nil => exact absurd he (dec_ne u)
  | cons c r =>
    rw [he] at hp hd
    have hc := hd c (List.mem_cons_self ..)
    unfold Lib.atoiAll
    simp only
    rw [if_neg (show ¬ (c.toNat = 43 ∨ c.toNat = 45) by omega)]
    unfold Lib.parseMag
    rw [if_neg (by simp), hp]
    simp only
    rw [if_neg (by omega), if_neg (by omega), if_neg (by omega)]
/-- The digits that a number's text is, no more than so many of them. -/
theorem itoa_nat (u : Nat) : Lib.itoa (u : Int) = Lib.decDigits u := by
  unfold Lib.itoa
  rw [if_neg (by omega), Int.toNat_natCast]
theorem dec_inj {u v : Nat} (hu : u ≤ 9223372036854775807) (hv : v ≤ 9223372036854775807) (h : Lib.decDigits u = Lib.decDigits v) : u = v := by
  have h1 := atoi_dec hu
  rw [h, atoi_dec hv] at h1
  injection h1 with h1
  omega
theorem dec_len_lt : ∀ (k u : Nat), 1 ≤ k → ((Lib.decDigits u).length ≤ k ↔ u < 10 ^ k)
  | 0, u, h => by omega
  | k + 1, u, _ => by
    by_cases h : u < 10
    · rw [Lib.decDigits, dif_pos h]
      have : 10 ^ 1 ≤ 10 ^ (k + 1) := Nat.pow_le_pow_right (by omega) (by omega)
      simp
      omega
    · rw [Lib.decDigits, dif_neg h, List.length_append, List.length_singleton]
      rcases Nat.eq_zero_or_pos k with hk | hk
      · subst hk
        have := List.length_pos_iff.2 (dec_ne (u / 10))
        omega
      · have ih := dec_len_lt k (u / 10) hk
        rw [Nat.pow_succ]
        omega
end Go.Proofs.YtbbmgcdocolakaaGreatDoor.Tx
/-
  strings.Cut, strings.Split, strconv.Atoi, slices.Index at strings, out of the library's shelf, laid over this seat's translation; the variables that they read.
-/
namespace Go.Proofs.YtbbmgcdocolakaaGreatDoor
open Go.Shelf Go.RowKit
set_option linter.unusedVariables false
def lay145_ren : Go.Shelf.Ren := ⟨fun | 145 => 30 | 217 => 111 | 219 => 87 | 220 => 63 | 224 => 113 | 225 => 112 | 266 => 130 | 267 => 114 | 314 => 131 | n => n, fun | 3 => 3 | 4 => 4 | 5 => 5 | 9 => 9 | 46 => 139 | 51 => 132 | 59 => 67 | 146 => 199 | n => n, fun | 1 => 1 | n => n⟩
theorem lay145 : Go.Proofs.Lays.n145 Tryz.prog lay145_ren := {
  mixed := by kernel_rfl
  f145 := Tryz.func30.trans (congrArg some (by kernel_rfl))
  f217 := Tryz.func111.trans (congrArg some (by kernel_rfl))
  f219 := Tryz.func87.trans (congrArg some (by kernel_rfl))
  f220 := Tryz.func63.trans (congrArg some (by kernel_rfl))
  f224 := Tryz.func113.trans (congrArg some (by kernel_rfl))
  f225 := Tryz.func112.trans (congrArg some (by kernel_rfl))
  f266 := Tryz.func130.trans (congrArg some (by kernel_rfl))
  f267 := Tryz.func114.trans (congrArg some (by kernel_rfl))
  f314 := Tryz.func131.trans (congrArg some (by kernel_rfl))
  t3 := Tryz.underlying3
  a3 := Tryz.isAgg3
  z3 := Tryz.sizeOf3
  v3 := Tryz.zeroValue3
  t4 := Tryz.underlying4
  a4 := Tryz.isAgg4
  z4 := Tryz.sizeOf4
  v4 := Tryz.zeroValue4
  t5 := Tryz.underlying5
  a5 := Tryz.isAgg5
  z5 := Tryz.sizeOf5
  v5 := Tryz.zeroValue5
  t9 := Tryz.underlying9
  a9 := Tryz.isAgg9
  z9 := Tryz.sizeOf9
  v9 := Tryz.zeroValue9
  t46 := Tryz.underlying139
  a46 := Tryz.isAgg139
  z46 := Tryz.sizeOf139
  v46 := Tryz.zeroValue139
  t51 := Tryz.underlying132
  a51 := Tryz.isAgg132
  z51 := Tryz.sizeOf132
  v51 := Tryz.zeroValue132
  t59 := Tryz.underlying67
  a59 := Tryz.isAgg67
  z59 := Tryz.sizeOf67
  v59 := Tryz.zeroValue67
  t146 := Tryz.underlying199
  a146 := Tryz.isAgg199
  z146 := Tryz.sizeOf199
  v146 := Tryz.zeroValue199
  g1 := by kernel_rfl }
def lay146_ren : Go.Shelf.Ren := ⟨fun | 138 => 116 | 143 => 117 | 146 => 64 | 195 => 132 | 197 => 133 | 217 => 111 | 218 => 134 | 219 => 87 | 221 => 88 | 224 => 113 | 225 => 112 | 260 => 140 | 266 => 130 | 267 => 114 | 268 => 115 | 314 => 131 | n => n, fun | 0 => 0 | 3 => 3 | 4 => 4 | 5 => 5 | 9 => 9 | 21 => 21 | 31 => 47 | 46 => 139 | 51 => 132 | 105 => 202 | 119 => 210 | 138 => 212 | 139 => 213 | 146 => 199 | n => n, fun | 1 => 1 | 3 => 3 | 4 => 4 | n => n⟩
theorem lay146 : Go.Proofs.Lays.n146 Tryz.prog lay146_ren := {
  mixed := by kernel_rfl
  f138 := Tryz.func116.trans (congrArg some (by kernel_rfl))
  f143 := Tryz.func117.trans (congrArg some (by kernel_rfl))
  f146 := Tryz.func64.trans (congrArg some (by kernel_rfl))
  f195 := Tryz.func132.trans (congrArg some (by kernel_rfl))
  f197 := Tryz.func133.trans (congrArg some (by kernel_rfl))
  f217 := Tryz.func111.trans (congrArg some (by kernel_rfl))
  f218 := Tryz.func134.trans (congrArg some (by kernel_rfl))
  f219 := Tryz.func87.trans (congrArg some (by kernel_rfl))
  f221 := Tryz.func88.trans (congrArg some (by kernel_rfl))
  f224 := Tryz.func113.trans (congrArg some (by kernel_rfl))
  f225 := Tryz.func112.trans (congrArg some (by kernel_rfl))
  f260 := Tryz.func140.trans (congrArg some (by kernel_rfl))
  f266 := Tryz.func130.trans (congrArg some (by kernel_rfl))
  f267 := Tryz.func114.trans (congrArg some (by kernel_rfl))
  f268 := Tryz.func115.trans (congrArg some (by kernel_rfl))
  f314 := Tryz.func131.trans (congrArg some (by kernel_rfl))
  t0 := Tryz.underlying0
  a0 := Tryz.isAgg0
  z0 := Tryz.sizeOf0
  v0 := Tryz.zeroValue0
  t3 := Tryz.underlying3
  a3 := Tryz.isAgg3
  z3 := Tryz.sizeOf3
  v3 := Tryz.zeroValue3
  t4 := Tryz.underlying4
  a4 := Tryz.isAgg4
  z4 := Tryz.sizeOf4
  v4 := Tryz.zeroValue4
  t5 := Tryz.underlying5
  a5 := Tryz.isAgg5
  z5 := Tryz.sizeOf5
  v5 := Tryz.zeroValue5
  t9 := Tryz.underlying9
  a9 := Tryz.isAgg9
  z9 := Tryz.sizeOf9
  v9 := Tryz.zeroValue9
  t21 := Tryz.underlying21
  a21 := Tryz.isAgg21
  z21 := Tryz.sizeOf21
  v21 := Tryz.zeroValue21
  t31 := Tryz.underlying47
  a31 := Tryz.isAgg47
  z31 := Tryz.sizeOf47
  v31 := Tryz.zeroValue47
  t46 := Tryz.underlying139
  a46 := Tryz.isAgg139
  z46 := Tryz.sizeOf139
  v46 := Tryz.zeroValue139
  t51 := Tryz.underlying132
  a51 := Tryz.isAgg132
  z51 := Tryz.sizeOf132
  v51 := Tryz.zeroValue132
  t105 := Tryz.underlying202
  a105 := Tryz.isAgg202
  z105 := Tryz.sizeOf202
  v105 := Tryz.zeroValue202
  t119 := Tryz.underlying210
  a119 := Tryz.isAgg210
  z119 := Tryz.sizeOf210
  t138 := Tryz.underlying212
  a138 := Tryz.isAgg212
  z138 := Tryz.sizeOf212
  v138 := Tryz.zeroValue212
  t139 := Tryz.underlying213
  a139 := Tryz.isAgg213
  z139 := Tryz.sizeOf213
  v139 := Tryz.zeroValue213
  t146 := Tryz.underlying199
  a146 := Tryz.isAgg199
  z146 := Tryz.sizeOf199
  v146 := Tryz.zeroValue199
  g1 := by kernel_rfl
  g3 := by kernel_rfl
  g4 := by kernel_rfl }
/-- The variables of the library that are read: whatever they hold, it is of their types. -/
structure LibW (w : World) : Prop where
  max : ∃ m, w.cell? ⟨1, 0, none⟩ = some (.int .i64 m)
theorem LibW.keep {w w' : World} (h : LibW w) (hb : Below w.heap.size w w') : LibW w' := by
  obtain ⟨⟨m, hm⟩⟩ := h
  exact ⟨⟨m, (hb.cell (World.block_lt_of_cell? _ _ hm)).trans hm⟩⟩
/-- Bytes as a string. -/
abbrev bz (l : List UInt8) : ByteArray := ⟨l.toArray⟩
theorem bz_data (s : ByteArray) : bz s.data.toList = s := rfl
theorem data_bz (l : List UInt8) : (bz l).data.toList = l := by simp
theorem bz_size (l : List UInt8) : (bz l).size = l.length := by
  show l.toArray.size = _
  simp
/-- strings.Cut at one byte. -/
theorem Cut_any (l : List UInt8) (c : UInt8) (w : World) (hs : l.length ≤ 1000000) (hL : LibW w) :
    Calls Tryz.prog 30 #[.string (bz l), .string ⟨#[c]⟩] w fun e w' => e = .returned (.tuple #[.string (bz (Tx.cut1 c l).1), .string (bz (Tx.cut1 c l).2.1), .bool (Tx.cut1 c l).2.2]) ∧ Below w.heap.size w w' := by
  obtain ⟨m, hm⟩ := hL.max
  refine (Any.strings_Cut lay145 (bz l) ⟨#[c]⟩ m w (by rw [bz_size]; omega) hm).mono fun e w' ⟨h1, n, h2⟩ => ⟨?_, by rw [h2]; exact bel_drewN (Below.refl _ _) n⟩
  rw [h1, data_bz]
  have e : (⟨#[c]⟩ : ByteArray).data.toList = [c] := rfl
  rw [e, Tx.cut1_eq]
/-- strings.Split at one byte. -/
theorem Split_any (l : List UInt8) (c : UInt8) (w : World) (hs : l.length ≤ 1000000) (hL : LibW w) :
    Calls Tryz.prog 64 #[.string (bz l), .string ⟨#[c]⟩] w fun e w' => e = .returned (.slice (some ⟨w.heap.size, 0, none⟩) (Tx.split1 c l).length (Tx.split1 c l).length) ∧ Sl w' 1 (some ⟨w.heap.size, 0, none⟩) (Tx.split1 c l).length ((Tx.split1 c l).map fun x => Value.string (bz x)) ∧ Below w.heap.size w w' := by
  obtain ⟨m, hm⟩ := hL.max
  have hsp := Tx.split_eq c (bz l)
  rw [data_bz] at hsp
  have hlen : (Lib.splitB ⟨#[c]⟩ 0 (Lib.countB (bz l) ⟨#[c]⟩) (bz l)).length = Lib.countB (bz l) ⟨#[c]⟩ + 1 := Lib.splitB_all ⟨#[c]⟩ (Nat.le_refl 1) 0 _ _ rfl
  have hln : (Tx.split1 c l).length = Lib.countB (bz l) ⟨#[c]⟩ + 1 := by rw [← hsp, List.length_map, hlen]
  have hvs : (Lib.splitB ⟨#[c]⟩ 0 (Lib.countB (bz l) ⟨#[c]⟩) (bz l)).map Value.string = (Tx.split1 c l).map fun x => Value.string (bz x) := by
    rw [← hsp, List.map_map]
    rfl
  refine (Any.strings_Split lay146 (by kernel_rfl) (bz l) ⟨#[c]⟩ m w (by rw [bz_size]; omega) hm (Nat.le_refl 1)).mono fun e w' ⟨h1, h2⟩ => ?_
  rw [hln]
  refine ⟨h1, ?_, by rw [h2]; exact bel_al (Below.refl _ _) _⟩
  rw [h2, hvs]
  exact Sl.newAt w _ _ _ (by rw [List.length_map, hln])
end Go.Proofs.YtbbmgcdocolakaaGreatDoor
/-
  The frame where the tables of unicode/utf8 are listed beside errors.errorType: what that gives a walk; a world that meets it.
-/
namespace Go.Proofs.YtbbmgcdocolakaaGreatDoor
open Go.ChangeShapes Go.WideShapes Go.ChangeAt Go.RowKit Go.Joins
set_option linter.unusedVariables false
set_option maxRecDepth 100000

def utfLaid : List (String × DataW Unit) := [("unicode/utf8.acceptRanges", Rows.laid_unicode_utf8_acceptRanges), ("errors.errorType", Rows.laid_errors_errorType), ("unicode/utf8.first", Rows.laid_unicode_utf8_first)]
theorem utf_err : (utfLaid.filter fun x => x.1 == "errors.errorType") = errLaid := by kernel_rfl
theorem errT_of_utf {W : World} (h : laidMetH Tryz.prog utfLaid W) : ErrT W := by
  have h1 := laidMetH.filter (fun x => x.1 == "errors.errorType") h
  rw [utf_err] at h1
  exact errT_of_laid h1
theorem libW_of_shape {W : World} (hS : W.ShapedOpen Tryz.prog) : LibW W :=
  ⟨cell_of_shapedOpen_int (g := 1) (t := 3) (zero := #[.int .i64 0]) hS (of_decide_eq_true (by kernel_rfl)) (by kernel_rfl) rfl (by kernel_rfl) (by kernel_rfl) Tryz.underlying3⟩
/-- A table of rows: its values. -/
def litsDeep5 : DataW Unit → List Value
  | .agg ps => ps.flatMap litsOf
  | _ => []
/-- A world that meets the condition: the settled one, the variables' cells laid. -/
noncomputable def utfWorld (os : Os) : World :=
  { laidWorld os with heap := ((laidWorld os).heap.modify 4 fun
      | .cells _ t frozen => .cells (litsDeep5 Rows.laid_unicode_utf8_acceptRanges).toArray t frozen
      | o => o).modify 3 fun
      | .cells _ t frozen => .cells (litsOf Rows.laid_unicode_utf8_first).toArray t frozen
      | o => o }
theorem utf_met (os : Os) (args : Array Value) : laidMetH Tryz.prog utfLaid ((utfWorld os).forCall (fun _ _ => 0) ⟨#[], args, []⟩).memory :=
  laidMetH_of_parts (laidMet_of_run3 300 (by kernel_rfl) (by kernel_rfl) (by kernel_rfl)) (by kernel_rfl)
end Go.Proofs.YtbbmgcdocolakaaGreatDoor
/-
  Programs of tests plainly: their texts, there and back.
-/
namespace Go.Proofs.YtbbmgcdocolakaaGreatDoor.Pg
open Go Go.Proofs.YtbbmgcdocolakaaGreatDoor.Tx
set_option linter.unusedVariables false

def namesL : List (List UInt8) := [[99, 108, 105, 113, 117, 101], [108, 97, 98, 101, 108, 115], [100, 101, 103, 114, 101, 101], [115, 105, 122, 101], [101, 100, 103, 101, 115], [117, 110, 108, 105, 107, 101], [111, 110, 108, 121], [102, 114, 101, 101]]
def namesB : List ByteArray := namesL.map fun l => ⟨l.toArray⟩
/-- The name of a kind. -/
def nameL (k : Int) : List UInt8 := if 1 ≤ k ∧ k ≤ 8 then namesL.getD (k.toNat - 1) [] else []
/-- The kind of a name. -/
def idxL (l : List UInt8) : List (List UInt8) → Nat → Int
  | [], _ => 0
  | x :: r, i => if x = l then ((i + 1 : Nat) : Int) else idxL l r (i + 1)
def kindZ (l : List UInt8) : Int := idxL l namesL 0
theorem ba_eq {l m : List UInt8} : (⟨l.toArray⟩ : ByteArray) = ⟨m.toArray⟩ ↔ l = m := by
  constructor
  · intro h
    have := congrArg (·.data.toList) h
    simpa using this
  · intro h; rw [h]
theorem idx_eq (l : List UInt8) : ∀ (r : List (List UInt8)) (i : Nat), (∀ x ∈ r, x ≠ l) → idxL l r i = 0
  | [], _, _ => rfl
  | x :: r, i, h => by
    rw [idxL, if_neg (h x (List.mem_cons_self ..)), idx_eq l r (i + 1) fun y hy => h y (List.mem_cons_of_mem _ hy)]
theorem idxFromS_idxL (l : List UInt8) : ∀ (r : List (List UInt8)) (i : Nat), Lib.idxFromS (r.map fun l => ⟨l.toArray⟩) ⟨l.toArray⟩ i + 1 = idxL l r i
  | [], _ => rfl
  | x :: r, i => by
    have ih := idxFromS_idxL l r (i + 1)
    rw [List.map_cons, idxL]
    unfold Lib.idxFromS
    by_cases h : x = l
    · rw [if_pos (by rw [h]), if_pos h]
      omega
    · rw [if_neg (fun e => h (ba_eq.1 e)), if_neg h, ih]
theorem kind_idx (l : List UInt8) : Lib.idxOfS namesB ⟨l.toArray⟩ + 1 = kindZ l := idxFromS_idxL l namesL 0
theorem idxL_some (l : List UInt8) : ∀ (r : List (List UInt8)) (i : Nat), idxL l r i = 0 ∨ ∃ j, j < r.length ∧ idxL l r i = ((i + j + 1 : Nat) : Int) ∧ r.getD j [] = l
  | [], _ => .inl rfl
  | x :: r, i => by
    rw [idxL]
    by_cases h : x = l
    · rw [if_pos h]
      exact .inr ⟨0, by simp, rfl, h⟩
    · rw [if_neg h]
      rcases idxL_some l r (i + 1) with h1 | ⟨j, h1, h2, h3⟩
      · exact .inl h1
      · exact .inr ⟨j + 1, by simpa using h1, by rw [h2]; congr 1; omega, by simpa using h3⟩
theorem kind_cases (l : List UInt8) : kindZ l = 0 ∨ (1 ≤ kindZ l ∧ kindZ l ≤ 8 ∧ nameL (kindZ l) = l) := by
  rcases idxL_some l namesL 0 with h | ⟨j, h1, h2, h3⟩
  · exact .inl h
  · right
    have hl : namesL.length = 8 := rfl
    have e : kindZ l = ((0 + j + 1 : Nat) : Int) := h2
    refine ⟨by omega, by omega, ?_⟩
    unfold nameL
    rw [if_pos (by omega), e, show ((0 + j + 1 : Nat) : Int).toNat - 1 = j by omega, h3]
theorem nat8 {P : Int → Prop} (h : P 1 ∧ P 2 ∧ P 3 ∧ P 4 ∧ P 5 ∧ P 6 ∧ P 7 ∧ P 8) {k : Int} (h1 : 1 ≤ k) (h8 : k ≤ 8) : P k := by
  obtain ⟨p1, p2, p3, p4, p5, p6, p7, p8⟩ := h
  rcases (show k = 1 ∨ k = 2 ∨ k = 3 ∨ k = 4 ∨ k = 5 ∨ k = 6 ∨ k = 7 ∨ k = 8 by omega) with rfl | rfl | rfl | rfl | rfl | rfl | rfl | rfl <;> assumption
theorem kind_name {k : Int} (h1 : 1 ≤ k) (h8 : k ≤ 8) : kindZ (nameL k) = k :=
  nat8 (P := fun k => kindZ (nameL k) = k) ⟨by decide, by decide, by decide, by decide, by decide, by decide, by decide, by decide⟩ h1 h8
theorem name_ne {k : Int} (h1 : 1 ≤ k) (h8 : k ≤ 8) : nameL k ≠ [] ∧ 32 ∉ nameL k ∧ 59 ∉ nameL k ∧ 10 ∉ nameL k ∧ (nameL k).length ≤ 6 :=
  nat8 (P := fun k => nameL k ≠ [] ∧ 32 ∉ nameL k ∧ 59 ∉ nameL k ∧ 10 ∉ nameL k ∧ (nameL k).length ≤ 6) ⟨by decide, by decide, by decide, by decide, by decide, by decide, by decide, by decide⟩ h1 h8
theorem name_out {k : Int} (h : ¬ (1 ≤ k ∧ k ≤ 8)) : nameL k = [] := if_neg h
/-- Does a kind take a number? -/
def takesZ (k : Int) : Bool := !(decide (k = 1) || decide (k = 6) || decide (k = 8))
/-- A test that may be. -/
def opOK (o : Int × Int) : Prop := (1 ≤ o.1 ∧ o.1 ≤ 8) ∧ (0 ≤ o.2 ∧ o.2 ≤ 255) ∧ (takesZ o.1 = false → o.2 = 0)
instance (o : Int × Int) : Decidable (opOK o) := by unfold opOK; exact inferInstance
def rightG (p : List (Int × Int)) : Prop := p.length ≤ 16 ∧ ∀ o ∈ p, opOK o
instance (p : List (Int × Int)) : Decidable (rightG p) := by unfold rightG; exact inferInstance
/-- A test's text. -/
def opL (o : Int × Int) : List UInt8 := nameL o.1 ++ if takesZ o.1 = true then 32 :: Lib.itoa o.2 else []
def textG (p : List (Int × Int)) : List UInt8 := Lib.join (p.map opL) [59]
/-- A number's digits, at most so many, and no others than the number's own. -/
def numP (d : Nat) (s : List UInt8) : Option Int :=
  match Lib.atoiAll s with
  | .ok v => if s.length ≤ d ∧ Lib.itoa v = s ∧ 0 ≤ v then some v else none
  | _ => none
def testP (x : List UInt8) : Option (Int × Int) :=
  if kindZ (cut1 32 x).1 = 0 ∨ (cut1 32 x).2.2 ≠ takesZ (kindZ (cut1 32 x).1) then none
  else if (cut1 32 x).2.2 = true then (numP 6 (cut1 32 x).2.1).map fun v => (kindZ (cut1 32 x).1, v) else some (kindZ (cut1 32 x).1, 0)
def testsP : List (List UInt8) → Option (List (Int × Int))
  | [] => some []
  | x :: r => match testP x with
    | none => none
    | some o => (testsP r).map (o :: ·)
def parseG (s : List UInt8) : Option (List (Int × Int)) :=
  if s = [] then some [] else match testsP (split1 59 s) with
    | none => none
    | some p => if rightG p then some p else none
theorem numP_dec {d u : Nat} (hu : u ≤ 9223372036854775807) (hd : (Lib.decDigits u).length ≤ d) : numP d (Lib.decDigits u) = some (u : Int) := by
  unfold numP
  rw [atoi_dec hu]
  simp only
  rw [if_pos ⟨hd, itoa_nat u, by omega⟩]
theorem numP_some {d : Nat} {s : List UInt8} {v : Int} (h : numP d s = some v) : 0 ≤ v ∧ s = Lib.decDigits v.toNat ∧ s.length ≤ d := by
  unfold numP at h
  split at h
  · split at h
    · rename_i h1
      injection h with h
      subst h
      obtain ⟨h1, h2, h3⟩ := h1
      refine ⟨h3, ?_, h1⟩
      rw [← h2]
      unfold Lib.itoa
      rw [if_neg (by omega)]
    · cases h
  · cases h
theorem testP_of {x nm n : List UInt8} {has : Bool} (h : cut1 32 x = (nm, n, has)) : testP x = if kindZ nm = 0 ∨ has ≠ takesZ (kindZ nm) then none else if has = true then (numP 6 n).map fun v => (kindZ nm, v) else some (kindZ nm, 0) := by
  unfold testP
  rw [h]
theorem testP_opL {o : Int × Int} (h : opOK o) : testP (opL o) = some o := by
  obtain ⟨⟨h1, h8⟩, ⟨h0, h255⟩, hz⟩ := h
  obtain ⟨n1, n2, n3, n4, n5⟩ := name_ne h1 h8
  have hk := kind_name h1 h8
  cases ht : takesZ o.1 with
  | true =>
    have hc : cut1 32 (opL o) = (nameL o.1, Lib.itoa o.2, true) := by
      unfold opL
      rw [if_pos ht]
      exact cut1_app _ n2
    have hi : Lib.itoa o.2 = Lib.decDigits o.2.toNat := by unfold Lib.itoa; rw [if_neg (by omega)]
    rw [testP_of hc, hk, ht, if_neg (fun e => e.elim (fun e => by omega) (fun e => e rfl)), if_pos rfl, hi, numP_dec (by omega) ((dec_len_lt 6 _ (by omega)).2 (by omega))]
    show some (o.1, ((o.2.toNat : Nat) : Int)) = some o
    congr 1
    exact Prod.ext rfl (by simp only; omega)
  | false =>
    have hc : cut1 32 (opL o) = (nameL o.1, [], false) := by
      unfold opL
      rw [if_neg (by rw [ht]; decide), List.append_nil]
      exact cut1_none n2
    rw [testP_of hc, hk, ht, if_neg (fun e => e.elim (fun e => by omega) (fun e => e rfl)), if_neg (by decide)]
    congr 1
    exact Prod.ext rfl (hz ht).symm
theorem testP_some {x : List UInt8} {o : Int × Int} (h : testP x = some o) : opL o = x ∧ (1 ≤ o.1 ∧ o.1 ≤ 8) ∧ 0 ≤ o.2 ∧ o.2 < 1000000 ∧ (takesZ o.1 = false → o.2 = 0) := by
  obtain ⟨nm, n, has, hc⟩ : ∃ nm n has, cut1 32 x = (nm, n, has) := ⟨_, _, _, rfl⟩
  rw [testP_of hc] at h
  split at h
  · cases h
  · rename_i hn
    have hk : kindZ nm ≠ 0 := fun e => hn (.inl e)
    have ht : has = takesZ (kindZ nm) := Decidable.byContradiction fun e => hn (.inr e)
    obtain ⟨k1, k8, knm⟩ := (kind_cases nm).resolve_left hk
    clear hn hk
    rcases cut1_cases 32 x with ⟨hx, hc2⟩ | ⟨a, b, hx, ha, hc2⟩
    · rw [hc] at hc2
      obtain ⟨rfl, rfl, rfl⟩ : nm = x ∧ n = [] ∧ has = false := by simpa using hc2
      rw [if_neg (by decide)] at h
      injection h with h
      subst h
      refine ⟨?_, ⟨k1, k8⟩, Int.le_refl _, (by simp only; omega), fun _ => rfl⟩
      unfold opL
      simp only
      rw [← ht, if_neg (by decide), List.append_nil, knm]
    · rw [hc] at hc2
      obtain ⟨rfl, rfl, rfl⟩ : nm = a ∧ n = b ∧ has = true := by simpa using hc2
      rw [if_pos rfl] at h
      cases hv : numP 6 n with
      | none => rw [hv] at h; cases h
      | some v =>
        rw [hv] at h
        simp only [Option.map_some] at h
        injection h with h
        subst h
        obtain ⟨v0, hb, hl⟩ := numP_some hv
        rw [hb] at hl
        have hlt := (dec_len_lt 6 v.toNat (by omega)).1 hl
        refine ⟨?_, ⟨k1, k8⟩, v0, by simp only; omega, fun e => by simp only at e; rw [← ht] at e; cases e⟩
        unfold opL
        simp only
        rw [← ht, if_pos rfl, knm, hx]
        congr 2
        unfold Lib.itoa
        rw [if_neg (by omega), hb]
theorem testsP_map : ∀ {p : List (Int × Int)}, (∀ o ∈ p, opOK o) → testsP (p.map opL) = some p
  | [], _ => rfl
  | o :: p, h => by
    rw [List.map_cons, testsP, testP_opL (h o (List.mem_cons_self ..)), testsP_map fun x hx => h x (List.mem_cons_of_mem _ hx)]
    rfl
theorem testsP_some : ∀ {l : List (List UInt8)} {p : List (Int × Int)}, testsP l = some p → p.map opL = l
  | [], p, h => by
    injection h with h
    rw [← h]; rfl
  | x :: r, p, h => by
    rw [testsP] at h
    cases ht : testP x with
    | none => rw [ht] at h; cases h
    | some o =>
      rw [ht] at h
      simp only at h
      cases hr : testsP r with
      | none => rw [hr] at h; cases h
      | some q =>
        rw [hr] at h
        injection h with h
        rw [← h, List.map_cons, (testP_some ht).1, testsP_some hr]
theorem dec_no {b : UInt8} (hb : b.toNat < 48 ∨ 57 < b.toNat) (u : Nat) : b ∉ Lib.decDigits u := fun h => by have := dec_digit u b h; omega
theorem opL_no {o : Int × Int} (h1 : 1 ≤ o.1 ∧ o.1 ≤ 8) (h0 : 0 ≤ o.2) : 59 ∉ opL o ∧ 10 ∉ opL o ∧ opL o ≠ [] := by
  obtain ⟨n1, n2, n3, n4, n5⟩ := name_ne h1.1 h1.2
  have hi : Lib.itoa o.2 = Lib.decDigits o.2.toNat := by unfold Lib.itoa; rw [if_neg (by omega)]
  unfold opL
  rw [hi]
  refine ⟨fun h => ?_, fun h => ?_, fun h => n1 (List.append_eq_nil_iff.1 h).1⟩
  · rcases List.mem_append.1 h with h | h
    · exact n3 h
    · split at h
      · rcases List.mem_cons.1 h with h | h
        · cases h
        · exact dec_no (.inr (by decide)) _ h
      · cases h
  · rcases List.mem_append.1 h with h | h
    · exact n4 h
    · split at h
      · rcases List.mem_cons.1 h with h | h
        · cases h
        · exact dec_no (.inl (by decide)) _ h
      · cases h
/-- The text of a program that is right is parsed as it. -/
theorem parse_text {p : List (Int × Int)} (h : rightG p) : parseG (textG p) = some p := by
  rcases p with _ | ⟨o, p⟩
  · rfl
  · have hno : ∀ y ∈ (o :: p).map opL, (59 : UInt8) ∉ y := fun y hy => by
      obtain ⟨z, hz, rfl⟩ := List.mem_map.1 hy
      have := h.2 z hz
      exact (opL_no this.1 this.2.1.1).1
    have hs : split1 59 (textG (o :: p)) = (o :: p).map opL := by
      unfold textG
      rw [List.map_cons] at hno ⊢
      exact split_join 59 _ _ (hno _ (List.mem_cons_self ..)) fun y hy => hno y (List.mem_cons_of_mem _ hy)
    have hne : textG (o :: p) ≠ [] := fun e => by
      rw [e] at hs
      have h2 := (opL_no (h.2 o (List.mem_cons_self ..)).1 (h.2 o (List.mem_cons_self ..)).2.1.1).2.2
      rw [List.map_cons] at hs
      injection hs with hs _
      exact h2 hs.symm
    unfold parseG
    rw [if_neg hne, hs, testsP_map h.2]
    simp only
    rw [if_pos h]
/-- What is parsed is right, and has just the text. -/
theorem parse_some {s : List UInt8} {p : List (Int × Int)} (h : parseG s = some p) : textG p = s ∧ rightG p := by
  unfold parseG at h
  split at h
  · rename_i hs
    injection h with h
    rw [← h, hs]
    exact ⟨rfl, by decide, fun o ho => by cases ho⟩
  · split at h
    · cases h
    · rename_i q hq
      split at h
      · rename_i hr
        injection h with h
        subst h
        refine ⟨?_, hr⟩
        unfold textG
        rw [testsP_some hq, join_split]
      · cases h
end Go.Proofs.YtbbmgcdocolakaaGreatDoor.Pg
