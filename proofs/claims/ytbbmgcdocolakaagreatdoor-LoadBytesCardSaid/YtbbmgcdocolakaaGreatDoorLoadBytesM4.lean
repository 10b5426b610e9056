/-
  Part 4 of the proof of LoadBytes: TxtP, LibC, FrameM, Chain, Chain2.
-/
import Derived.Lib.SplitLaws
import Derived.Lib.CutLaws
import Derived.Lib.IndexBytes
import Derived.Lib.Join
import Derived.Lib.ItoaNum
import Derived.Lib.AtoiAll
import Derived.RowKit
import Derived.Test.YtbbmgcdocolakaaGreatDoorLoadBytesM1
import Derived.Test.YtbbmgcdocolakaaGreatDoorLoadBytesM3
import Derived.Shelf.Strings.Cut
import Derived.Shelf.Strings.Split
import Derived.Shelf.Strconv.AtoiAll
import Derived.Shelf.Slices.Turned
import Derived.Shelf.LaysM
import Derived.Shelf.LaysC
import Derived.Shelf.Vars
import Derived.Deep.LoopGhost
set_option linter.unusedVariables false
/-
  Texts plainly: cut and split at one byte, joined again; numbers as digits, there and back.
-/
namespace Go.Proofs.YtbbmgcdocolakaaGreatDoor.Tx
open Go
set_option linter.unusedVariables false

def cut1 (c : UInt8) : List UInt8 → List UInt8 × List UInt8 × Bool
  | [] => ([], [], false)
  | b :: l => if b = c then ([], l, true) else (b :: (cut1 c l).1, (cut1 c l).2.1, (cut1 c l).2.2)
theorem indexByte_split (c : UInt8) : ∀ s, Lib.indexByte s c = -1 ∨ ∃ i : Nat, Lib.indexByte s c = i := fun s => by
  have h := Lib.indexByte_ge s c
  by_cases h1 : Lib.indexByte s c = -1
  · exact .inl h1
  · exact .inr ⟨(Lib.indexByte s c).toNat, by omega⟩
theorem cut1_eq (c : UInt8) : ∀ s : List UInt8, Lib.cut s [c] = cut1 c s
  | [] => by
    unfold Lib.cut
    rw [Lib.index_one]
    rfl
  | b :: l => by
    have ih := cut1_eq c l
    unfold Lib.cut at ih ⊢
    rw [Lib.index_one] at ih ⊢
    unfold cut1
    by_cases hb : b = c
    · rw [if_pos hb]
      have e : Lib.indexByte (b :: l) c = 0 := by
        unfold Lib.indexByte
        rw [if_pos (beq_iff_eq.2 hb)]
      rw [e]
      simp
    · rw [if_neg hb, ← ih]
      have hbn : ¬ (b == c) = true := fun h => hb (beq_iff_eq.1 h)
      rcases indexByte_split c l with h | ⟨i, h⟩
      · have e : Lib.indexByte (b :: l) c = -1 := by
          unfold Lib.indexByte
          rw [if_neg hbn, h]
          rfl
        rw [e, h]
        simp
      · have e : Lib.indexByte (b :: l) c = ((i + 1 : Nat) : Int) := by
          unfold Lib.indexByte
          rw [if_neg hbn, h, if_neg (by rw [beq_iff_eq]; omega)]
          omega
        rw [e, h]
        have h0 : (0 : Int) ≤ (i : Int) + 1 := by omega
        simp [h0]
theorem cut1_none {c : UInt8} : ∀ {s : List UInt8}, c ∉ s → cut1 c s = (s, [], false)
  | [], _ => rfl
  | b :: l, h => by
    have h1 : ¬ b = c := fun e => h (by rw [e]; exact List.mem_cons_self ..)
    have h2 := cut1_none (c := c) (s := l) fun hm => h (List.mem_cons_of_mem _ hm)
    rw [cut1, if_neg h1, h2]
theorem cut1_app {c : UInt8} : ∀ {s : List UInt8} (t : List UInt8), c ∉ s → cut1 c (s ++ c :: t) = (s, t, true)
  | [], t, _ => by rw [List.nil_append, cut1, if_pos rfl]
  | b :: l, t, h => by
    have h1 : ¬ b = c := fun e => h (by rw [e]; exact List.mem_cons_self ..)
    have h2 := cut1_app (c := c) (s := l) t fun hm => h (List.mem_cons_of_mem _ hm)
    rw [List.cons_append, cut1, if_neg h1, h2]
theorem app_of_mem {c : UInt8} : ∀ {s : List UInt8}, c ∈ s → ∃ a b, s = a ++ c :: b ∧ c ∉ a
  | [], h => by cases h
  | x :: l, h => by
    by_cases hx : x = c
    · subst hx
      exact ⟨[], l, rfl, by simp⟩
    · rcases List.mem_cons.1 h with h1 | h1
      · exact absurd h1.symm hx
      · obtain ⟨a, b, e, hn⟩ := app_of_mem h1
        refine ⟨x :: a, b, by rw [e, List.cons_append], fun hm => ?_⟩
        rcases List.mem_cons.1 hm with h2 | h2
        · exact hx h2.symm
        · exact hn h2
theorem cut1_cases (c : UInt8) (s : List UInt8) : (c ∉ s ∧ cut1 c s = (s, [], false)) ∨ (∃ a b, s = a ++ c :: b ∧ c ∉ a ∧ cut1 c s = (a, b, true)) := by
  by_cases h : c ∈ s
  · right
    obtain ⟨a, b, rfl, ha⟩ := app_of_mem h
    exact ⟨a, b, rfl, ha, cut1_app b ha⟩
  · exact .inl ⟨h, cut1_none h⟩
def split1 (c : UInt8) : List UInt8 → List (List UInt8)
  | [] => [[]]
  | b :: l => if b = c then [] :: split1 c l else match split1 c l with
    | [] => [[b]]
    | x :: r => (b :: x) :: r
theorem split1_ne (c : UInt8) : ∀ s, split1 c s ≠ []
  | [] => by simp [split1]
  | b :: l => by
    unfold split1
    split
    · simp
    · split <;> simp
theorem split1_none {c : UInt8} : ∀ {s : List UInt8}, c ∉ s → split1 c s = [s]
  | [], _ => rfl
  | b :: l, h => by
    have h1 : ¬ b = c := fun e => h (by rw [e]; exact List.mem_cons_self ..)
    have h2 := split1_none (c := c) (s := l) fun hm => h (List.mem_cons_of_mem _ hm)
    rw [split1, if_neg h1, h2]
theorem split1_app {c : UInt8} : ∀ {s : List UInt8} (t : List UInt8), c ∉ s → split1 c (s ++ c :: t) = s :: split1 c t
  | [], t, _ => by rw [List.nil_append, split1, if_pos rfl]
  | b :: l, t, h => by
    have h1 : ¬ b = c := fun e => h (by rw [e]; exact List.mem_cons_self ..)
    have h2 := split1_app (c := c) (s := l) t fun hm => h (List.mem_cons_of_mem _ hm)
    rw [List.cons_append, split1, if_neg h1, h2]
theorem splitK_eq (c : UInt8) : ∀ (k : Nat) (s : List UInt8), s.count c = k → Lib.splitK [c] 0 k s = split1 c s
  | 0, s, h => by
    rw [split1_none (List.count_eq_zero.1 h)]
    rfl
  | k + 1, s, h => by
    have hc := cut1_eq c s
    rcases cut1_cases c s with ⟨h1, _⟩ | ⟨a, b, rfl, ha, hcut⟩
    · rw [List.count_eq_zero.2 h1] at h
      omega
    · rw [hcut] at hc
      unfold Lib.cut at hc
      unfold Lib.splitK
      have ih := splitK_eq c k b (by
        rw [List.count_append, List.count_eq_zero.2 ha, List.count_cons_self] at h
        omega)
      by_cases h0 : 0 ≤ Lib.index (a ++ c :: b) [c]
      · rw [if_pos h0] at hc
        rw [if_neg (by rw [beq_iff_eq]; omega), split1_app b ha]
        simp only [Prod.mk.injEq] at hc
        rw [Nat.add_zero, hc.1, hc.2.1, ih]
      · rw [if_neg h0] at hc
        simp at hc
theorem split_eq (c : UInt8) (s : ByteArray) : (Lib.splitB ⟨#[c]⟩ 0 (Lib.countB s ⟨#[c]⟩) s).map (·.data.toList) = split1 c s.data.toList := by
  rw [Lib.splitB_data]
  refine splitK_eq c _ _ ?_
  have h := Lib.count_one c s.data.toList
  exact h.symm
theorem join_split (c : UInt8) : ∀ s : List UInt8, Lib.join (split1 c s) [c] = s
  | [] => by rw [split1, Lib.join_one]
  | b :: l => by
    have ih := join_split c l
    unfold split1
    by_cases hb : b = c
    · rw [if_pos hb]
      cases hs : split1 c l with
      | nil => exact absurd hs (split1_ne c l)
      | cons x r =>
        rw [hs, Lib.join_cons] at ih
        rw [Lib.join_cons, List.nil_append, Lib.joinTail, List.map_cons, List.flatten_cons, hb]
        unfold Lib.joinTail at ih
        rw [List.append_assoc, ih]
        rfl
    · rw [if_neg hb]
      cases hs : split1 c l with
      | nil => exact absurd hs (split1_ne c l)
      | cons x r =>
        rw [hs, Lib.join_cons] at ih
        show Lib.join ((b :: x) :: r) [c] = b :: l
        rw [Lib.join_cons, List.cons_append, ih]
theorem split_join (c : UInt8) : ∀ (x : List UInt8) (r : List (List UInt8)), c ∉ x → (∀ y ∈ r, c ∉ y) → split1 c (Lib.join (x :: r) [c]) = x :: r
  | x, [], hx, _ => by rw [Lib.join_one, split1_none hx]
  | x, y :: r, hx, hr => by
    have ih := split_join c y r (hr y (List.mem_cons_self ..)) fun z hz => hr z (List.mem_cons_of_mem _ hz)
    rw [Lib.join_cons] at ih ⊢
    rw [Lib.joinTail, List.map_cons, List.flatten_cons, List.append_assoc]
    unfold Lib.joinTail at ih
    show split1 c (x ++ c :: (y ++ _)) = _
    rw [split1_app _ hx, ih]

theorem parse_app : ∀ (l r : List UInt8) (acc : Nat), Lib.parseUint10 acc (l ++ r) = match Lib.parseUint10 acc l with
    | .ok a => Lib.parseUint10 a r
    | e => e
  | [], r, acc => rfl
  | b :: l, r, acc => by
    rw [List.cons_append]
    simp only [Lib.parseUint10]
    split
    · split
      · rfl
      · split
        · rfl
        · exact parse_app l r _
    · rfl
theorem digit_nat {d : Nat} (h : d < 10) : (UInt8.ofNat (48 + d)).toNat = 48 + d := by
  rw [UInt8.toNat_ofNat']
  omega
theorem parse_dec : ∀ u : Nat, u < 18446744073709551616 → Lib.parseUint10 0 (Lib.decDigits u) = .ok u := by
  intro u
  induction u using Nat.strongRecOn with
  | ind u ih =>
    intro hu
    by_cases h : u < 10
    · rw [Lib.decDigits, dif_pos h]
      unfold Lib.parseUint10 Lib.parseUint10
      rw [digit_nat h, if_pos (by omega), if_neg (by omega), if_neg (by omega)]
      congr 1
      omega
    · have h2 := ih (u / 10) (by omega) (by omega)
      rw [Lib.decDigits, dif_neg h, parse_app, h2]
      show Lib.parseUint10 (u / 10) [UInt8.ofNat (48 + u % 10)] = _
      unfold Lib.parseUint10 Lib.parseUint10
      rw [digit_nat (Nat.mod_lt _ (by omega)), if_pos (by omega), if_neg (by omega), if_neg (by omega)]
      congr 1
      omega
theorem dec_ne (u : Nat) : Lib.decDigits u ≠ [] := by
  by_cases h : u < 10
  · rw [Lib.decDigits, dif_pos h]; simp
  · rw [Lib.decDigits, dif_neg h]; simp
theorem dec_digit : ∀ (u : Nat), ∀ b ∈ Lib.decDigits u, 48 ≤ b.toNat ∧ b.toNat ≤ 57 := by
  intro u
  induction u using Nat.strongRecOn with
  | ind u ih =>
    intro b hb
    by_cases h : u < 10
    · rw [Lib.decDigits, dif_pos h] at hb
      rw [List.mem_singleton.1 hb, digit_nat h]
      omega
    · rw [Lib.decDigits, dif_neg h] at hb
      rcases List.mem_append.1 hb with hb | hb
      · exact ih _ (by omega) b hb
      · rw [List.mem_singleton.1 hb, digit_nat (Nat.mod_lt _ (by omega))]
        omega
/-- The digits of a number are parsed as it. -/
theorem atoi_dec {u : Nat} (h : u ≤ 9223372036854775807) : Lib.atoiAll (Lib.decDigits u) = .ok (u : Int) := by
  have hp := parse_dec u (by omega)
  have hd := dec_digit u
  cases he : Lib.decDigits u with
  | nil => exact absurd he (dec_ne u)
  | cons c r =>
    rw [he] at hp hd
    have hc := hd c (List.mem_cons_self ..)
    unfold Lib.atoiAll
    simp only
    rw [if_neg (show ¬ (c.toNat = 43 ∨ c.toNat = 45) by omega)]
    unfold Lib.parseMag
    rw [if_neg (by simp), hp]
    simp only
    rw [if_neg (by omega), if_neg (by omega), if_neg (by omega)]
/-- The digits that a number's text is, no more than so many of them. -/
theorem itoa_nat (u : Nat) : Lib.itoa (u : Int) = Lib.decDigits u := by
  unfold Lib.itoa
  rw [if_neg (by omega), Int.toNat_natCast]
theorem dec_inj {u v : Nat} (hu : u ≤ 9223372036854775807) (hv : v ≤ 9223372036854775807) (h : Lib.decDigits u = Lib.decDigits v) : u = v := by
  have h1 := atoi_dec hu
  rw [h, atoi_dec hv] at h1
  injection h1 with h1
  omega
theorem dec_len_lt : ∀ (k u : Nat), 1 ≤ k → ((Lib.decDigits u).length ≤ k ↔ u < 10 ^ k)
  | 0, u, h => by omega
  | k + 1, u, _ => by
    by_cases h : u < 10
    · rw [Lib.decDigits, dif_pos h]
      have : 10 ^ 1 ≤ 10 ^ (k + 1) := Nat.pow_le_pow_right (by omega) (by omega)
      simp
      omega
    · rw [Lib.decDigits, dif_neg h, List.length_append, List.length_singleton]
      rcases Nat.eq_zero_or_pos k with hk | hk
      · subst hk
        have := List.length_pos_iff.2 (dec_ne (u / 10))
        omega
      · have ih := dec_len_lt k (u / 10) hk
        rw [Nat.pow_succ]
        omega
end Go.Proofs.YtbbmgcdocolakaaGreatDoor.Tx
/-
  strings.Cut, strings.Split, strconv.Atoi, slices.Index at strings, out of the library's shelf, laid over this seat's translation; the variables that they read.
-/
namespace Go.Proofs.YtbbmgcdocolakaaGreatDoor
open Go.Shelf Go.RowKit
set_option linter.unusedVariables false
def lay145_ren : Go.Shelf.Ren := ⟨fun | 145 => 30 | 217 => 111 | 219 => 87 | 220 => 63 | 224 => 113 | 225 => 112 | 266 => 130 | 267 => 114 | 314 => 131 | n => n, fun | 3 => 3 | 4 => 4 | 5 => 5 | 9 => 9 | 46 => 139 | 51 => 132 | 59 => 67 | 146 => 199 | n => n, fun | 1 => 1 | n => n⟩
theorem lay145 : Go.Proofs.Lays.n145 Tryz.prog lay145_ren := {
  mixed := by kernel_rfl
  f145 := Tryz.func30.trans (congrArg some (by kernel_rfl))
  f217 := Tryz.func111.trans (congrArg some (by kernel_rfl))
  f219 := Tryz.func87.trans (congrArg some (by kernel_rfl))
  f220 := Tryz.func63.trans (congrArg some (by kernel_rfl))
  f224 := Tryz.func113.trans (congrArg some (by kernel_rfl))
  f225 := Tryz.func112.trans (congrArg some (by kernel_rfl))
  f266 := Tryz.func130.trans (congrArg some (by kernel_rfl))
  f267 := Tryz.func114.trans (congrArg some (by kernel_rfl))
  f314 := Tryz.func131.trans (congrArg some (by kernel_rfl))
  t3 := Tryz.underlying3
  a3 := Tryz.isAgg3
  z3 := Tryz.sizeOf3
  v3 := Tryz.zeroValue3
  t4 := Tryz.underlying4
  a4 := Tryz.isAgg4
  z4 := Tryz.sizeOf4
  v4 := Tryz.zeroValue4
  t5 := Tryz.underlying5
  a5 := Tryz.isAgg5
  z5 := Tryz.sizeOf5
  v5 := Tryz.zeroValue5
  t9 := Tryz.underlying9
  a9 := Tryz.isAgg9
  z9 := Tryz.sizeOf9
  v9 := Tryz.zeroValue9
  t46 := Tryz.underlying139
  a46 := Tryz.isAgg139
  z46 := Tryz.sizeOf139
  v46 := Tryz.zeroValue139
  t51 := Tryz.underlying132
  a51 := Tryz.isAgg132
  z51 := Tryz.sizeOf132
  v51 := Tryz.zeroValue132
  t59 := Tryz.underlying67
  a59 := Tryz.isAgg67
  z59 := Tryz.sizeOf67
  v59 := Tryz.zeroValue67
  t146 := Tryz.underlying199
  a146 := Tryz.isAgg199
  z146 := Tryz.sizeOf199
  v146 := Tryz.zeroValue199
  g1 := by kernel_rfl }
def lay146_ren : Go.Shelf.Ren := ⟨fun | 138 => 116 | 143 => 117 | 146 => 64 | 195 => 132 | 197 => 133 | 217 => 111 | 218 => 134 | 219 => 87 | 221 => 88 | 224 => 113 | 225 => 112 | 260 => 140 | 266 => 130 | 267 => 114 | 268 => 115 | 314 => 131 | n => n, fun | 0 => 0 | 3 => 3 | 4 => 4 | 5 => 5 | 9 => 9 | 21 => 21 | 31 => 47 | 46 => 139 | 51 => 132 | 105 => 202 | 119 => 210 | 138 => 212 | 139 => 213 | 146 => 199 | n => n, fun | 1 => 1 | 3 => 3 | 4 => 4 | n => n⟩
theorem lay146 : Go.Proofs.Lays.n146 Tryz.prog lay146_ren := {
  mixed := by kernel_rfl
  f138 := Tryz.func116.trans (congrArg some (by kernel_rfl))
  f143 := Tryz.func117.trans (congrArg some (by kernel_rfl))
  f146 := Tryz.func64.trans (congrArg some (by kernel_rfl))
  f195 := Tryz.func132.trans (congrArg some (by kernel_rfl))
  f197 := Tryz.func133.trans (congrArg some (by kernel_rfl))
  f217 := Tryz.func111.trans (congrArg some (by kernel_rfl))
  f218 := Tryz.func134.trans (congrArg some (by kernel_rfl))
  f219 := Tryz.func87.trans (congrArg some (by kernel_rfl))
  f221 := Tryz.func88.trans (congrArg some (by kernel_rfl))
  f224 := Tryz.func113.trans (congrArg some (by kernel_rfl))
  f225 := Tryz.func112.trans (congrArg some (by kernel_rfl))
  f260 := Tryz.func140.trans (congrArg some (by kernel_rfl))
  f266 := Tryz.func130.trans (congrArg some (by kernel_rfl))
  f267 := Tryz.func114.trans (congrArg some (by kernel_rfl))
  f268 := Tryz.func115.trans (congrArg some (by kernel_rfl))
  f314 := Tryz.func131.trans (congrArg some (by kernel_rfl))
  t0 := Tryz.underlying0
  a0 := Tryz.isAgg0
  z0 := Tryz.sizeOf0
  v0 := Tryz.zeroValue0
  t3 := Tryz.underlying3
  a3 := Tryz.isAgg3
  z3 := Tryz.sizeOf3
  v3 := Tryz.zeroValue3
  t4 := Tryz.underlying4
  a4 := Tryz.isAgg4
  z4 := Tryz.sizeOf4
  v4 := Tryz.zeroValue4
  t5 := Tryz.underlying5
  a5 := Tryz.isAgg5
  z5 := Tryz.sizeOf5
  v5 := Tryz.zeroValue5
  t9 := Tryz.underlying9
  a9 := Tryz.isAgg9
  z9 := Tryz.sizeOf9
  v9 := Tryz.zeroValue9
  t21 := Tryz.underlying21
  a21 := Tryz.isAgg21
  z21 := Tryz.sizeOf21
  v21 := Tryz.zeroValue21
  t31 := Tryz.underlying47
  a31 := Tryz.isAgg47
  z31 := Tryz.sizeOf47
  v31 := Tryz.zeroValue47
  t46 := Tryz.underlying139
  a46 := Tryz.isAgg139
  z46 := Tryz.sizeOf139
  v46 := Tryz.zeroValue139
  t51 := Tryz.underlying132
  a51 := Tryz.isAgg132
  z51 := Tryz.sizeOf132
  v51 := Tryz.zeroValue132
  t105 := Tryz.underlying202
  a105 := Tryz.isAgg202
  z105 := Tryz.sizeOf202
  v105 := Tryz.zeroValue202
  t119 := Tryz.underlying210
  a119 := Tryz.isAgg210
  z119 := Tryz.sizeOf210
  t138 := Tryz.underlying212
  a138 := Tryz.isAgg212
  z138 := Tryz.sizeOf212
  v138 := Tryz.zeroValue212
  t139 := Tryz.underlying213
  a139 := Tryz.isAgg213
  z139 := Tryz.sizeOf213
  v139 := Tryz.zeroValue213
  t146 := Tryz.underlying199
  a146 := Tryz.isAgg199
  z146 := Tryz.sizeOf199
  v146 := Tryz.zeroValue199
  g1 := by kernel_rfl
  g3 := by kernel_rfl
  g4 := by kernel_rfl }
/-- The variables of the library that are read: whatever they hold, it is of their types. -/
structure LibW (w : World) : Prop where
  max : ∃ m, w.cell? ⟨1, 0, none⟩ = some (.int .i64 m)
theorem LibW.keep {w w' : World} (h : LibW w) (hb : Below w.heap.size w w') : LibW w' := by
  obtain ⟨⟨m, hm⟩⟩ := h
  exact ⟨⟨m, (hb.cell (World.block_lt_of_cell? _ _ hm)).trans hm⟩⟩
/-- Bytes as a string. -/
abbrev bz (l : List UInt8) : ByteArray := ⟨l.toArray⟩
theorem bz_data (s : ByteArray) : bz s.data.toList = s := rfl
theorem data_bz (l : List UInt8) : (bz l).data.toList = l := by simp
theorem bz_size (l : List UInt8) : (bz l).size = l.length := by
  show l.toArray.size = _
  simp
/-- strings.Cut at one byte. -/
theorem Cut_any (l : List UInt8) (c : UInt8) (w : World) (hs : l.length ≤ 1000000) (hL : LibW w) :
    Calls Tryz.prog 30 #[.string (bz l), .string ⟨#[c]⟩] w fun e w' => e = .returned (.tuple #[.string (bz (Tx.cut1 c l).1), .string (bz (Tx.cut1 c l).2.1), .bool (Tx.cut1 c l).2.2]) ∧ Below w.heap.size w w' := by
  obtain ⟨m, hm⟩ := hL.max
  refine (Any.strings_Cut lay145 (bz l) ⟨#[c]⟩ m w (by rw [bz_size]; omega) hm).mono fun e w' ⟨h1, n, h2⟩ => ⟨?_, by rw [h2]; exact bel_drewN (Below.refl _ _) n⟩
  rw [h1, data_bz]
  have e : (⟨#[c]⟩ : ByteArray).data.toList = [c] := rfl
  rw [e, Tx.cut1_eq]
/-- strings.Split at one byte. -/
theorem Split_any (l : List UInt8) (c : UInt8) (w : World) (hs : l.length ≤ 1000000) (hL : LibW w) :
    Calls Tryz.prog 64 #[.string (bz l), .string ⟨#[c]⟩] w fun e w' => e = .returned (.slice (some ⟨w.heap.size, 0, none⟩) (Tx.split1 c l).length (Tx.split1 c l).length) ∧ Sl w' 1 (some ⟨w.heap.size, 0, none⟩) (Tx.split1 c l).length ((Tx.split1 c l).map fun x => Value.string (bz x)) ∧ Below w.heap.size w w' := by
  obtain ⟨m, hm⟩ := hL.max
  have hsp := Tx.split_eq c (bz l)
  rw [data_bz] at hsp
  have hlen : (Lib.splitB ⟨#[c]⟩ 0 (Lib.countB (bz l) ⟨#[c]⟩) (bz l)).length = Lib.countB (bz l) ⟨#[c]⟩ + 1 := Lib.splitB_all ⟨#[c]⟩ (Nat.le_refl 1) 0 _ _ rfl
  have hln : (Tx.split1 c l).length = Lib.countB (bz l) ⟨#[c]⟩ + 1 := by rw [← hsp, List.length_map, hlen]
  have hvs : (Lib.splitB ⟨#[c]⟩ 0 (Lib.countB (bz l) ⟨#[c]⟩) (bz l)).map Value.string = (Tx.split1 c l).map fun x => Value.string (bz x) := by
    rw [← hsp, List.map_map]
    rfl
  refine (Any.strings_Split lay146 (by kernel_rfl) (bz l) ⟨#[c]⟩ m w (by rw [bz_size]; omega) hm (Nat.le_refl 1)).mono fun e w' ⟨h1, h2⟩ => ?_
  rw [hln]
  refine ⟨h1, ?_, by rw [h2]; exact bel_al (Below.refl _ _) _⟩
  rw [h2, hvs]
  exact Sl.newAt w _ _ _ (by rw [List.length_map, hln])
end Go.Proofs.YtbbmgcdocolakaaGreatDoor
/-
  The frame where the tables of unicode/utf8 are listed beside errors.errorType: what that gives a walk; a world that meets it.
-/
namespace Go.Proofs.YtbbmgcdocolakaaGreatDoor
open Go.ChangeShapes Go.WideShapes Go.ChangeAt Go.RowKit Go.Joins
set_option linter.unusedVariables false
set_option maxRecDepth 100000

def utfLaid : List (String × DataW Unit) := [("unicode/utf8.acceptRanges", Rows.laid_unicode_utf8_acceptRanges), ("errors.errorType", Rows.laid_errors_errorType), ("unicode/utf8.first", Rows.laid_unicode_utf8_first)]
theorem utf_err : (utfLaid.filter fun x => x.1 == "errors.errorType") = errLaid := by kernel_rfl
theorem errT_of_utf {W : World} (h : laidMetH Tryz.prog utfLaid W) : ErrT W := by
  have h1 := laidMetH.filter (fun x => x.1 == "errors.errorType") h
  rw [utf_err] at h1
  exact errT_of_laid h1
theorem libW_of_shape {W : World} (hS : W.ShapedOpen Tryz.prog) : LibW W :=
  ⟨cell_of_shapedOpen_int (g := 1) (t := 3) (zero := #[.int .i64 0]) hS (of_decide_eq_true (by kernel_rfl)) (by kernel_rfl) rfl (by kernel_rfl) (by kernel_rfl) Tryz.underlying3⟩
/-- A table of rows: its values. -/
def litsDeep5 : DataW Unit → List Value
  | .agg ps => ps.flatMap litsOf
  | _ => []
/-- A world that meets the condition: the settled one, the variables' cells laid. -/
noncomputable def utfWorld (os : Os) : World :=
  { laidWorld os with heap := ((laidWorld os).heap.modify 4 fun
      | .cells _ t frozen => .cells (litsDeep5 Rows.laid_unicode_utf8_acceptRanges).toArray t frozen
      | o => o).modify 3 fun
      | .cells _ t frozen => .cells (litsOf Rows.laid_unicode_utf8_first).toArray t frozen
      | o => o }
theorem utf_met (os : Os) (args : Array Value) : laidMetH Tryz.prog utfLaid ((utfWorld os).forCall (fun _ _ => 0) ⟨#[], args, []⟩).memory :=
  laidMetH_of_parts (laidMet_of_run3 300 (by kernel_rfl) (by kernel_rfl) (by kernel_rfl)) (by kernel_rfl)
end Go.Proofs.YtbbmgcdocolakaaGreatDoor
/-
  Chains of errors: errors.As at *api.Fault, errors.Is at a fault, errors.Unwrap, and the fault package's functions over whole chains.
-/
namespace Go.Proofs.YtbbmgcdocolakaaGreatDoor
open Go.RowKit Go.Extern.Stop Go.Stop Go.Extern

def Err.depth : Err → Nat
  | .step _ e => e.depth + 1
  | _ => 0
def Err.flt? : Err → Option (Int × Int × ByteArray)
  | .flt c a s => some (c, a, s)
  | .step _ e => e.flt?
  | _ => none
theorem Err.code_of : ∀ (E : Err), E ≠ .nil → (∀ w v, E.At w v → E.code = match E.flt? with | some (c, _, _) => c | none => -1)
  | .nil, h, _, _, _ => absurd rfl h
  | .flt _ _ _, _, _, _, _ => rfl
  | .txt _, _, _, _, _ => rfl
  | .step _ e, _, w, _, ⟨_, v', _, _, h3, h4⟩ => Err.code_of e h4 w v' h3
theorem Err.at_of : ∀ (E : Err), E.at_ = match E.flt? with | some (_, a, _) => a | none => 0
  | .nil => rfl
  | .flt _ _ _ => rfl
  | .txt _ => rfl
  | .step _ e => Err.at_of e

theorem fs_typeOf (v : Value) (w : World) : (ReflectliteType.typeOf #[.iface 125 v]).run Tryz.prog w = .ok (.iface 178 (.agg #[.pointer (some ⟨7, 125, none⟩)])) w := by kernel_rfl
theorem fs_assignable (w : World) : (ReflectliteType.relation "AssignableTo" ReflectliteType.assignableTo #[.agg #[.pointer (some ⟨7, 125, none⟩)], .iface 178 (.agg #[.pointer (some ⟨7, 78, none⟩)])]).run Tryz.prog w = .ok (.bool false) w := by kernel_rfl
theorem fs_noAs (v : Value) (xT : TypeId) (w : World) : (Instr.typeAssert (.iface 125 v) xT 183 true).run Tryz.prog w = .ok (.tuple #[.nilIface, .bool false]) w := run_typeAssert_lacksB Tryz.underlying183 (by kernel_rfl) (by kernel_rfl) v xT w
theorem fs_hasUnwrap (v : Value) (xT : TypeId) (w : World) : (Instr.typeAssert (.iface 125 v) xT 161 true).run Tryz.prog w = .ok (.tuple #[.iface 125 v, .bool true]) w := run_typeAssert_hasB Tryz.underlying161 (by kernel_rfl) v xT w
theorem fs_methodUnwrap (v : Value) (w : World) : (Go.method 343 125 v "Unwrap").run Tryz.prog w = .ok (164, v) w := by kernel_rfl

theorem stepUnwrap (g : Nat) (v' : Value) (w : World) (hc : w.cell? ⟨g, 1, none⟩ = some v') :
    Calls Tryz.prog 164 #[.pointer (some ⟨g, 0, none⟩)] w fun e w' => e = .returned v' ∧ w = w' := by
  go_enter Tryz.func164, Tryz.ntmps164
  go_wp2
  go_ret
  exact ⟨rfl, rfl⟩

/-- What errors.as leaves: the target is set to the chain's first fault; or the chain has none. -/
def AsPost (E : Err) (w0 w1 : World) (t : Addr) (ev : Ending) (w' : World) : Prop :=
  (∃ c a s g, E.flt? = some (c, a, s) ∧ ev = .returned (.bool true) ∧ Blk w0 g 81 #[.int .i64 c, .int .i64 a, .string s] ∧ (w1.alloc (.cells #[.pointer (some ⟨g, 0, none⟩)] 78)).setCell t (.pointer (some ⟨g, 0, none⟩)) = w') ∨
  (E.flt? = none ∧ ev = .returned (.bool false) ∧ w1 = w')

theorem Err.At.iface_ {w : World} {E : Err} {v : Value} (h : E.At w v) (hne : E ≠ .nil) : ∃ T x, v = .iface T x := by
  cases E with
  | nil => exact absurd rfl hne
  | flt c a s => obtain ⟨g, rfl, _⟩ := h; exact ⟨_, _, rfl⟩
  | step w e => obtain ⟨g, _, rfl, _⟩ := h; exact ⟨_, _, rfl⟩
  | txt s => exact h.elim

set_option maxHeartbeats 2000000 in
theorem as_any (E : Err) (v : Value) (w0 w : World) (hE : E.At w0 v) (hw : Below w0.heap.size w0 w) (hne : E ≠ .nil) (t b : Addr) (old : Value) (hb0 : w.cell? b = some (.pointer (some t))) (ht0 : w.cell? t = some old) (hf0 : w.frozen? t = false) :
    Calls Tryz.prog 92 #[v, .iface 117 (.pointer (some t)), .agg #[.pointer (some ⟨7, 117, none⟩), .pointer (some b), .int .u64 150], .iface 178 (.agg #[.pointer (some ⟨7, 78, none⟩)])] w
      (AsPost E w0 (w.alloc (.cells #[.pointer (some ⟨7, 117, none⟩), .pointer (some b), .int .u64 150] 148)) t) := by
  have h83 := @run_callFunc_extern Tryz.prog 89 _ (fun args => ReflectliteValue.unpack (args.getD 0 (.tuple #[]))) Tryz.func89 (by kernel_rfl) (by kernel_rfl) (by kernel_rfl) (by kernel_rfl)
  have h87 := @run_callFunc_extern Tryz.prog 118 _ ReflectliteType.typeOf Tryz.func118 (by kernel_rfl) (by kernel_rfl) (by kernel_rfl) (by kernel_rfl)
  have h125 := @run_callFunc_extern Tryz.prog 169 _ (ReflectliteType.relation "AssignableTo" ReflectliteType.assignableTo) Tryz.func169 (by kernel_rfl) (by kernel_rfl) (by kernel_rfl) (by kernel_rfl)
  have h95 := @run_callFunc_extern Tryz.prog 119 _ (ReflectliteValue.method (ReflectliteValue.valueError "reflectlite.Value.Elem" 0) ReflectliteValue.elem) Tryz.func119 (by kernel_rfl) (by kernel_rfl) (by kernel_rfl) (by kernel_rfl)
  have h96 := @run_callFunc_extern Tryz.prog 120 _ ReflectliteValue.set Tryz.func120 (by kernel_rfl) (by kernel_rfl) (by kernel_rfl) (by kernel_rfl)
  have tO := fx_typeOf
  have mA := fx_methodAssignableTo
  have aP := fx_assignable
  have vP := fx_valueOfP
  have tS := fs_typeOf
  have aS := fs_assignable
  have nS := fs_noAs
  have uS := fs_hasUnwrap
  have mS := fs_methodUnwrap
  have htl := World.block_lt_of_cell? w t ht0
  have hbl := World.block_lt_of_cell? w b hb0
  have el := fx_elemV b t (w.alloc (.cells #[.pointer (some ⟨7, 117, none⟩), .pointer (some b), .int .u64 150] 148)) (by rw [World.cell?_alloc_lt _ _ b hbl]; exact hb0)
  have st := fun e => fx_set t ⟨w.heap.size + 1, 0, none⟩ e old ((w.alloc (.cells #[.pointer (some ⟨7, 117, none⟩), .pointer (some b), .int .u64 150] 148)).alloc (.cells #[.pointer (some e)] 78))
    (by rw [World.cell?_alloc_at _ _ _ _ (by simp)]; rfl)
    (by rw [World.cell?_alloc_lt _ _ t (by simp; omega), World.cell?_alloc_lt _ _ t htl]; exact ht0)
    (by rw [World.frozen?_alloc_old _ _ t (by simp; omega), World.frozen?_alloc_old _ _ t (Nat.ne_of_lt htl)]; exact hf0)
  have HB := Lib.hid (bel_al hw (.cells #[.pointer (some ⟨7, 117, none⟩), .pointer (some b), .int .u64 150] 148))
  clear hb0 ht0 hf0 hw
  go_enter Tryz.func92, Tryz.ntmps92
  go_wp2
  go_loopg [0] E.depth (fun k e wr => ∃ E' : Err, E'.At w0 e ∧ E'.depth = k ∧ Hid (E'.flt? = E.flt?) ∧ E' ≠ .nil ∧ wr = w.alloc (.cells #[.pointer (some ⟨7, 117, none⟩), .pointer (some b), .int .u64 150] 148))
  case atStart => exact ⟨E, hE, rfl, rfl, hne, rfl⟩
  case round =>
    obtain ⟨E', hE', hk, HE, hne', rfl⟩ := hrel
    clear hE hne
    cases E' with
    | nil => exact absurd rfl hne'
    | flt c a s =>
      obtain ⟨g, rfl, hblk⟩ := hE'
      have st' := st ⟨g, 0, none⟩
      have HK := Lib.hid hblk
      clear hblk st
      go_wp2
      go_ret
      exact .inl ⟨c, a, s, g, HE.out.symm, rfl, HK.out, rfl⟩
    | txt s => exact hE'.elim
    | step word e =>
      obtain ⟨g, v', rfl, hblk, hv', hnn⟩ := hE'
      have hc1 := (hblk.keep HB.out).cell 1
      simp at hc1
      have HV := Lib.hid hv'
      have HU := Lib.hid (stepUnwrap g v' _ hc1)
      obtain ⟨T, x, rfl⟩ := Err.At.iface_ hv' hnn
      have HK := Lib.hid hk
      have HN := Lib.hid hnn
      clear hblk st hv' hk hc1 hnn hne'
      go_wp2_with (go_at_call 164; refine HU.out.mono ?_; rintro ev w' ⟨rfl, rfl⟩)
      go_roundg e.depth
      case measure => have := HK.out; simp only [Err.depth] at this; omega
      case rel => exact ⟨e, HV.out, rfl, HE.out, HN.out, rfl⟩
end Go.Proofs.YtbbmgcdocolakaaGreatDoor
/-
  The fault package over whole chains: errors.As, fault.fault, fault.Code, fault.At.
-/
namespace Go.Proofs.YtbbmgcdocolakaaGreatDoor
open Go.RowKit Go.Extern.Stop Go.Stop Go.Extern

set_option maxHeartbeats 2000000 in
theorem As_any (E : Err) (v : Value) (w0 w : World) (hE : E.At w0 v) (hw : Below w0.heap.size w0 w) (hne : E ≠ .nil) (t : Addr) (old : Value) (hg : w.cell? ⟨0, 0, none⟩ = some (.iface 178 (.agg #[.pointer (some ⟨7, 34, none⟩)]))) (ht0 : w.cell? t = some old) (hf0 : w.frozen? t = false) :
    Calls Tryz.prog 66 #[v, .iface 117 (.pointer (some t))] w fun ev w' => ∃ W W1, AsPost E w0 W1 t ev w' ∧ W = ((w.alloc (.cells #[.pointer (some t)] 117)).alloc (.cells #[.pointer (some ⟨7, 117, none⟩), .pointer (some ⟨w.heap.size, 0, none⟩), .int .u64 150] 148)) ∧ W1 = W.alloc (.cells #[.pointer (some ⟨7, 117, none⟩), .pointer (some ⟨w.heap.size, 0, none⟩), .int .u64 150] 148) := by
  have h83 := @run_callFunc_extern Tryz.prog 89 _ (fun args => ReflectliteValue.unpack (args.getD 0 (.tuple #[]))) Tryz.func89 (by kernel_rfl) (by kernel_rfl) (by kernel_rfl) (by kernel_rfl)
  have h84 := @run_callFunc_extern Tryz.prog 90 _ (ReflectliteValue.methodAny (ReflectliteValue.valueError "reflectlite.Value.Type" 0) (fun t _ _ _ => ReflectliteType.toType t)) Tryz.func90 (by kernel_rfl) (by kernel_rfl) (by kernel_rfl) (by kernel_rfl)
  have h85 := @run_callFunc_extern Tryz.prog 91 _ (ReflectliteValue.method (ReflectliteValue.valueError "reflectlite.Value.IsNil" 0) ReflectliteValue.isNil) Tryz.func91 (by kernel_rfl) (by kernel_rfl) (by kernel_rfl) (by kernel_rfl)
  have h112 := @run_callFunc_extern Tryz.prog 157 _ (ReflectliteType.abiMethod fun t => do pure (.int .u8 (← Rtype.kind t))) Tryz.func157 (by kernel_rfl) (by kernel_rfl) (by kernel_rfl) (by kernel_rfl)
  have h127 := @run_callFunc_extern Tryz.prog 171 _ (ReflectliteType.method ReflectliteType.elem) Tryz.func171 (by kernel_rfl) (by kernel_rfl) (by kernel_rfl) (by kernel_rfl)
  have h128 := @run_callFunc_extern Tryz.prog 172 _ (ReflectliteType.relation "Implements" ReflectliteType.implements_) Tryz.func172 (by kernel_rfl) (by kernel_rfl) (by kernel_rfl) (by kernel_rfl)
  have f83 := fx_valueOf
  have f84 := fx_type
  have mK := fx_methodKind
  have mE := fx_methodElem
  have mI := fx_methodImplements
  have kPP := fx_kindPP
  have kP := fx_kindP
  have eP := fx_elem
  have iP := fx_implements
  have hlt : 0 < w.heap.size := World.block_lt_of_cell? w _ hg
  have htl := World.block_lt_of_cell? w t ht0
  have n8 := fx_isNil ⟨w.heap.size, 0, none⟩ t ((w.alloc (.cells #[.pointer (some t)] 117)).alloc (.cells #[.pointer (some ⟨7, 117, none⟩), .pointer (some ⟨w.heap.size, 0, none⟩), .int .u64 150] 148)) (by simp)
  have hg2 : ((w.alloc (.cells #[.pointer (some t)] 117)).alloc (.cells #[.pointer (some ⟨7, 117, none⟩), .pointer (some ⟨w.heap.size, 0, none⟩), .int .u64 150] 148)).cell? ⟨0, 0, none⟩ = some (.iface 178 (.agg #[.pointer (some ⟨7, 34, none⟩)])) := by
    rw [World.cell?_alloc_lt _ _ ⟨0, 0, none⟩ (by simp <;> omega), World.cell?_alloc_lt _ _ ⟨0, 0, none⟩ hlt]; exact hg
  have hin := as_any E v w0 ((w.alloc (.cells #[.pointer (some t)] 117)).alloc (.cells #[.pointer (some ⟨7, 117, none⟩), .pointer (some ⟨w.heap.size, 0, none⟩), .int .u64 150] 148)) hE (bel_al (bel_al hw _) _) hne t ⟨w.heap.size, 0, none⟩ old
    (by rw [World.cell?_alloc_lt _ _ ⟨w.heap.size, 0, none⟩ (by simp)]; simp)
    (by rw [World.cell?_alloc_lt _ _ t (by simp; omega), World.cell?_alloc_lt _ _ t htl]; exact ht0)
    (by rw [World.frozen?_alloc_old _ _ t (by simp; omega), World.frozen?_alloc_old _ _ t (Nat.ne_of_lt htl)]; exact hf0)
  have HIN := Lib.hid hin
  obtain ⟨T, x, rfl⟩ := Err.At.iface_ hE hne
  clear hin hE hne ht0 hf0 hw
  go_enter Tryz.func66, Tryz.ntmps66
  go_wp2_with (go_at_call 92; refine HIN.out.mono ?_)
  intro ev w' hp
  have HP := Lib.hid hp
  rcases hp with ⟨c, a, s, g, h1, rfl, h2, rfl⟩ | ⟨h1, rfl, rfl⟩
  · clear h1 h2
    go_wp2
    go_ret
    exact ⟨_, _, HP.out, rfl, rfl⟩
  · clear h1
    go_wp2
    go_ret
    exact ⟨_, _, HP.out, rfl, rfl⟩

/-- What errors.As leaves, its target the one cell t. -/
def AsDone (E : Err) (w0 w : World) (t : Addr) (old : Value) (ev : Ending) (w' : World) : Prop :=
  Below t.block w w' ∧
  ((∃ c a s g, E.flt? = some (c, a, s) ∧ ev = .returned (.bool true) ∧ Blk w0 g 81 #[.int .i64 c, .int .i64 a, .string s] ∧ w'.cell? t = some (.pointer (some ⟨g, 0, none⟩))) ∨
   (E.flt? = none ∧ ev = .returned (.bool false) ∧ w'.cell? t = some old))

theorem As_done (E : Err) (v : Value) (w0 w : World) (hE : E.At w0 v) (hw : Below w0.heap.size w0 w) (t : Addr) (old : Value) (hg : ErrT w) (ht0 : w.cell? t = some old) (hf0 : w.frozen? t = false) :
    Calls Tryz.prog 66 #[v, .iface 117 (.pointer (some t))] w (AsDone E w0 w t old) := by
  have htl := World.block_lt_of_cell? w t ht0
  by_cases hne : E = .nil
  · subst hne
    obtain rfl : v = .nilIface := hE
    refine (as_nil _ _).mono ?_
    rintro ev w' ⟨rfl, rfl⟩
    exact ⟨Below.refl _ _, .inr ⟨rfl, rfl, ht0⟩⟩
  · refine (As_any E v w0 w hE hw hne t old hg ht0 hf0).mono ?_
    rintro ev w' ⟨W, W1, hp, hW, hW1⟩
    have hb : Below w.heap.size w W1 := by rw [hW1, hW]; exact bel_al (bel_al (bel_al (Below.refl _ _) _) _) _
    have hc : W1.cell? t = some old := (hb.cell htl).trans ht0
    rcases hp with ⟨c, a, s, g, h1, rfl, h2, rfl⟩ | ⟨h1, rfl, rfl⟩
    · refine ⟨((bel_al hb _).mono (Nat.le_of_lt htl)).setCell (Nat.le_refl _) _, .inl ⟨c, a, s, g, h1, rfl, h2, ?_⟩⟩
      exact World.cell?_setCell_same _ _ _ (((bel_al hb _).cell htl).trans ht0)
    · exact ⟨hb.mono (Nat.le_of_lt htl), .inr ⟨h1, rfl, hc⟩⟩

/-- fault.fault: a pointer to the chain's first fault, or none. -/
def FaultPost (E : Err) (w : World) (ev : Ending) (w' : World) : Prop :=
  Below w.heap.size w w' ∧
  ((∃ c a s g, E.flt? = some (c, a, s) ∧ ev = .returned (.pointer (some ⟨g, 0, none⟩)) ∧ Blk w' g 81 #[.int .i64 c, .int .i64 a, .string s]) ∨ (E.flt? = none ∧ ev = .returned (.pointer none)))

theorem fault_any (E : Err) (v : Value) (w : World) (hE : E.At w v) (hg : ErrT w) : Calls Tryz.prog 37 #[v] w (FaultPost E w) := by
  have hb0 := bel_al (Below.refl w.heap.size w) (.cells #[.pointer none] 78)
  have HA := Lib.hid (As_done E v w _ hE hb0 ⟨w.heap.size, 0, none⟩ (.pointer none) (hg.keep hb0) (by simp) (by simp))
  have HE := Lib.hid hE
  clear hE hb0
  go_enter Tryz.func37, Tryz.ntmps37
  go_wp2_with (go_at_call 66; refine HA.out.mono ?_)
  rintro ev w' ⟨hb, hp⟩
  have hb' : Below w.heap.size w w' := (bel_al (Below.refl _ _) _).trans hb
  rcases hp with ⟨c, a, s, g, h1, rfl, h2, h3⟩ | ⟨h1, rfl, h3⟩
  · have H1 := Lib.hid h1
    have H2 := Lib.hid h2
    clear h1 h2
    go_wp2
    go_ret
    exact ⟨hb', .inl ⟨c, a, s, g, H1.out, rfl, H2.out.keep hb'⟩⟩
  · have H1 := Lib.hid h1
    clear h1
    go_wp2
    go_ret
    exact ⟨hb', .inr ⟨H1.out, rfl⟩⟩

theorem Code_any (E : Err) (v : Value) (w : World) (hE : E.At w v) (hg : ErrT w) :
    Calls Tryz.prog 15 #[v] w fun e w' => e = .returned (.int .i64 E.code) ∧ Below w.heap.size w w' := by
  by_cases hne : E = .nil
  · subst hne
    obtain rfl : v = .nilIface := hE
    refine (Code_nil w).mono ?_
    rintro e w' ⟨rfl, rfl⟩
    exact ⟨rfl, Below.refl _ _⟩
  · have hcode := Err.code_of E hne w v hE
    have HC := Lib.hid hcode
    have HA := Lib.hid (fault_any E v w hE hg)
    obtain ⟨T, x, rfl⟩ := Err.At.iface_ hE hne
    clear hE hcode hne
    go_enter Tryz.func15, Tryz.ntmps15
    go_wp2_with (go_at_call 37; refine HA.out.mono ?_)
    rintro ev w' ⟨hb, hp⟩
    rcases hp with ⟨c, a, s, g, h1, rfl, h2⟩ | ⟨h1, rfl⟩
    · have H1 := Lib.hid h1
      have hc0 := h2.cell 0
      simp at hc0
      clear h1 h2
      go_wp2
      go_ret
      exact ⟨by rw [HC.out, H1.out]; rfl, hb⟩
    · have H1 := Lib.hid h1
      clear h1
      go_wp2
      go_ret
      exact ⟨by rw [HC.out, H1.out]; rfl, hb⟩

theorem At_any (E : Err) (v : Value) (w : World) (hE : E.At w v) (hg : ErrT w) :
    Calls Tryz.prog 16 #[v] w fun e w' => e = .returned (.int .i64 E.at_) ∧ Below w.heap.size w w' := by
  have HC := Lib.hid (Err.at_of E)
  have HA := Lib.hid (fault_any E v w hE hg)
  clear hE
  go_enter Tryz.func16, Tryz.ntmps16
  go_wp2_with (go_at_call 37; refine HA.out.mono ?_)
  rintro ev w' ⟨hb, hp⟩
  rcases hp with ⟨c, a, s, g, h1, rfl, h2⟩ | ⟨h1, rfl⟩
  · have H1 := Lib.hid h1
    have hc0 := h2.cell 1
    simp at hc0
    clear h1 h2
    go_wp2
    go_ret
    exact ⟨by rw [HC.out, H1.out]; rfl, hb⟩
  · have H1 := Lib.hid h1
    clear h1
    go_wp2
    go_ret
    exact ⟨by rw [HC.out, H1.out]; rfl, hb⟩
end Go.Proofs.YtbbmgcdocolakaaGreatDoor
