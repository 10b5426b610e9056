/-
  strings.Builder's writing methods, out of the library's shelf, laid over this seat's translation.
-/
import Derived.Test.YtkhhjompondnnaaDoorWords
import Derived.Test.YtkhhjompondnnaaDoorProg
import Derived.Shelf.Strings.Builder1
import Derived.Shelf.Strings.BuilderK
namespace Go.Proofs.YtkhhjompondnnaaDoor
open Go.Shelf Go.RowKit
def bl240_ren : Go.Shelf.Ren := ⟨fun | 240 => 94 | 276 => 97 | n => n, fun | 0 => 0 | 4 => 4 | 9 => 9 | 20 => 20 | 37 => 37 | 70 => 126 | 72 => 128 | 164 => 132 | n => n, fun | n => n⟩
theorem bl240 : Lays.n240 Tryd.prog bl240_ren := {
  mixed := by kernel_rfl
  f240 := Tryd.func94.trans (congrArg some (by kernel_rfl))
  f276 := Tryd.func97.trans (congrArg some (by kernel_rfl))
  t0 := Tryd.underlying0
  a0 := Tryd.isAgg0
  z0 := Tryd.sizeOf0
  v0 := Tryd.zeroValue0
  t4 := Tryd.underlying4
  a4 := Tryd.isAgg4
  z4 := Tryd.sizeOf4
  v4 := Tryd.zeroValue4
  t9 := Tryd.underlying9
  a9 := Tryd.isAgg9
  z9 := Tryd.sizeOf9
  v9 := Tryd.zeroValue9
  t20 := Tryd.underlying20
  a20 := Tryd.isAgg20
  z20 := Tryd.sizeOf20
  v20 := Tryd.zeroValue20
  t70 := Tryd.underlying126
  a70 := Tryd.isAgg126
  z70 := Tryd.sizeOf126
  v70 := Tryd.zeroValue126
  t72 := Tryd.underlying128
  a72 := Tryd.isAgg128
  z72 := Tryd.sizeOf128
  v72 := Tryd.zeroValue128
  t164 := Tryd.underlying132
  a164 := Tryd.isAgg132
  z164 := Tryd.sizeOf132
  v164 := Tryd.zeroValue132 }
def bl166_ren : Go.Shelf.Ren := ⟨fun | 166 => 81 | 240 => 94 | 276 => 97 | n => n, fun | 0 => 0 | 3 => 3 | 4 => 4 | 5 => 5 | 9 => 9 | 20 => 20 | 37 => 37 | 70 => 126 | 72 => 128 | 75 => 26 | 80 => 131 | 164 => 132 | n => n, fun | n => n⟩
theorem bl166 : Lays.n166 Tryd.prog bl166_ren := {
  mixed := by kernel_rfl
  f166 := Tryd.func81.trans (congrArg some (by kernel_rfl))
  f240 := Tryd.func94.trans (congrArg some (by kernel_rfl))
  f276 := Tryd.func97.trans (congrArg some (by kernel_rfl))
  t0 := Tryd.underlying0
  a0 := Tryd.isAgg0
  z0 := Tryd.sizeOf0
  v0 := Tryd.zeroValue0
  t3 := Tryd.underlying3
  a3 := Tryd.isAgg3
  z3 := Tryd.sizeOf3
  v3 := Tryd.zeroValue3
  t4 := Tryd.underlying4
  a4 := Tryd.isAgg4
  z4 := Tryd.sizeOf4
  v4 := Tryd.zeroValue4
  t9 := Tryd.underlying9
  a9 := Tryd.isAgg9
  z9 := Tryd.sizeOf9
  v9 := Tryd.zeroValue9
  t20 := Tryd.underlying20
  a20 := Tryd.isAgg20
  z20 := Tryd.sizeOf20
  v20 := Tryd.zeroValue20
  t37 := Tryd.underlying37
  a37 := Tryd.isAgg37
  z37 := Tryd.sizeOf37
  v37 := Tryd.zeroValue37
  t70 := Tryd.underlying126
  a70 := Tryd.isAgg126
  z70 := Tryd.sizeOf126
  v70 := Tryd.zeroValue126
  t72 := Tryd.underlying128
  a72 := Tryd.isAgg128
  z72 := Tryd.sizeOf128
  v72 := Tryd.zeroValue128
  t75 := Tryd.underlying26
  a75 := Tryd.isAgg26
  z75 := Tryd.sizeOf26
  v75 := Tryd.zeroValue26
  t164 := Tryd.underlying132
  a164 := Tryd.isAgg132
  z164 := Tryd.sizeOf132
  v164 := Tryd.zeroValue132 }
def bl169_ren : Go.Shelf.Ren := ⟨fun | 169 => 82 | n => n, fun | 0 => 0 | 3 => 3 | 5 => 5 | 9 => 9 | 37 => 37 | 70 => 126 | 72 => 128 | 127 => 155 | n => n, fun | n => n⟩
theorem bl169 : Lays.n169 Tryd.prog bl169_ren := {
  mixed := by kernel_rfl
  f169 := Tryd.func82.trans (congrArg some (by kernel_rfl))
  t0 := Tryd.underlying0
  a0 := Tryd.isAgg0
  z0 := Tryd.sizeOf0
  v0 := Tryd.zeroValue0
  t3 := Tryd.underlying3
  a3 := Tryd.isAgg3
  z3 := Tryd.sizeOf3
  v3 := Tryd.zeroValue3
  t9 := Tryd.underlying9
  a9 := Tryd.isAgg9
  z9 := Tryd.sizeOf9
  v9 := Tryd.zeroValue9
  t37 := Tryd.underlying37
  a37 := Tryd.isAgg37
  z37 := Tryd.sizeOf37
  v37 := Tryd.zeroValue37
  t70 := Tryd.underlying126
  a70 := Tryd.isAgg126
  z70 := Tryd.sizeOf126
  v70 := Tryd.zeroValue126
  t72 := Tryd.underlying128
  a72 := Tryd.isAgg128
  z72 := Tryd.sizeOf128
  v72 := Tryd.zeroValue128
  t127 := Tryd.underlying155
  a127 := Tryd.isAgg155
  z127 := Tryd.sizeOf155
  v127 := Tryd.zeroValue155 }
theorem bx166 : Builder.Extra Tryd.prog bl166_ren := {
  sizeBuilder := by kernel_rfl
  liesBuilder := by kernel_rfl
  t5 := Tryd.underlying5
  a5 := Tryd.isAgg5
  z5 := Tryd.sizeOf5
  v5 := Tryd.zeroValue5
  infoByte := by kernel_rfl
  cellsByte := by kernel_rfl
  sizeByte := by kernel_rfl
  neB5 := by decide }
theorem bx169 : Builder.Extra Tryd.prog bl169_ren := {
  sizeBuilder := by kernel_rfl
  liesBuilder := by kernel_rfl
  t5 := Tryd.underlying5
  a5 := Tryd.isAgg5
  z5 := Tryd.sizeOf5
  v5 := Tryd.zeroValue5
  infoByte := by kernel_rfl
  cellsByte := by kernel_rfl
  sizeByte := by kernel_rfl
  neB5 := by decide }

/-- The block b holds a builder whose bytes are l (B: the first block of the call's own). -/
def Bld (B b : Nat) (l : List UInt8) (w : World) : Prop := Lib.IsBuilderF 128 5 B b (Lib.byteCells l) w

/-- A row of the call's own, of other elements than bytes, while a builder is written. -/
theorem own_others {w w' : World} {B b base size n : Nat} {e : TypeId} {v : Value} {l : List UInt8} {xs : List Value} (h : w.ownsRow base e size v n xs) (hk : Lib.OthersKept 5 (some b) w w') (hB : Bld B b l w)
    (he : e ≠ 5) (he' : e ≠ 128) : w'.ownsRow base e size v n xs := by
  refine ⟨h.1, ?_⟩
  rcases h.2 with h0 | ⟨g, cap, cur, hv, hb, hg, hr⟩
  · exact .inl h0
  · refine .inr ⟨g, cap, cur, hv, hb, hk g _ hg ?_ ?_, hr⟩
    · intro hgb
      obtain rfl : g = b := Option.some.inj hgb
      rcases hB with hB | hB
      all_goals
        obtain ⟨_, u, hbk, _⟩ := hB
        rw [hg] at hbk
        injection hbk with hbk
        injection hbk with _ ht
        exact he' ht
    · intro c fz hc
      injection hc with _ ht
      exact he ht

theorem WriteString_any (B b : Nat) (l : List UInt8) (s : ByteArray) (w : World) (h : Bld B b l w) (hlen : l.length + s.size ≤ lim) (hB : B ≤ w.heap.size) :
    Calls Tryd.prog 81 #[.pointer (some ⟨b, 0, none⟩), .string s] w fun e w' => e = .returned (.tuple #[.int .i64 s.size, .nilIface]) ∧ Bld B b (l ++ s.data.toList) w' ∧ Below B w w' ∧ Lib.OthersKept 5 (some b) w w' := by
  refine (Any.Builder_WriteString_k bl166 bx166 B b (Lib.byteCells l) s w h (by unfold lim at hlen; simpa [Lib.byteCells] using hlen) hB).mono ?_
  rintro e w' ⟨rfl, h1, h2, h3⟩
  refine ⟨rfl, .inr ?_, h2, h3⟩
  have e1 : Lib.byteCells l ++ Lib.strCells s = Lib.byteCells (l ++ s.data.toList) := by simp [Lib.byteCells, Lib.strCells]
  rw [← e1]; exact h1
theorem String_any (B b : Nat) (l : List UInt8) (w : World) (h : Bld B b l w) (hB : B ≤ w.heap.size) :
    Calls Tryd.prog 82 #[.pointer (some ⟨b, 0, none⟩)] w fun e w' => e = .returned (.string ⟨l.toArray⟩) ∧ Below B w w' :=
  (Any.Builder_String_any_k bl169 bx169 B b l w h hB).mono fun _ _ ⟨h1, _, h3, _⟩ => ⟨h1, h3⟩
theorem Bld.new (w : World) : Bld w.heap.size w.heap.size [] (w.alloc (.cells #[.pointer none, .slice none 0 0] 128)) :=
  .inl ⟨Nat.le_refl _, .slice none 0 0, heap_alloc_new w _, World.ownsRowF_nil _ _ _ _, by simp [Value.ownBlock]⟩
/-- A fresh builder stays while nothing below the next block is written. -/
theorem Bld.fresh {w w' : World} (h : Below (w.heap.size + 1) (w.alloc (.cells #[.pointer none, .slice none 0 0] 128)) w') : Bld w.heap.size w.heap.size [] w' :=
  .inl ⟨Nat.le_refl _, .slice none 0 0, (h.block _ (by omega)).trans (heap_alloc_new w _), World.ownsRowF_nil _ _ _ _, by simp [Value.ownBlock]⟩
end Go.Proofs.YtkhhjompondnnaaDoor
