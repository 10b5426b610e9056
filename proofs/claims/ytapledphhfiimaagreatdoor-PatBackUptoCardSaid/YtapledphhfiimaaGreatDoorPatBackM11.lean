/-
  Part 11 of the proof of PatBack: LibC, ProgP, PgA.
-/
import Derived.Test.YtapledphhfiimaaGreatDoorPatBackM1
import Derived.Test.YtapledphhfiimaaGreatDoorPatBackM4
import Derived.Test.YtapledphhfiimaaGreatDoorPatBackM10
import Derived.Shelf.Strings.Cut
import Derived.Shelf.Strings.Split
import Derived.Shelf.Strconv.AtoiAll
import Derived.Shelf.Slices.Turned
import Derived.Shelf.LaysM
import Derived.Shelf.LaysC
import Derived.Lib.SlicesS
import Derived.BigQuiet
import Derived.Test.YtapledphhfiimaaGreatDoorPatBackM3
set_option linter.unusedVariables false
/-
  strings.Cut, strings.Split, strconv.Atoi, slices.Index at strings, out of the library's shelf, laid over this seat's translation; the variables that they read.
-/
namespace Go.Proofs.YtapledphhfiimaaGreatDoor
open Go.Shelf Go.RowKit
set_option linter.unusedVariables false
def lay145_ren : Go.Shelf.Ren := ⟨fun | 145 => 73 | 217 => 164 | 219 => 140 | 220 => 104 | 224 => 166 | 225 => 165 | 266 => 189 | 267 => 167 | 314 => 190 | n => n, fun | 3 => 3 | 4 => 4 | 5 => 5 | 9 => 9 | 46 => 134 | 51 => 171 | 59 => 117 | 146 => 244 | n => n, fun | 1 => 1 | n => n⟩
theorem lay145 : Go.Proofs.Lays.n145 Tryz.prog lay145_ren := {
  mixed := by kernel_rfl
  f145 := Tryz.func73.trans (congrArg some (by kernel_rfl))
  f217 := Tryz.func164.trans (congrArg some (by kernel_rfl))
  f219 := Tryz.func140.trans (congrArg some (by kernel_rfl))
  f220 := Tryz.func104.trans (congrArg some (by kernel_rfl))
  f224 := Tryz.func166.trans (congrArg some (by kernel_rfl))
  f225 := Tryz.func165.trans (congrArg some (by kernel_rfl))
  f266 := Tryz.func189.trans (congrArg some (by kernel_rfl))
  f267 := Tryz.func167.trans (congrArg some (by kernel_rfl))
  f314 := Tryz.func190.trans (congrArg some (by kernel_rfl))
  t3 := Tryz.underlying3
  a3 := Tryz.isAgg3
  z3 := Tryz.sizeOf3
  v3 := Tryz.zeroValue3
  t4 := Tryz.underlying4
  a4 := Tryz.isAgg4
  z4 := Tryz.sizeOf4
  v4 := Tryz.zeroValue4
  t5 := Tryz.underlying5
  a5 := Tryz.isAgg5
  z5 := Tryz.sizeOf5
  v5 := Tryz.zeroValue5
  t9 := Tryz.underlying9
  a9 := Tryz.isAgg9
  z9 := Tryz.sizeOf9
  v9 := Tryz.zeroValue9
  t46 := Tryz.underlying134
  a46 := Tryz.isAgg134
  z46 := Tryz.sizeOf134
  v46 := Tryz.zeroValue134
  t51 := Tryz.underlying171
  a51 := Tryz.isAgg171
  z51 := Tryz.sizeOf171
  v51 := Tryz.zeroValue171
  t59 := Tryz.underlying117
  a59 := Tryz.isAgg117
  z59 := Tryz.sizeOf117
  v59 := Tryz.zeroValue117
  t146 := Tryz.underlying244
  a146 := Tryz.isAgg244
  z146 := Tryz.sizeOf244
  v146 := Tryz.zeroValue244
  g1 := by kernel_rfl }
def lay146_ren : Go.Shelf.Ren := ⟨fun | 138 => 124 | 143 => 125 | 146 => 65 | 195 => 147 | 197 => 148 | 217 => 164 | 218 => 149 | 219 => 140 | 221 => 87 | 224 => 166 | 225 => 165 | 260 => 170 | 266 => 189 | 267 => 167 | 268 => 123 | 314 => 190 | n => n, fun | 0 => 0 | 3 => 3 | 4 => 4 | 5 => 5 | 9 => 9 | 21 => 21 | 31 => 104 | 46 => 134 | 51 => 171 | 105 => 200 | 119 => 246 | 138 => 248 | 139 => 249 | 146 => 244 | n => n, fun | 1 => 1 | 3 => 3 | 4 => 4 | n => n⟩
theorem lay146 : Go.Proofs.Lays.n146 Tryz.prog lay146_ren := {
  mixed := by kernel_rfl
  f138 := Tryz.func124.trans (congrArg some (by kernel_rfl))
  f143 := Tryz.func125.trans (congrArg some (by kernel_rfl))
  f146 := Tryz.func65.trans (congrArg some (by kernel_rfl))
  f195 := Tryz.func147.trans (congrArg some (by kernel_rfl))
  f197 := Tryz.func148.trans (congrArg some (by kernel_rfl))
  f217 := Tryz.func164.trans (congrArg some (by kernel_rfl))
  f218 := Tryz.func149.trans (congrArg some (by kernel_rfl))
  f219 := Tryz.func140.trans (congrArg some (by kernel_rfl))
  f221 := Tryz.func87.trans (congrArg some (by kernel_rfl))
  f224 := Tryz.func166.trans (congrArg some (by kernel_rfl))
  f225 := Tryz.func165.trans (congrArg some (by kernel_rfl))
  f260 := Tryz.func170.trans (congrArg some (by kernel_rfl))
  f266 := Tryz.func189.trans (congrArg some (by kernel_rfl))
  f267 := Tryz.func167.trans (congrArg some (by kernel_rfl))
  f268 := Tryz.func123.trans (congrArg some (by kernel_rfl))
  f314 := Tryz.func190.trans (congrArg some (by kernel_rfl))
  t0 := Tryz.underlying0
  a0 := Tryz.isAgg0
  z0 := Tryz.sizeOf0
  v0 := Tryz.zeroValue0
  t3 := Tryz.underlying3
  a3 := Tryz.isAgg3
  z3 := Tryz.sizeOf3
  v3 := Tryz.zeroValue3
  t4 := Tryz.underlying4
  a4 := Tryz.isAgg4
  z4 := Tryz.sizeOf4
  v4 := Tryz.zeroValue4
  t5 := Tryz.underlying5
  a5 := Tryz.isAgg5
  z5 := Tryz.sizeOf5
  v5 := Tryz.zeroValue5
  t9 := Tryz.underlying9
  a9 := Tryz.isAgg9
  z9 := Tryz.sizeOf9
  v9 := Tryz.zeroValue9
  t21 := Tryz.underlying21
  a21 := Tryz.isAgg21
  z21 := Tryz.sizeOf21
  v21 := Tryz.zeroValue21
  t31 := Tryz.underlying104
  a31 := Tryz.isAgg104
  z31 := Tryz.sizeOf104
  v31 := Tryz.zeroValue104
  t46 := Tryz.underlying134
  a46 := Tryz.isAgg134
  z46 := Tryz.sizeOf134
  v46 := Tryz.zeroValue134
  t51 := Tryz.underlying171
  a51 := Tryz.isAgg171
  z51 := Tryz.sizeOf171
  v51 := Tryz.zeroValue171
  t105 := Tryz.underlying200
  a105 := Tryz.isAgg200
  z105 := Tryz.sizeOf200
  v105 := Tryz.zeroValue200
  t119 := Tryz.underlying246
  a119 := Tryz.isAgg246
  z119 := Tryz.sizeOf246
  t138 := Tryz.underlying248
  a138 := Tryz.isAgg248
  z138 := Tryz.sizeOf248
  v138 := Tryz.zeroValue248
  t139 := Tryz.underlying249
  a139 := Tryz.isAgg249
  z139 := Tryz.sizeOf249
  v139 := Tryz.zeroValue249
  t146 := Tryz.underlying244
  a146 := Tryz.isAgg244
  z146 := Tryz.sizeOf244
  v146 := Tryz.zeroValue244
  g1 := by kernel_rfl
  g3 := by kernel_rfl
  g4 := by kernel_rfl }
def lay172_ren : Go.Shelf.Ren := ⟨fun | 129 => 121 | 171 => 69 | 172 => 126 | 205 => 193 | 243 => 91 | 244 => 150 | 245 => 151 | 246 => 127 | 247 => 171 | 279 => 172 | 280 => 173 | 281 => 174 | 282 => 175 | 283 => 152 | 284 => 153 | 285 => 154 | 286 => 155 | 287 => 191 | 316 => 192 | 317 => 176 | 318 => 177 | 319 => 178 | 320 => 179 | 321 => 199 | 322 => 200 | 337 => 194 | 338 => 195 | n => n, fun | 0 => 0 | 2 => 2 | 3 => 3 | 4 => 4 | 5 => 5 | 9 => 9 | 20 => 20 | 21 => 21 | 37 => 142 | 46 => 134 | 51 => 171 | 53 => 173 | 75 => 36 | 76 => 146 | 80 => 148 | 85 => 231 | 127 => 178 | 143 => 260 | 145 => 262 | 167 => 230 | 168 => 233 | 171 => 204 | 173 => 206 | 175 => 250 | 210 => 254 | 212 => 237 | 213 => 238 | 232 => 263 | 233 => 264 | n => n, fun | 15 => 5 | 16 => 6 | 17 => 2 | 18 => 7 | 19 => 8 | n => n⟩
theorem lay172 : Go.Proofs.LaysC.n172 Tryz.prog lay172_ren := {
  mixed := by kernel_rfl
  f129 := Tryz.func121.trans (congrArg some (by kernel_rfl))
  f171 := Tryz.func69.trans (congrArg some (by kernel_rfl))
  f172 := Tryz.func126.trans (congrArg some (by kernel_rfl))
  f205 := Tryz.func193.trans (congrArg some (by kernel_rfl))
  f243 := Tryz.func91.trans (congrArg some (by kernel_rfl))
  f244 := Tryz.func150.trans (congrArg some (by kernel_rfl))
  f245 := Tryz.func151.trans (congrArg some (by kernel_rfl))
  f246 := Tryz.func127.trans (congrArg some (by kernel_rfl))
  f247 := Tryz.func171.trans (congrArg some (by kernel_rfl))
  f279 := Tryz.func172.trans (congrArg some (by kernel_rfl))
  f280 := Tryz.func173.trans (congrArg some (by kernel_rfl))
  f281 := Tryz.func174.trans (congrArg some (by kernel_rfl))
  f282 := Tryz.func175.trans (congrArg some (by kernel_rfl))
  f283 := Tryz.func152.trans (congrArg some (by kernel_rfl))
  f284 := Tryz.func153.trans (congrArg some (by kernel_rfl))
  f285 := Tryz.func154.trans (congrArg some (by kernel_rfl))
  f286 := Tryz.func155.trans (congrArg some (by kernel_rfl))
  f287 := Tryz.func191.trans (congrArg some (by kernel_rfl))
  f316 := Tryz.func192.trans (congrArg some (by kernel_rfl))
  f317 := Tryz.func176.trans (congrArg some (by kernel_rfl))
  f318 := Tryz.func177.trans (congrArg some (by kernel_rfl))
  f319 := Tryz.func178.trans (congrArg some (by kernel_rfl))
  f320 := Tryz.func179.trans (congrArg some (by kernel_rfl))
  f321 := Tryz.func199.trans (congrArg some (by kernel_rfl))
  f322 := Tryz.func200.trans (congrArg some (by kernel_rfl))
  f337 := Tryz.func194.trans (congrArg some (by kernel_rfl))
  f338 := Tryz.func195.trans (congrArg some (by kernel_rfl))
  t0 := Tryz.underlying0
  a0 := Tryz.isAgg0
  z0 := Tryz.sizeOf0
  v0 := Tryz.zeroValue0
  t2 := Tryz.underlying2
  a2 := Tryz.isAgg2
  z2 := Tryz.sizeOf2
  v2 := Tryz.zeroValue2
  t3 := Tryz.underlying3
  a3 := Tryz.isAgg3
  z3 := Tryz.sizeOf3
  v3 := Tryz.zeroValue3
  t4 := Tryz.underlying4
  a4 := Tryz.isAgg4
  z4 := Tryz.sizeOf4
  v4 := Tryz.zeroValue4
  t5 := Tryz.underlying5
  a5 := Tryz.isAgg5
  z5 := Tryz.sizeOf5
  v5 := Tryz.zeroValue5
  t9 := Tryz.underlying9
  a9 := Tryz.isAgg9
  z9 := Tryz.sizeOf9
  v9 := Tryz.zeroValue9
  t20 := Tryz.underlying20
  a20 := Tryz.isAgg20
  z20 := Tryz.sizeOf20
  v20 := Tryz.zeroValue20
  t21 := Tryz.underlying21
  a21 := Tryz.isAgg21
  z21 := Tryz.sizeOf21
  v21 := Tryz.zeroValue21
  t37 := Tryz.underlying142
  a37 := Tryz.isAgg142
  z37 := Tryz.sizeOf142
  v37 := Tryz.zeroValue142
  t46 := Tryz.underlying134
  a46 := Tryz.isAgg134
  z46 := Tryz.sizeOf134
  v46 := Tryz.zeroValue134
  t51 := Tryz.underlying171
  a51 := Tryz.isAgg171
  z51 := Tryz.sizeOf171
  v51 := Tryz.zeroValue171
  t53 := Tryz.underlying173
  a53 := Tryz.isAgg173
  z53 := Tryz.sizeOf173
  v53 := Tryz.zeroValue173
  t75 := Tryz.underlying36
  a75 := Tryz.isAgg36
  z75 := Tryz.sizeOf36
  v75 := Tryz.zeroValue36
  t76 := Tryz.underlying146
  a76 := Tryz.isAgg146
  z76 := Tryz.sizeOf146
  v76 := Tryz.zeroValue146
  t85 := Tryz.underlying231
  a85 := Tryz.isAgg231
  z85 := Tryz.sizeOf231
  v85 := Tryz.zeroValue231
  t127 := Tryz.underlying178
  a127 := Tryz.isAgg178
  z127 := Tryz.sizeOf178
  v127 := Tryz.zeroValue178
  t143 := Tryz.underlying260
  a143 := Tryz.isAgg260
  z143 := Tryz.sizeOf260
  v143 := Tryz.zeroValue260
  t145 := Tryz.underlying262
  a145 := Tryz.isAgg262
  z145 := Tryz.sizeOf262
  v145 := Tryz.zeroValue262
  t167 := Tryz.underlying230
  a167 := Tryz.isAgg230
  z167 := Tryz.sizeOf230
  v167 := Tryz.zeroValue230
  t168 := Tryz.underlying233
  a168 := Tryz.isAgg233
  z168 := Tryz.sizeOf233
  v168 := Tryz.zeroValue233
  t171 := Tryz.underlying204
  a171 := Tryz.isAgg204
  z171 := Tryz.sizeOf204
  v171 := Tryz.zeroValue204
  t173 := Tryz.underlying206
  a173 := Tryz.isAgg206
  z173 := Tryz.sizeOf206
  v173 := Tryz.zeroValue206
  t175 := Tryz.underlying250
  a175 := Tryz.isAgg250
  z175 := Tryz.sizeOf250
  v175 := Tryz.zeroValue250
  t210 := Tryz.underlying254
  a210 := Tryz.isAgg254
  z210 := Tryz.sizeOf254
  v210 := Tryz.zeroValue254
  t212 := Tryz.underlying237
  a212 := Tryz.isAgg237
  z212 := Tryz.sizeOf237
  v212 := Tryz.zeroValue237
  t213 := Tryz.underlying238
  a213 := Tryz.isAgg238
  z213 := Tryz.sizeOf238
  t232 := Tryz.underlying263
  a232 := Tryz.isAgg263
  z232 := Tryz.sizeOf263
  v232 := Tryz.zeroValue263
  t233 := Tryz.underlying264
  a233 := Tryz.isAgg264
  z233 := Tryz.sizeOf264
  v233 := Tryz.zeroValue264
  g15 := by kernel_rfl
  g16 := by kernel_rfl
  g17 := by kernel_rfl
  g18 := by kernel_rfl
  g19 := by kernel_rfl
  t80 := Tryz.underlying148
  a80 := Tryz.isAgg148
  z80 := Tryz.sizeOf148
  v80 := Tryz.zeroValue148
  i0 := by kernel_rfl
  i2 := by kernel_rfl
  i3 := by kernel_rfl
  i4 := by kernel_rfl
  i5 := by kernel_rfl
  i9 := by kernel_rfl
  i20 := by kernel_rfl
  i21 := by kernel_rfl
  i37 := by kernel_rfl
  i46 := by kernel_rfl
  i51 := by kernel_rfl
  i53 := by kernel_rfl
  i75 := by kernel_rfl
  i76 := by kernel_rfl
  i80 := by kernel_rfl
  i85 := by kernel_rfl
  i127 := by kernel_rfl
  i143 := by kernel_rfl
  i145 := by kernel_rfl
  i167 := by kernel_rfl
  i168 := by kernel_rfl
  i171 := by kernel_rfl
  i173 := by kernel_rfl
  i175 := by kernel_rfl
  i210 := by kernel_rfl
  i212 := by kernel_rfl
  i232 := by kernel_rfl
  i233 := by kernel_rfl
  m15 := by kernel_rfl
  m16 := by kernel_rfl
  m17 := by kernel_rfl
  m18 := by kernel_rfl
  m19 := by kernel_rfl
  c0 := by kernel_rfl
  c2 := by kernel_rfl
  c3 := by kernel_rfl
  c4 := by kernel_rfl
  c5 := by kernel_rfl
  c9 := by kernel_rfl
  c20 := by kernel_rfl
  c21 := by kernel_rfl
  c37 := by kernel_rfl
  c46 := by kernel_rfl
  c51 := by kernel_rfl
  c53 := by kernel_rfl
  c75 := by kernel_rfl
  c76 := by kernel_rfl
  c80 := by kernel_rfl
  c85 := by kernel_rfl
  c127 := by kernel_rfl
  c143 := by kernel_rfl
  c145 := by kernel_rfl
  c167 := by kernel_rfl
  c168 := by kernel_rfl
  c171 := by kernel_rfl
  c173 := by kernel_rfl
  c175 := by kernel_rfl
  c210 := by kernel_rfl
  c212 := by kernel_rfl
  c213 := by kernel_rfl
  c232 := by kernel_rfl
  c233 := by kernel_rfl }
def lay109_ren : Go.Shelf.Ren := ⟨fun | 109 => 105 | n => n, fun | 0 => 0 | 3 => 3 | 4 => 4 | 9 => 9 | 31 => 104 | n => n, fun n => n⟩
theorem lay109 : Go.Proofs.Lays.n109 Tryz.prog lay109_ren := {
  mixed := by kernel_rfl
  f109 := Tryz.func105.trans (congrArg some (by kernel_rfl))
  t0 := Tryz.underlying0
  a0 := Tryz.isAgg0
  z0 := Tryz.sizeOf0
  v0 := Tryz.zeroValue0
  t3 := Tryz.underlying3
  a3 := Tryz.isAgg3
  z3 := Tryz.sizeOf3
  v3 := Tryz.zeroValue3
  t4 := Tryz.underlying4
  a4 := Tryz.isAgg4
  z4 := Tryz.sizeOf4
  v4 := Tryz.zeroValue4
  t9 := Tryz.underlying9
  a9 := Tryz.isAgg9
  z9 := Tryz.sizeOf9
  v9 := Tryz.zeroValue9
  t31 := Tryz.underlying104
  a31 := Tryz.isAgg104
  z31 := Tryz.sizeOf104
  v31 := Tryz.zeroValue104 }

/-- The variables of the library that are read: whatever they hold, it is of their types. -/
structure LibW (w : World) : Prop where
  max : ∃ m, w.cell? ⟨1, 0, none⟩ = some (.int .i64 m)
  syn : ∃ ev, w.cell? ⟨5, 0, none⟩ = some ev ∧ (ev = .nilIface ∨ ∃ te pe, ev = .iface te pe)
  rng : ∃ ev, w.cell? ⟨6, 0, none⟩ = some ev ∧ (ev = .nilIface ∨ ∃ te pe, ev = .iface te pe)
theorem LibW.keep {w w' : World} (h : LibW w) (hb : Below w.heap.size w w') : LibW w' := by
  obtain ⟨⟨m, hm⟩, ⟨e1, h1, k1⟩, ⟨e2, h2, k2⟩⟩ := h
  exact ⟨⟨m, (hb.cell (World.block_lt_of_cell? _ _ hm)).trans hm⟩, ⟨e1, (hb.cell (World.block_lt_of_cell? _ _ h1)).trans h1, k1⟩, ⟨e2, (hb.cell (World.block_lt_of_cell? _ _ h2)).trans h2, k2⟩⟩
/-- Bytes as a string. -/
abbrev bz (l : List UInt8) : ByteArray := ⟨l.toArray⟩
theorem bz_data (s : ByteArray) : bz s.data.toList = s := rfl
theorem data_bz (l : List UInt8) : (bz l).data.toList = l := by simp
theorem bz_size (l : List UInt8) : (bz l).size = l.length := by
  show l.toArray.size = _
  simp
/-- strings.Cut at one byte. -/
theorem Cut_any (l : List UInt8) (c : UInt8) (w : World) (hs : l.length ≤ 1000000) (hL : LibW w) :
    Calls Tryz.prog 73 #[.string (bz l), .string ⟨#[c]⟩] w fun e w' => e = .returned (.tuple #[.string (bz (Tx.cut1 c l).1), .string (bz (Tx.cut1 c l).2.1), .bool (Tx.cut1 c l).2.2]) ∧ Below w.heap.size w w' := by
  obtain ⟨m, hm⟩ := hL.max
  refine (Any.strings_Cut lay145 (bz l) ⟨#[c]⟩ m w (by rw [bz_size]; omega) hm).mono fun e w' ⟨h1, n, h2⟩ => ⟨?_, by rw [h2]; exact bel_drewN (Below.refl _ _) n⟩
  rw [h1, data_bz]
  have e : (⟨#[c]⟩ : ByteArray).data.toList = [c] := rfl
  rw [e, Tx.cut1_eq]
/-- strings.Split at one byte. -/
theorem Split_any (l : List UInt8) (c : UInt8) (w : World) (hs : l.length ≤ 1000000) (hL : LibW w) :
    Calls Tryz.prog 65 #[.string (bz l), .string ⟨#[c]⟩] w fun e w' => e = .returned (.slice (some ⟨w.heap.size, 0, none⟩) (Tx.split1 c l).length (Tx.split1 c l).length) ∧ Sl w' 1 (some ⟨w.heap.size, 0, none⟩) (Tx.split1 c l).length ((Tx.split1 c l).map fun x => Value.string (bz x)) ∧ Below w.heap.size w w' := by
  obtain ⟨m, hm⟩ := hL.max
  have hsp := Tx.split_eq c (bz l)
  rw [data_bz] at hsp
  have hlen : (Lib.splitB ⟨#[c]⟩ 0 (Lib.countB (bz l) ⟨#[c]⟩) (bz l)).length = Lib.countB (bz l) ⟨#[c]⟩ + 1 := Lib.splitB_all ⟨#[c]⟩ (Nat.le_refl 1) 0 _ _ rfl
  have hln : (Tx.split1 c l).length = Lib.countB (bz l) ⟨#[c]⟩ + 1 := by rw [← hsp, List.length_map, hlen]
  have hvs : (Lib.splitB ⟨#[c]⟩ 0 (Lib.countB (bz l) ⟨#[c]⟩) (bz l)).map Value.string = (Tx.split1 c l).map fun x => Value.string (bz x) := by
    rw [← hsp, List.map_map]
    rfl
  refine (Any.strings_Split lay146 (by kernel_rfl) (bz l) ⟨#[c]⟩ m w (by rw [bz_size]; omega) hm (Nat.le_refl 1)).mono fun e w' ⟨h1, h2⟩ => ?_
  rw [hln]
  refine ⟨h1, ?_, by rw [h2]; exact bel_al (Below.refl _ _) _⟩
  rw [h2, hvs]
  exact Sl.newAt w _ _ _ (by rw [List.length_map, hln])
/-- strconv.Atoi. -/
theorem Atoi_any (l : List UInt8) (w : World) (hs : l.length ≤ 1000000) (hL : LibW w) :
    Calls Tryz.prog 126 #[.string (bz l)] w fun e w' => Below w.heap.size w w' ∧ ((∃ v, Lib.atoiAll l = .ok v ∧ e = .returned (.tuple #[.int .i64 v, .nilIface])) ∨ ((∀ v, Lib.atoiAll l ≠ .ok v) ∧ ∃ (z : Int) (T : TypeId) (x : Value), e = .returned (.tuple #[.int .i64 z, .iface T x]))) := by
  have hd : (bz l).data.toList = l := data_bz l
  rcases h : Lib.atoiAll l with v | _ | _
  · refine (Any.strconv_Atoi_ok lay172 (bz l) (by rw [bz_size]; omega) v (by rw [hd]; exact h) w).mono fun e w' ⟨h1, h2⟩ => ⟨?_, .inl ⟨v, rfl, h1⟩⟩
    rcases h2 with rfl | ⟨t, rfl⟩
    · exact Below.refl _ _
    · exact Lib.bytesWorld_below _ _ _
  · obtain ⟨ev, he, hk⟩ := hL.syn
    exact (Any.strconv_Atoi_syntax lay172 (bz l) (by rw [bz_size]; omega) (by rw [hd]; exact h) ev w he hk).mono fun e w' ⟨N, h1, _, _, h4⟩ => ⟨h4, .inr ⟨fun v e => (by cases e), _, _, _, h1⟩⟩
  · obtain ⟨ev, he, hk⟩ := hL.rng
    exact (Any.strconv_Atoi_range lay172 (bz l) (by rw [bz_size]; omega) (by rw [hd]; exact h) ev w he hk).mono fun e w' ⟨N, h1, _, _, h4⟩ => ⟨h4, .inr ⟨fun v e => (by cases e), _, _, _, h1⟩⟩
end Go.Proofs.YtapledphhfiimaaGreatDoor
/-
  Programs of tests plainly: their texts, there and back.
-/
namespace Go.Proofs.YtapledphhfiimaaGreatDoor.Pg
open Go Go.Proofs.YtapledphhfiimaaGreatDoor.Tx
set_option linter.unusedVariables false

def namesL : List (List UInt8) := [[99, 108, 105, 113, 117, 101], [108, 97, 98, 101, 108, 115], [100, 101, 103, 114, 101, 101], [115, 105, 122, 101], [101, 100, 103, 101, 115], [117, 110, 108, 105, 107, 101], [111, 110, 108, 121], [102, 114, 101, 101]]
def namesB : List ByteArray := namesL.map fun l => ⟨l.toArray⟩
/-- The name of a kind. -/
def nameL (k : Int) : List UInt8 := if 1 ≤ k ∧ k ≤ 8 then namesL.getD (k.toNat - 1) [] else []
/-- The kind of a name. -/
def idxL (l : List UInt8) : List (List UInt8) → Nat → Int
  | [], _ => 0
  | x :: r, i => if x = l then ((i + 1 : Nat) : Int) else idxL l r (i + 1)
def kindZ (l : List UInt8) : Int := idxL l namesL 0
theorem ba_eq {l m : List UInt8} : (⟨l.toArray⟩ : ByteArray) = ⟨m.toArray⟩ ↔ l = m := by
  constructor
  · intro h
    have := congrArg (·.data.toList) h
    simpa using this
  · intro h; rw [h]
theorem idx_eq (l : List UInt8) : ∀ (r : List (List UInt8)) (i : Nat), (∀ x ∈ r, x ≠ l) → idxL l r i = 0
  | [], _, _ => rfl
  | x :: r, i, h => by
    rw [idxL, if_neg (h x (List.mem_cons_self ..)), idx_eq l r (i + 1) fun y hy => h y (List.mem_cons_of_mem _ hy)]
theorem idxFromS_idxL (l : List UInt8) : ∀ (r : List (List UInt8)) (i : Nat), Lib.idxFromS (r.map fun l => ⟨l.toArray⟩) ⟨l.toArray⟩ i + 1 = idxL l r i
  | [], _ => rfl
  | x :: r, i => by
    have ih := idxFromS_idxL l r (i + 1)
    rw [List.map_cons, idxL]
    unfold Lib.idxFromS
    by_cases h : x = l
    · rw [if_pos (by rw [h]), if_pos h]
      omega
    · rw [if_neg (fun e => h (ba_eq.1 e)), if_neg h, ih]
theorem kind_idx (l : List UInt8) : Lib.idxOfS namesB ⟨l.toArray⟩ + 1 = kindZ l := idxFromS_idxL l namesL 0
theorem idxL_some (l : List UInt8) : ∀ (r : List (List UInt8)) (i : Nat), idxL l r i = 0 ∨ ∃ j, j < r.length ∧ idxL l r i = ((i + j + 1 : Nat) : Int) ∧ r.getD j [] = l
  | [], _ => .inl rfl
  | x :: r, i => by
    rw [idxL]
    by_cases h : x = l
    · rw [if_pos h]
      exact .inr ⟨0, by simp, rfl, h⟩
    · rw [if_neg h]
      rcases idxL_some l r (i + 1) with h1 | ⟨j, h1, h2, h3⟩
      · exact .inl h1
      · exact .inr ⟨j + 1, by simpa using h1, by rw [h2]; congr 1; omega, by simpa using h3⟩
theorem kind_cases (l : List UInt8) : kindZ l = 0 ∨ (1 ≤ kindZ l ∧ kindZ l ≤ 8 ∧ nameL (kindZ l) = l) := by
  rcases idxL_some l namesL 0 with h | ⟨j, h1, h2, h3⟩
  · exact .inl h
  · right
    have hl : namesL.length = 8 := rfl
    have e : kindZ l = ((0 + j + 1 : Nat) : Int) := h2
    refine ⟨by omega, by omega, ?_⟩
    unfold nameL
    rw [if_pos (by omega), e, show ((0 + j + 1 : Nat) : Int).toNat - 1 = j by omega, h3]
theorem nat8 {P : Int → Prop} (h : P 1 ∧ P 2 ∧ P 3 ∧ P 4 ∧ P 5 ∧ P 6 ∧ P 7 ∧ P 8) {k : Int} (h1 : 1 ≤ k) (h8 : k ≤ 8) : P k := by
  obtain ⟨p1, p2, p3, p4, p5, p6, p7, p8⟩ := h
  rcases (show k = 1 ∨ k = 2 ∨ k = 3 ∨ k = 4 ∨ k = 5 ∨ k = 6 ∨ k = 7 ∨ k = 8 by omega) with rfl | rfl | rfl | rfl | rfl | rfl | rfl | rfl <;> assumption
theorem kind_name {k : Int} (h1 : 1 ≤ k) (h8 : k ≤ 8) : kindZ (nameL k) = k :=
  nat8 (P := fun k => kindZ (nameL k) = k) ⟨by decide, by decide, by decide, by decide, by decide, by decide, by decide, by decide⟩ h1 h8
theorem name_ne {k : Int} (h1 : 1 ≤ k) (h8 : k ≤ 8) : nameL k ≠ [] ∧ 32 ∉ nameL k ∧ 59 ∉ nameL k ∧ 10 ∉ nameL k ∧ (nameL k).length ≤ 6 :=
  nat8 (P := fun k => nameL k ≠ [] ∧ 32 ∉ nameL k ∧ 59 ∉ nameL k ∧ 10 ∉ nameL k ∧ (nameL k).length ≤ 6) ⟨by decide, by decide, by decide, by decide, by decide, by decide, by decide, by decide⟩ h1 h8
theorem name_out {k : Int} (h : ¬ (1 ≤ k ∧ k ≤ 8)) : nameL k = [] := if_neg h
/-- Does a kind take a number? -/
def takesZ (k : Int) : Bool := !(decide (k = 1) || decide (k = 6) || decide (k = 8))
/-- A test that may be. -/
def opOK (o : Int × Int) : Prop := (1 ≤ o.1 ∧ o.1 ≤ 8) ∧ (0 ≤ o.2 ∧ o.2 ≤ 255) ∧ (takesZ o.1 = false → o.2 = 0)
instance (o : Int × Int) : Decidable (opOK o) := by unfold opOK; exact inferInstance
def rightG (p : List (Int × Int)) : Prop := p.length ≤ 16 ∧ ∀ o ∈ p, opOK o
instance (p : List (Int × Int)) : Decidable (rightG p) := by unfold rightG; exact inferInstance
/-- A test's text. -/
def opL (o : Int × Int) : List UInt8 := nameL o.1 ++ if takesZ o.1 = true then 32 :: Lib.itoa o.2 else []
def textG (p : List (Int × Int)) : List UInt8 := Lib.join (p.map opL) [59]
/-- A number's digits, at most so many, and no others than the number's own. -/
def numP (d : Nat) (s : List UInt8) : Option Int :=
  match Lib.atoiAll s with
  | .ok v => if s.length ≤ d ∧ Lib.itoa v = s ∧ 0 ≤ v then some v else none
  | _ => none
def testP (x : List UInt8) : Option (Int × Int) :=
  if kindZ (cut1 32 x).1 = 0 ∨ (cut1 32 x).2.2 ≠ takesZ (kindZ (cut1 32 x).1) then none
  else if (cut1 32 x).2.2 = true then (numP 6 (cut1 32 x).2.1).map fun v => (kindZ (cut1 32 x).1, v) else some (kindZ (cut1 32 x).1, 0)
def testsP : List (List UInt8) → Option (List (Int × Int))
  | [] => some []
  | x :: r => match testP x with
    | none => none
    | some o => (testsP r).map (o :: ·)
def parseG (s : List UInt8) : Option (List (Int × Int)) :=
  if s = [] then some [] else match testsP (split1 59 s) with
    | none => none
    | some p => if rightG p then some p else none
theorem numP_dec {d u : Nat} (hu : u ≤ 9223372036854775807) (hd : (Lib.decDigits u).length ≤ d) : numP d (Lib.decDigits u) = some (u : Int) := by
  unfold numP
  rw [atoi_dec hu]
  simp only
  rw [if_pos ⟨hd, itoa_nat u, by omega⟩]
theorem numP_some {d : Nat} {s : List UInt8} {v : Int} (h : numP d s = some v) : 0 ≤ v ∧ s = Lib.decDigits v.toNat ∧ s.length ≤ d := by
  unfold numP at h
  split at h
  · split at h
    · rename_i h1
      injection h with h
      subst h
      obtain ⟨h1, h2, h3⟩ := h1
      refine ⟨h3, ?_, h1⟩
      rw [← h2]
      unfold Lib.itoa
      rw [if_neg (by omega)]
    · cases h
  · cases h
theorem testP_of {x nm n : List UInt8} {has : Bool} (h : cut1 32 x = (nm, n, has)) : testP x = if kindZ nm = 0 ∨ has ≠ takesZ (kindZ nm) then none else if has = true then (numP 6 n).map fun v => (kindZ nm, v) else some (kindZ nm, 0) := by
  unfold testP
  rw [h]
theorem testP_opL {o : Int × Int} (h : opOK o) : testP (opL o) = some o := by
  obtain ⟨⟨h1, h8⟩, ⟨h0, h255⟩, hz⟩ := h
  obtain ⟨n1, n2, n3, n4, n5⟩ := name_ne h1 h8
  have hk := kind_name h1 h8
  cases ht : takesZ o.1 with
  | true =>
    have hc : cut1 32 (opL o) = (nameL o.1, Lib.itoa o.2, true) := by
      unfold opL
      rw [if_pos ht]
      exact cut1_app _ n2
    have hi : Lib.itoa o.2 = Lib.decDigits o.2.toNat := by unfold Lib.itoa; rw [if_neg (by omega)]
    rw [testP_of hc, hk, ht, if_neg (fun e => e.elim (fun e => by omega) (fun e => e rfl)), if_pos rfl, hi, numP_dec (by omega) ((dec_len_lt 6 _ (by omega)).2 (by omega))]
    show some (o.1, ((o.2.toNat : Nat) : Int)) = some o
    congr 1
    exact Prod.ext rfl (by simp only; omega)
  | false =>
    have hc : cut1 32 (opL o) = (nameL o.1, [], false) := by
      unfold opL
      rw [if_neg (by rw [ht]; decide), List.append_nil]
      exact cut1_none n2
    rw [testP_of hc, hk, ht, if_neg (fun e => e.elim (fun e => by omega) (fun e => e rfl)), if_neg (by decide)]
    congr 1
    exact Prod.ext rfl (hz ht).symm
theorem testP_some {x : List UInt8} {o : Int × Int} (h : testP x = some o) : opL o = x ∧ (1 ≤ o.1 ∧ o.1 ≤ 8) ∧ 0 ≤ o.2 ∧ o.2 < 1000000 ∧ (takesZ o.1 = false → o.2 = 0) := by
  obtain ⟨nm, n, has, hc⟩ : ∃ nm n has, cut1 32 x = (nm, n, has) := ⟨_, _, _, rfl⟩
  rw [testP_of hc] at h
  split at h
  · cases h
  · rename_i hn
    have hk : kindZ nm ≠ 0 := fun e => hn (.inl e)
    have ht : has = takesZ (kindZ nm) := Decidable.byContradiction fun e => hn (.inr e)
    obtain ⟨k1, k8, knm⟩ := (kind_cases nm).resolve_left hk
    clear hn hk
    rcases cut1_cases 32 x with ⟨hx, hc2⟩ | ⟨a, b, hx, ha, hc2⟩
    · rw [hc] at hc2
      obtain ⟨rfl, rfl, rfl⟩ : nm = x ∧ n = [] ∧ has = false := by simpa using hc2
      rw [if_neg (by decide)] at h
      injection h with h
      subst h
      refine ⟨?_, ⟨k1, k8⟩, Int.le_refl _, (by simp only; omega), fun _ => rfl⟩
      unfold opL
      simp only
      rw [← ht, if_neg (by decide), List.append_nil, knm]
    · rw [hc] at hc2
      obtain ⟨rfl, rfl, rfl⟩ : nm = a ∧ n = b ∧ has = true := by simpa using hc2
      rw [if_pos rfl] at h
      cases hv : numP 6 n with
      | none => rw [hv] at h; cases h
      | some v =>
        rw [hv] at h
        simp only [Option.map_some] at h
        injection h with h
        subst h
        obtain ⟨v0, hb, hl⟩ := numP_some hv
        rw [hb] at hl
        have hlt := (dec_len_lt 6 v.toNat (by omega)).1 hl
        refine ⟨?_, ⟨k1, k8⟩, v0, by simp only; omega, fun e => by simp only at e; rw [← ht] at e; cases e⟩
        unfold opL
        simp only
        rw [← ht, if_pos rfl, knm, hx]
        congr 2
        unfold Lib.itoa
        rw [if_neg (by omega), hb]
theorem testsP_map : ∀ {p : List (Int × Int)}, (∀ o ∈ p, opOK o) → testsP (p.map opL) = some p
  | [], _ => rfl
  | o :: p, h => by
    rw [List.map_cons, testsP, testP_opL (h o (List.mem_cons_self ..)), testsP_map fun x hx => h x (List.mem_cons_of_mem _ hx)]
    rfl
theorem testsP_some : ∀ {l : List (List UInt8)} {p : List (Int × Int)}, testsP l = some p → p.map opL = l
  | [], p, h => by
    injection h with h
    rw [← h]; rfl
  | x :: r, p, h => by
    rw [testsP] at h
    cases ht : testP x with
    | none => rw [ht] at h; cases h
    | some o =>
      rw [ht] at h
      simp only at h
      cases hr : testsP r with
      | none => rw [hr] at h; cases h
      | some q =>
        rw [hr] at h
        injection h with h
        rw [← h, List.map_cons, (testP_some ht).1, testsP_some hr]
theorem dec_no {b : UInt8} (hb : b.toNat < 48 ∨ 57 < b.toNat) (u : Nat) : b ∉ Lib.decDigits u := fun h => by have := dec_digit u b h; omega
theorem opL_no {o : Int × Int} (h1 : 1 ≤ o.1 ∧ o.1 ≤ 8) (h0 : 0 ≤ o.2) : 59 ∉ opL o ∧ 10 ∉ opL o ∧ opL o ≠ [] := by
  obtain ⟨n1, n2, n3, n4, n5⟩ := name_ne h1.1 h1.2
  have hi : Lib.itoa o.2 = Lib.decDigits o.2.toNat := by unfold Lib.itoa; rw [if_neg (by omega)]
  unfold opL
  rw [hi]
  refine ⟨fun h => ?_, fun h => ?_, fun h => n1 (List.append_eq_nil_iff.1 h).1⟩
  · rcases List.mem_append.1 h with h | h
    · exact n3 h
    · split at h
      · rcases List.mem_cons.1 h with h | h
        · cases h
        · exact dec_no (.inr (by decide)) _ h
      · cases h
  · rcases List.mem_append.1 h with h | h
    · exact n4 h
    · split at h
      · rcases List.mem_cons.1 h with h | h
        · cases h
        · exact dec_no (.inl (by decide)) _ h
      · cases h
/-- The text of a program that is right is parsed as it. -/
theorem parse_text {p : List (Int × Int)} (h : rightG p) : parseG (textG p) = some p := by
  rcases p with _ | ⟨o, p⟩
  · rfl
  · have hno : ∀ y ∈ (o :: p).map opL, (59 : UInt8) ∉ y := fun y hy => by
      obtain ⟨z, hz, rfl⟩ := List.mem_map.1 hy
      have := h.2 z hz
      exact (opL_no this.1 this.2.1.1).1
    have hs : split1 59 (textG (o :: p)) = (o :: p).map opL := by
      unfold textG
      rw [List.map_cons] at hno ⊢
      exact split_join 59 _ _ (hno _ (List.mem_cons_self ..)) fun y hy => hno y (List.mem_cons_of_mem _ hy)
    have hne : textG (o :: p) ≠ [] := fun e => by
      rw [e] at hs
      have h2 := (opL_no (h.2 o (List.mem_cons_self ..)).1 (h.2 o (List.mem_cons_self ..)).2.1.1).2.2
      rw [List.map_cons] at hs
      injection hs with hs _
      exact h2 hs.symm
    unfold parseG
    rw [if_neg hne, hs, testsP_map h.2]
    simp only
    rw [if_pos h]
/-- What is parsed is right, and has just the text. -/
theorem parse_some {s : List UInt8} {p : List (Int × Int)} (h : parseG s = some p) : textG p = s ∧ rightG p := by
  unfold parseG at h
  split at h
  · rename_i hs
    injection h with h
    rw [← h, hs]
    exact ⟨rfl, by decide, fun o ho => by cases ho⟩
  · split at h
    · cases h
    · rename_i q hq
      split at h
      · rename_i hr
        injection h with h
        subst h
        refine ⟨?_, hr⟩
        unfold textG
        rw [testsP_some hq, join_split]
      · cases h
end Go.Proofs.YtapledphhfiimaaGreatDoor.Pg
/-
  Programs of tests: walks of names, Name, Kind, takes, right, Right.
-/
namespace Go.Proofs.YtapledphhfiimaaGreatDoor
open Go.RowKit Go.Proofs.YtapledphhfiimaaGreatDoor.Pg
attribute [local go_sem ↓] Go.wp_at_zero Go.wp_at_succ
set_option maxRecDepth 100000
set_option linter.unusedVariables false

theorem elemOp : Elem Tryz.prog 33 40 (.agg #[.int .i64 0, .int .i64 0]) 2 16 := ⟨Tryz.underlying33, by kernel_rfl, rfl, by decide⟩
theorem names_any (w : World) : Calls Tryz.prog 90 #[] w fun e w' => e = .returned (.slice (some ⟨w.heap.size, 0, none⟩) 8 8) ∧ w.alloc (.cells (namesB.map Value.string).toArray 9) = w' := by
  go_enter Tryz.func90, Tryz.ntmps90
  go_wp2
  go_ret
  exact ⟨rfl, rfl⟩
theorem takes_any (k : Int) (w : World) : Calls Tryz.prog 68 #[.int .i64 k] w fun e w' => e = .returned (.bool (takesZ k)) ∧ w = w' := by
  by_cases h1 : k = 1
  · subst h1
    go_enter Tryz.func68, Tryz.ntmps68
    go_wp2
    go_ret
    exact ⟨rfl, rfl⟩
  · by_cases h6 : k = 6
    · subst h6
      go_enter Tryz.func68, Tryz.ntmps68
      go_wp2
      go_ret
      exact ⟨rfl, rfl⟩
    · by_cases h8 : k = 8
      · subst h8
        go_enter Tryz.func68, Tryz.ntmps68
        go_wp2
        go_ret
        exact ⟨rfl, rfl⟩
      · have e1 : (k == 1) = false := by simpa using h1
        have e6 : (k == 6) = false := by simpa using h6
        have e8 : (k == 8) = false := by simpa using h8
        have HT := Lib.hid (show true = takesZ k from by unfold takesZ; simp [h1, h6, h8])
        clear h1 h6 h8
        go_enter Tryz.func68, Tryz.ntmps68
        go_wp2
        go_ret
        exact ⟨ret_bool HT.out, rfl⟩
theorem Name_any (k : Int) (w : World) : Calls Tryz.prog 67 #[.int .i64 k] w fun e w' => e = .returned (.string (bz (nameL k))) ∧ Below w.heap.size w w' := by
  by_cases h1 : k < 1
  · have HN := Lib.hid (show (⟨#[]⟩ : ByteArray) = bz (nameL k) from by rw [name_out (by omega)])
    go_enter Tryz.func67, Tryz.ntmps67
    go_wp2_with fail
    go_ret
    exact ⟨ret_eq (congrArg Value.string HN.out), Below.refl _ _⟩
  · by_cases h8 : 8 < k
    · have HN := Lib.hid (show (⟨#[]⟩ : ByteArray) = bz (nameL k) from by rw [name_out (by omega)])
      go_enter Tryz.func67, Tryz.ntmps67
      go_wp2_with fail
      go_ret
      exact ⟨ret_eq (congrArg Value.string HN.out), Below.refl _ _⟩
    · rcases (show k = 1 ∨ k = 2 ∨ k = 3 ∨ k = 4 ∨ k = 5 ∨ k = 6 ∨ k = 7 ∨ k = 8 by omega) with rfl | rfl | rfl | rfl | rfl | rfl | rfl | rfl
      all_goals (
        clear h1 h8
        go_enter Tryz.func67, Tryz.ntmps67
        go_wp2_with go_in
        go_ret
        exact ⟨rfl, bel_al (Below.refl _ _) _⟩)
theorem kind_bounds (l : List UInt8) : 0 ≤ kindZ l ∧ kindZ l ≤ 8 := by
  rcases kind_cases l with h | ⟨h1, h2, _⟩ <;> omega
theorem Kind_any (l : List UInt8) (w : World) : Calls Tryz.prog 88 #[.string (bz l)] w fun e w' => e = .returned (.int .i64 (kindZ l)) ∧ Below w.heap.size w w' := by
  have HI := Lib.hid (Any.slices_Index_string lay109 w.heap.size 0 8 8 namesB (bz l) (w.alloc (.cells (namesB.map Value.string).toArray 9)) (Nat.le_refl 8) (by omega) (fun j hj => by
    rw [Nat.zero_add, World.cell?_alloc_new, List.getElem?_toArray, List.getElem?_map, List.getElem?_eq_getElem hj, List.getD_eq_getElem?_getD, List.getElem?_eq_getElem hj]
    rfl))
  have hk := kind_idx l
  have hb := kind_bounds l
  rw [List.take_of_length_le (Nat.le_refl 8)] at HI
  obtain ⟨z, hz⟩ : ∃ z, z = Lib.idxOfS namesB (bz l) := ⟨_, rfl⟩
  have hk' : z + 1 = kindZ l := by rw [hz]; exact hk
  rw [← hz] at HI
  have hw : IntKind.i64.wrap (z + 1) = z + 1 := by rw [IntKind.wrap_i64]; omega
  have HK := Lib.hid hk'
  clear hk hb hz hk'
  go_enter Tryz.func88, Tryz.ntmps88
  go_wp2_with (first
    | (go_at_call 90; refine (names_any w).mono ?_; rintro e w1 ⟨rfl, rfl⟩)
    | (go_at_call 105; refine HI.out.mono ?_; rintro e w1 ⟨rfl, rfl⟩))
  go_ret
  exact ⟨ret_int HK.out, bel_al (Below.refl _ _) _⟩
/-- What right answers. -/
def OpRes (o : Int × Int) (w : World) (e : Ending) (w' : World) : Prop :=
  (opOK o ∧ e = .returned .nilIface ∧ Below w.heap.size w w') ∨ (¬ opOK o ∧ ∃ (c a : Int) (s : ByteArray) (g : Nat), e = .returned (.iface 111 (.pointer (some ⟨g, 0, none⟩))) ∧ (Err.flt c a s).At w' (.iface 111 (.pointer (some ⟨g, 0, none⟩))) ∧ Below w.heap.size w w' ∧ (c = 1 ∨ c = 3 ∨ c = 6))
theorem bz_empty (l : List UInt8) : (bz l).toList.isEmpty = l.isEmpty := by rw [Lib.toList_data]
theorem bz_toList (l : List UInt8) : (bz l).toList = l := by rw [Lib.toList_data]
set_option maxHeartbeats 4000000 in
theorem right_any (k n at_ : Int) (w : World) : Calls Tryz.prog 34 #[.agg #[.int .i64 k, .int .i64 n], .int .i64 at_] w (OpRes (k, n) w) := by
  have HB := Lib.hid (bel_al (Below.refl w.heap.size w) (.cells #[.int .i64 k, .int .i64 n] 40))
  have HK := Lib.hid (Blk.new w 40 #[.int .i64 k, .int .i64 n])
  have HNm := Lib.hid (fun W => Name_any k W)
  have HTk := Lib.hid (fun W => takes_any k W)
  by_cases hk : 1 ≤ k ∧ k ≤ 8
  · have he : (bz (nameL k)).toList.isEmpty = false := by
      rw [bz_empty]
      have := (name_ne hk.1 hk.2).1
      cases h : nameL k with
      | nil => exact absurd h this
      | cons a l => rfl
    obtain ⟨nm, hnm⟩ : ∃ nm, nm = bz (nameL k) := ⟨_, rfl⟩
    rw [← hnm] at he HNm
    have HKk := Lib.hid hk
    clear hk hnm
    go_enter Tryz.func34, Tryz.ntmps34
    by_cases h0 : n < 0
    · go_wp2_with (first
        | (go_at_call 67; refine (HNm.out _).mono ?_; rintro e w1 ⟨rfl, hb1⟩; have HB1 := Lib.hid (HB.out.andThen hb1); have k0 := (HK.out.keep hb1).cell 0; have k1 := (HK.out.keep hb1).cell 1; simp at k0 k1; clear hb1)
        | (go_at_call 33; refine (New_err _ _ _ _).mono ?_; rintro e w2 ⟨v, rfl, ⟨g, rfl, hv⟩, hb2⟩))
      go_ret
      exact .inr ⟨fun h => by have := h.2.1.1; omega, _, _, _, g, rfl, ⟨g, rfl, hv⟩, HB1.out.andThen hb2, .inr (.inl rfl)⟩
    · by_cases h255 : 255 < n
      · go_wp2_with (first
          | (go_at_call 67; refine (HNm.out _).mono ?_; rintro e w1 ⟨rfl, hb1⟩; have HB1 := Lib.hid (HB.out.andThen hb1); have k0 := (HK.out.keep hb1).cell 0; have k1 := (HK.out.keep hb1).cell 1; simp at k0 k1; clear hb1)
          | (go_at_call 33; refine (New_err _ _ _ _).mono ?_; rintro e w2 ⟨v, rfl, ⟨g, rfl, hv⟩, hb2⟩))
        go_ret
        exact .inr ⟨fun h => by have := h.2.1.2; omega, _, _, _, g, rfl, ⟨g, rfl, hv⟩, HB1.out.andThen hb2, .inr (.inl rfl)⟩
      · by_cases hn0 : 0 < n
        · cases ht : takesZ k with
          | true =>
            rw [ht] at HTk
            have HOk := Lib.hid (show opOK (k, n) from ⟨HKk.out, ⟨by simp only; omega, by simp only; omega⟩, fun e => by simp only at e; rw [ht] at e; cases e⟩)
            clear ht
            go_wp2_with (first
              | (go_at_call 67; refine (HNm.out _).mono ?_; rintro e w1 ⟨rfl, hb1⟩; have HB1 := Lib.hid (HB.out.andThen hb1); have k0 := (HK.out.keep hb1).cell 0; have k1 := (HK.out.keep hb1).cell 1; simp at k0 k1; clear hb1)
              | (go_at_call 68; refine (HTk.out _).mono ?_; rintro e w2 ⟨rfl, rfl⟩))
            go_ret
            exact .inl ⟨HOk.out, rfl, HB1.out⟩
          | false =>
            rw [ht] at HTk
            have HNo := Lib.hid (show ¬ opOK (k, n) from fun h => by have := h.2.2 ht; simp only at this; omega)
            clear ht
            go_wp2_with (first
              | (go_at_call 67; refine (HNm.out _).mono ?_; rintro e w1 ⟨rfl, hb1⟩; have HB1 := Lib.hid (HB.out.andThen hb1); have k0 := (HK.out.keep hb1).cell 0; have k1 := (HK.out.keep hb1).cell 1; simp at k0 k1; clear hb1)
              | (go_at_call 68; refine (HTk.out _).mono ?_; rintro e w2 ⟨rfl, rfl⟩)
              | (go_at_call 33; refine (New_err _ _ _ _).mono ?_; rintro e w2 ⟨v, rfl, ⟨g, rfl, hv⟩, hb2⟩))
            go_ret
            exact .inr ⟨HNo.out, _, _, _, g, rfl, ⟨g, rfl, hv⟩, HB1.out.andThen hb2, .inr (.inl rfl)⟩
        · have hn00 : n = 0 := by omega
          subst hn00
          have HOk := Lib.hid (show opOK (k, 0) from ⟨HKk.out, ⟨by simp only; omega, by simp only; omega⟩, fun _ => rfl⟩)
          go_wp2_with (go_at_call 67; refine (HNm.out _).mono ?_; rintro e w1 ⟨rfl, hb1⟩; have HB1 := Lib.hid (HB.out.andThen hb1); have k0 := (HK.out.keep hb1).cell 0; have k1 := (HK.out.keep hb1).cell 1; simp at k0 k1; clear hb1)
          go_ret
          exact .inl ⟨HOk.out, rfl, HB1.out⟩
  · have he : (bz (nameL k)).toList.isEmpty = true := by rw [bz_empty, name_out hk]; rfl
    obtain ⟨nm, hnm⟩ : ∃ nm, nm = bz (nameL k) := ⟨_, rfl⟩
    rw [← hnm] at he HNm
    have HNo := Lib.hid (show ¬ opOK (k, n) from fun h => hk h.1)
    clear hk hnm
    go_enter Tryz.func34, Tryz.ntmps34
    go_wp2_with (first
      | (go_at_call 67; refine (HNm.out _).mono ?_; rintro e w1 ⟨rfl, hb1⟩; have HB1 := Lib.hid (HB.out.andThen hb1); clear hb1)
      | (go_at_call 33; refine (New_err _ _ _ _).mono ?_; rintro e w2 ⟨v, rfl, ⟨g, rfl, hv⟩, hb2⟩))
    go_ret
    exact .inr ⟨HNo.out, _, _, _, g, rfl, ⟨g, rfl, hv⟩, HB1.out.andThen hb2, .inl rfl⟩
/-- What Right answers. -/
def ProgRes (p : List (Int × Int)) (w : World) (e : Ending) (w' : World) : Prop :=
  (rightG p ∧ e = .returned .nilIface ∧ Below w.heap.size w w') ∨ (¬ rightG p ∧ ∃ (c a : Int) (s : ByteArray) (g : Nat), e = .returned (.iface 111 (.pointer (some ⟨g, 0, none⟩))) ∧ (Err.flt c a s).At w' (.iface 111 (.pointer (some ⟨g, 0, none⟩))) ∧ Below w.heap.size w w' ∧ (c = 1 ∨ c = 3 ∨ c = 6))
set_option maxHeartbeats 4000000 in
theorem ProgRight_any (p : List (Int × Int)) (A : Option Addr) (n c : Nat) (w : World) (hn : n ≤ 1000000) (hs : Sl w 2 A n (Rk.cells p)) :
    Calls Tryz.prog 9 #[.slice A n c] w (ProgRes p w) := by
  have HS := Lib.hid hs
  have HM := Lib.hid hs.len2
  clear hs
  go_enter Tryz.func9, Tryz.ntmps9
  by_cases h16 : 16 < n
  · have h16' : (16 : Int) < (n : Int) := by omega
    go_wp2_with (go_at_call 33; refine (New_err _ _ _ _).mono ?_; rintro e w2 ⟨v, rfl, ⟨g, rfl, hv⟩, hb2⟩)
    go_ret
    exact .inr ⟨fun h => by have := h.1; rw [HM.out] at this; omega, _, _, _, g, rfl, ⟨g, rfl, hv⟩, hb2, .inr (.inr rfl)⟩
  · have h16' : ¬ (16 : Int) < (n : Int) := by omega
    go_wp2_with fail
    go_loopw [12] (fun iv wr => ∃ k : Nat, k ≤ n ∧ iv = .int .i64 (k : Int) ∧ Hid (∀ o ∈ p.take k, opOK o) ∧ Hid (Below w.heap.size w wr)) (fun iv _ => n - (intOf iv).toNat)
    case atStart => exact ⟨0, Nat.zero_le _, rfl, Lib.hid (fun o ho => by simp at ho), Lib.hid (Below.refl _ _)⟩
    case round =>
      obtain ⟨k, hk, rfl, HD, HB⟩ := hrel
      by_cases hlt : k < n
      · have hlt' : (k : Int) < (n : Int) := by omega
        have hk0 : (0 : Int) ≤ (k : Int) := by omega
        obtain ⟨⟨x, y⟩, he⟩ : ∃ e, p[k]? = some e := ⟨_, List.getElem?_eq_getElem (by rw [HM.out]; exact hlt)⟩
        obtain ⟨b1, off1, rfl, c0, c1⟩ := (HS.out.keep HB.out).edge hlt he
        simp only at c0 c1
        have HE := Lib.hid he
        have HR := Lib.hid (right_any x y (k : Int) (wr.alloc (.cells #[.int .i64 x, .int .i64 y] 40)))
        have HB1 := Lib.hid (bel_alloc HB.out (Nat.le_refl _) (.cells #[.int .i64 x, .int .i64 y] 40))
        clear he
        go_upto_region 7 with (go_at_call 34; refine HR.out.mono ?_; clear HR; intro e w2 hp; obtain ⟨ev, hev⟩ : ∃ ev, e = .returned ev := (by rcases hp with ⟨_, h, _⟩ | ⟨_, _, _, _, _, h, _⟩ <;> exact ⟨_, h⟩); subst hev; have HP := Lib.hid hp; clear hp)
        rcases HP.out with ⟨hok, he, hb⟩ | ⟨hno, cc, a, s, g, he, hv, hb, hc⟩
        · injection he with he
          subst he
          have HN := Lib.hid (show ∀ o ∈ p.take (k + 1), opOK o from fun o ho => by
            obtain ⟨h3, h4⟩ := List.getElem?_eq_some_iff.1 HE.out
            rw [List.take_succ_eq_append_getElem h3, h4] at ho
            rcases List.mem_append.1 ho with h | h
            · exact HD.out o h
            · rw [List.mem_singleton.1 h]; exact hok)
          have HB2 := Lib.hid (HB1.out.andThen hb)
          clear hok hb HP
          go_wp2_with fail
          go_roundw
          case rel => exact ⟨k + 1, by omega, by go_num, HN, HB2⟩
          case measure => simp [intOf]; omega
        · injection he with he
          subst he
          have HV := Lib.hid hv
          have HB2 := Lib.hid (HB1.out.andThen hb)
          have HC := Lib.hid hc
          have HNo := Lib.hid (show ¬ rightG p from fun h => hno (h.2 _ (List.mem_of_getElem? HE.out)))
          clear hno hb HP hv hc
          go_wp2_with fail
          go_ret
          exact .inr ⟨HNo.out, cc, a, s, g, rfl, HV.out, HB2.out, HC.out⟩
      · obtain rfl : k = n := by omega
        have hlt' : ¬ (k : Int) < (k : Int) := by omega
        rw [List.take_of_length_le (by rw [HM.out]; exact Nat.le_refl _)] at HD
        go_wp2_with fail
        go_ret
        exact .inl ⟨⟨by rw [HM.out]; omega, HD.out⟩, rfl, HB.out⟩
end Go.Proofs.YtapledphhfiimaaGreatDoor
