/-
  Part 14 of the proof of LwProgParts: WireA, WireB, WireC, WireD, First, WireE, WireF, WrB, WireG, WireH, WireI, WrK, WireJ, PermA.
-/
import Derived.Test.YtapledphhfiimaaGreatDoorLwProgPartsM1
import Derived.Test.YtapledphhfiimaaGreatDoorLwProgPartsM13
import Derived.Test.YtapledphhfiimaaGreatDoorLwProgPartsM2
import Derived.Deep.DeepCutAuto
import Derived.BigQuiet
import Derived.Deep.QuietTactic
import Derived.ArgAppend
import Derived.Lib.SmallJoins
import Derived.Laws.BytesArg
import Derived.Lib.Strings
import Derived.Deep.RegionLaw
import Derived.Lib.AppendStr
import Derived.Deep.RegionWith
import Derived.WalkSpells
/-
  Bytes, words, sums and parcels, plainly: no program in sight.
-/
namespace Go.Proofs.YtapledphhfiimaaGreatDoor

/-- A list of bytes. -/
def Bys (l : List Int) : Prop := ∀ x ∈ l, 0 ≤ x ∧ x ≤ 255
theorem Bys.nil : Bys [] := fun _ h => absurd h (by simp)
theorem Bys.append {a b : List Int} (ha : Bys a) (hb : Bys b) : Bys (a ++ b) := fun x hx => (List.mem_append.1 hx).elim (ha x) (hb x)
theorem Bys.left {a b : List Int} (h : Bys (a ++ b)) : Bys a := fun x hx => h x (List.mem_append_left _ hx)
theorem Bys.right {a b : List Int} (h : Bys (a ++ b)) : Bys b := fun x hx => h x (List.mem_append_right _ hx)
theorem Bys.take {a : List Int} (h : Bys a) (k : Nat) : Bys (a.take k) := fun x hx => h x (List.mem_of_mem_take hx)
theorem Bys.drop {a : List Int} (h : Bys a) (k : Nat) : Bys (a.drop k) := fun x hx => h x (List.mem_of_mem_drop hx)
theorem Bys.cons {x : Int} {a : List Int} (h0 : 0 ≤ x) (h1 : x ≤ 255) (h : Bys a) : Bys (x :: a) := fun y hy => by
  rcases List.mem_cons.1 hy with rfl | hy
  · exact ⟨h0, h1⟩
  · exact h y hy
theorem Bys.set {a : List Int} (h : Bys a) (k : Nat) {x : Int} (h0 : 0 ≤ x) (h1 : x ≤ 255) : Bys (a.set k x) := fun y hy => by
  rcases List.mem_or_eq_of_mem_set hy with hy | rfl
  · exact h y hy
  · exact ⟨h0, h1⟩

/-- A number's 4 bytes, the highest first. -/
def wordL (n : Nat) : List Int := [((n / 16777216 % 256 : Nat) : Int), ((n / 65536 % 256 : Nat) : Int), ((n / 256 % 256 : Nat) : Int), ((n % 256 : Nat) : Int)]
theorem wordL_len (n : Nat) : (wordL n).length = 4 := rfl
theorem wordL_bys (n : Nat) : Bys (wordL n) := by
  intro x hx
  simp only [wordL, List.mem_cons, List.not_mem_nil, or_false] at hx
  rcases hx with rfl | rfl | rfl | rfl <;> omega
/-- 4 bytes as a number. -/
def wordN : List Int → Nat
  | a :: b :: c :: d :: _ => a.toNat * 16777216 + b.toNat * 65536 + c.toNat * 256 + d.toNat
  | _ => 0
theorem wordN_of {n : Nat} (h : n < 4294967296) (r : List Int) : wordN (wordL n ++ r) = n := by
  simp only [wordL, List.cons_append, List.nil_append, wordN, Int.toNat_natCast]
  omega
theorem wordN_lt : ∀ {l : List Int}, Bys l → wordN l < 4294967296
  | a :: b :: c :: d :: _, h => by
    have h1 := h a (by simp)
    have h2 := h b (by simp)
    have h3 := h c (by simp)
    have h4 := h d (by simp)
    simp only [wordN]
    omega
  | [], _ => by simp [wordN]
  | [_], _ => by simp [wordN]
  | [_, _], _ => by simp [wordN]
  | [_, _, _], _ => by simp [wordN]
theorem four : ∀ {l : List Int}, 4 ≤ l.length → ∃ a b c d, l.take 4 = [a, b, c, d] ∧ l = a :: b :: c :: d :: l.drop 4
  | a :: b :: c :: d :: r, _ => ⟨a, b, c, d, rfl, rfl⟩
  | [], h => by simp at h
  | [_], h => by simp at h
  | [_, _], h => by simp at h
  | [_, _, _], h => by simp at h
theorem wordL_of {l : List Int} (h : Bys l) (hl : 4 ≤ l.length) : wordL (wordN l) = l.take 4 := by
  obtain ⟨a, b, c, d, h4, he⟩ := four hl
  rw [he] at h
  have h1 := h a (by simp)
  have h2 := h b (by simp)
  have h3 := h c (by simp)
  have h5 := h d (by simp)
  rw [h4, he]
  simp only [wordN, wordL]
  congr 1
  · omega
  · congr 1
    · omega
    · congr 1
      · omega
      · congr 1; omega
theorem wordN_take {l : List Int} (hl : 4 ≤ l.length) : wordN (l.take 4) = wordN l := by
  obtain ⟨a, b, c, d, h4, he⟩ := four hl
  rw [h4]
  conv => rhs; rw [he]
  rfl
theorem wordN_inj {l r : List Int} (h : Bys l) (hr : Bys r) (hl : 4 ≤ l.length) (hlr : 4 ≤ r.length) (e : wordN l = wordN r) : l.take 4 = r.take 4 := by
  rw [← wordL_of h hl, ← wordL_of hr hlr, e]

/-- A byte more in a sum. -/
def sstep (s : Nat × Nat) (c : Int) : Nat × Nat := ((s.1 + c.toNat) % 65521, (s.2 + (s.1 + c.toNat) % 65521) % 65521)
def sumS (l : List Int) : Nat × Nat := l.foldl sstep (1, 0)
theorem sumS_snoc (l : List Int) (c : Int) : sumS (l ++ [c]) = sstep (sumS l) c := by simp [sumS, List.foldl_append]
theorem sumS_lt (l : List Int) : (sumS l).1 < 65521 ∧ (sumS l).2 < 65521 := by
  have : ∀ (l : List Int) (s : Nat × Nat), s.1 < 65521 → s.2 < 65521 → (l.foldl sstep s).1 < 65521 ∧ (l.foldl sstep s).2 < 65521 := by
    intro l
    induction l with
    | nil => intro s h1 h2; exact ⟨h1, h2⟩
    | cons c l ih => intro s h1 h2; exact ih _ (Nat.mod_lt _ (by omega)) (Nat.mod_lt _ (by omega))
  exact this l (1, 0) (by decide) (by decide)
/-- The sum of bytes. -/
def sumL (l : List Int) : Nat := (sumS l).2 * 65536 + (sumS l).1
theorem sumL_lt (l : List Int) : sumL l < 4294967296 := by
  have := sumS_lt l
  unfold sumL; omega
def tot : List Int → Nat
  | [] => 0
  | c :: l => c.toNat + tot l
theorem tot_append : ∀ a b, tot (a ++ b) = tot a + tot b
  | [], b => by simp [tot]
  | c :: a, b => by rw [List.cons_append, tot, tot, tot_append a b]; omega
theorem sumS_fst (l : List Int) : (sumS l).1 = (1 + tot l) % 65521 := by
  have : ∀ (l : List Int) (s : Nat × Nat), s.1 < 65521 → (l.foldl sstep s).1 = (s.1 + tot l) % 65521 := by
    intro l
    induction l with
    | nil => intro s h1; simp only [List.foldl_nil, tot]; omega
    | cons c l ih =>
      intro s h1
      rw [List.foldl_cons, ih _ (Nat.mod_lt _ (by omega)), tot]
      simp only [sstep]
      omega
  exact this l (1, 0) (by decide)
theorem sumL_fst {a b : List Int} (h : sumL a = sumL b) : (sumS a).1 = (sumS b).1 := by
  have h1 := sumS_lt a
  have h2 := sumS_lt b
  unfold sumL at h
  omega
/-- One byte turned: another sum. -/
theorem sumL_turn (a b : List Int) (x y : Int) (hx : 0 ≤ x ∧ x ≤ 255) (hy : 0 ≤ y ∧ y ≤ 255) (hne : x ≠ y) : sumL (a ++ x :: b) ≠ sumL (a ++ y :: b) := by
  intro h
  have := sumL_fst h
  rw [sumS_fst, sumS_fst, tot_append, tot_append, tot, tot] at this
  omega

/-- FWRK. -/
def fwrk : List Int := [70, 87, 82, 75]
/-- What the sum is of. -/
def preL (kind : Int) (body : List Int) : List Int := fwrk ++ kind :: (wordL body.length ++ body)
/-- A parcel. -/
def packL (kind : Int) (body : List Int) : List Int := preL kind body ++ wordL (sumL (preL kind body))
theorem preL_len (kind : Int) (body : List Int) : (preL kind body).length = body.length + 9 := by simp [preL, fwrk, wordL]
theorem packL_len (kind : Int) (body : List Int) : (packL kind body).length = body.length + 13 := by rw [packL, List.length_append, preL_len, wordL_len]
theorem preL_bys {kind : Int} {body : List Int} (hk : 0 ≤ kind ∧ kind ≤ 255) (hb : Bys body) : Bys (preL kind body) :=
  Bys.append (by unfold fwrk Bys; intro x hx; simp only [List.mem_cons, List.not_mem_nil, or_false] at hx; rcases hx with rfl | rfl | rfl | rfl <;> omega) (Bys.cons hk.1 hk.2 ((wordL_bys _).append hb))
theorem packL_bys {kind : Int} {body : List Int} (hk : 0 ≤ kind ∧ kind ≤ 255) (hb : Bys body) : Bys (packL kind body) := (preL_bys hk hb).append (wordL_bys _)

/-- What is wrong with a parcel: nothing (0), its beginning (1), its end (2), its length: too long (3), too short (4), its sum (5). -/
def unW (b : List Int) : Nat :=
  if 4 ≤ b.length ∧ b.take 4 ≠ fwrk then 1
  else if b.length < 13 then 2
  else if b.length - 13 < wordN (b.drop 5) then 3
  else if wordN (b.drop 5) < b.length - 13 then 4
  else if wordN (b.drop (9 + wordN (b.drop 5))) ≠ sumL (b.take (9 + wordN (b.drop 5))) then 5
  else 0
theorem unW_ok {b : List Int} (hb : Bys b) (h : unW b = 0) : ∃ kind body, b = packL kind body ∧ body.length = wordN (b.drop 5) ∧ b[4]? = some kind ∧ (b.drop 9).take body.length = body ∧ 0 ≤ kind ∧ kind ≤ 255 ∧ Bys body := by
  unfold unW at h
  split at h
  · omega
  split at h
  · omega
  split at h
  · omega
  split at h
  · omega
  split at h
  · omega
  rename_i h1 h2 h3 h4 h5
  have hm : b.take 4 = fwrk := Decidable.byContradiction fun e => h1 ⟨by omega, e⟩
  have hn : wordN (b.drop 5) = b.length - 13 := by omega
  have h5 : wordN (b.drop (9 + wordN (b.drop 5))) = sumL (b.take (9 + wordN (b.drop 5))) := Decidable.byContradiction h5
  have hk : b[4]? = some b[4] := List.getElem?_eq_getElem (by omega)
  have hbl : ((b.drop 9).take (b.length - 13)).length = b.length - 13 := by rw [List.length_take, List.length_drop]; omega
  have hpre : b.take (9 + wordN (b.drop 5)) = preL b[4] ((b.drop 9).take (b.length - 13)) := by
    have hw := wordL_of (hb.drop 5) (by rw [List.length_drop]; omega)
    unfold preL
    rw [hbl, ← hm, ← hn, hw, hn]
    have e1 : b.take (9 + (b.length - 13)) = b.take 9 ++ (b.drop 9).take (b.length - 13) := List.take_add ..
    have e2 : b.take 9 = b.take 5 ++ (b.drop 5).take 4 := List.take_add (i := 5) (j := 4) ..
    have e3 : b.take 5 = b.take 4 ++ [b[4]] := List.take_succ_eq_append_getElem (by omega)
    rw [e1, e2, e3]
    simp only [List.append_assoc, List.cons_append, List.nil_append]
  refine ⟨b[4], (b.drop 9).take (b.length - 13), ?_, by rw [hbl, hn], hk, by rw [hbl], (hb _ (List.getElem_mem (by omega))).1, (hb _ (List.getElem_mem (by omega))).2, (hb.drop 9).take _⟩
  unfold packL
  rw [← hpre, ← h5, wordL_of (hb.drop _) (by rw [List.length_drop]; omega)]
  have e1 : (b.drop (9 + wordN (b.drop 5))).take 4 = b.drop (9 + wordN (b.drop 5)) := List.take_of_length_le (by rw [List.length_drop]; omega)
  rw [e1, List.take_append_drop]
theorem packL_parts (kind : Int) (body : List Int) : (packL kind body).take 4 = fwrk ∧ (packL kind body).drop 5 = wordL body.length ++ (body ++ wordL (sumL (preL kind body))) ∧ (packL kind body).take (9 + body.length) = preL kind body ∧ (packL kind body).drop (9 + body.length) = wordL (sumL (preL kind body)) ∧ (packL kind body)[4]? = some kind ∧ ((packL kind body).drop 9).take body.length = body := by
  have hl := preL_len kind body
  refine ⟨rfl, ?_, ?_, ?_, rfl, ?_⟩
  · show (fwrk ++ kind :: (wordL body.length ++ body) ++ wordL (sumL (preL kind body))).drop 5 = _
    rw [List.append_assoc, List.cons_append, List.append_assoc]
    rfl
  · exact List.take_left' (by omega)
  · exact List.drop_left' (by omega)
  · show ((fwrk ++ kind :: (wordL body.length ++ body) ++ wordL (sumL (preL kind body))).drop 9).take body.length = _
    rw [List.append_assoc, List.cons_append, List.append_assoc]
    show ((body ++ wordL (sumL (preL kind body)))).take body.length = _
    exact List.take_left
theorem unW_pack (kind : Int) (body : List Int) (h : body.length < 4294967296) : unW (packL kind body) = 0 := by
  obtain ⟨h1, h2, h3, h4, _, _⟩ := packL_parts kind body
  have hl := packL_len kind body
  have hw : wordN ((packL kind body).drop 5) = body.length := by rw [h2, wordN_of h]
  unfold unW
  rw [hw, h1, h3, h4, hl]
  have hs : wordN (wordL (sumL (preL kind body))) = sumL (preL kind body) := by
    have := wordN_of (sumL_lt (preL kind body)) []
    rwa [List.append_nil] at this
  rw [hs, if_neg (by simp), if_neg (by omega), if_neg (by omega), if_neg (by omega), if_neg (by simp)]
end Go.Proofs.YtapledphhfiimaaGreatDoor
/-
  Contracts: wire.word, wordAt, Sum; the document's Word, Sum, Same (bytes).
-/
namespace Go.Proofs.YtapledphhfiimaaGreatDoor
open Go.RowKit
set_option maxRecDepth 100000

theorem elemByte : Elem Tryz.prog 142 5 (.int .u8 0) 1 1 := ⟨Tryz.underlying142, by kernel_rfl, rfl, by decide⟩
theorem wordL_map (k : Nat) : (wordL k).map (Value.int .u8) = [.int .u8 ((k / 16777216 % 256 : Nat) : Int), .int .u8 ((k / 65536 % 256 : Nat) : Int), .int .u8 ((k / 256 % 256 : Nat) : Int), .int .u8 ((k % 256 : Nat) : Int)] := rfl

theorem or_join (a b s : Nat) (hb : b < 2 ^ s) : (a * 2 ^ s ||| b) = a * 2 ^ s + b := by
  rw [← Nat.shiftLeft_eq, Nat.shiftLeft_add_eq_or_of_lt hb]
theorem bits_or_u32 (a b : Nat) (ha : a < 4294967296) (hb : b < 4294967296) : bits .or .u32 (a : Int) (b : Int) = ((a ||| b : Nat) : Int) := by
  have h1 : (BitVec.ofInt 32 (a : Int) ||| BitVec.ofInt 32 (b : Int)).toNat = a ||| b := by
    rw [BitVec.toNat_or, BitVec.ofInt_natCast, BitVec.ofInt_natCast, BitVec.toNat_ofNat, BitVec.toNat_ofNat, Nat.mod_eq_of_lt (by omega), Nat.mod_eq_of_lt (by omega)]
  have h2 : a ||| b < 2 ^ 32 := Nat.or_lt_two_pow (by omega) (by omega)
  show IntKind.u32.wrap (((BitVec.ofInt 32 (a : Int) ||| BitVec.ofInt 32 (b : Int)).toNat : Nat) : Int) = _
  rw [h1]
  exact IntWalk.u32_in _ (by omega)
theorem or_sum (y x : Nat) (hy : y < 65521) (hx : x < 65521) : bits .or .u32 ((y : Int) * 65536) (x : Int) = ((y * 65536 + x : Nat) : Int) := by
  have := bits_or_u32 (y * 65536) x (by omega) (by omega)
  rw [or_join y x 16 (by omega)] at this
  rw [show (y : Int) * 65536 = ((y * 65536 : Nat) : Int) by omega]
  exact this
theorem or_word (a b c d : Nat) (ha : a < 256) (hb : b < 256) (hc : c < 256) (hd : d < 256) :
    bits .or .u32 (bits .or .u32 (bits .or .u32 ((a : Int) * 16777216) ((b : Int) * 65536)) ((c : Int) * 256)) (d : Int) = ((a * 16777216 + b * 65536 + c * 256 + d : Nat) : Int) := by
  have e1 := bits_or_u32 (a * 16777216) (b * 65536) (by omega) (by omega)
  have o1 := or_join a (b * 65536) 24 (by omega)
  rw [show (2 : Nat) ^ 24 = 16777216 from rfl] at o1
  rw [o1] at e1
  have e2 := bits_or_u32 (a * 16777216 + b * 65536) (c * 256) (by omega) (by omega)
  have o2 := or_join (a * 256 + b) (c * 256) 16 (by omega)
  rw [show (2 : Nat) ^ 16 = 65536 from rfl, show (a * 256 + b) * 65536 = a * 16777216 + b * 65536 by omega] at o2
  rw [o2] at e2
  have e3 := bits_or_u32 (a * 16777216 + b * 65536 + c * 256) d (by omega) (by omega)
  have o3 := or_join (a * 65536 + b * 256 + c) d 8 (by omega)
  rw [show (2 : Nat) ^ 8 = 256 from rfl, show (a * 65536 + b * 256 + c) * 256 = a * 16777216 + b * 65536 + c * 256 by omega] at o3
  rw [o3] at e3
  rw [show (a : Int) * 16777216 = ((a * 16777216 : Nat) : Int) by omega, show (b : Int) * 65536 = ((b * 65536 : Nat) : Int) by omega, show (c : Int) * 256 = ((c * 256 : Nat) : Int) by omega, e1, e2, e3]

end Go.Proofs.YtapledphhfiimaaGreatDoor
/-
  Contracts: wire.Pack, Unpack; the document's Parcel.
-/
namespace Go.Proofs.YtapledphhfiimaaGreatDoor
open Go.RowKit
set_option maxRecDepth 100000

def txtMark : ByteArray := ⟨#[109, 97, 114, 107]⟩
def txtParcel : ByteArray := ⟨#[112, 97, 114, 99, 101, 108]⟩
/-- The error that a parcel's fault makes. -/
def unE (l : List Int) : Err := match unW l with
  | 0 => .nil
  | 1 => .flt 2 0 txtMark
  | 4 => .flt 2 0 txtParcel
  | 5 => .flt 8 0 txtParcel
  | _ => .flt 9 0 txtParcel
def unK (l : List Int) : Int := if unW l = 0 then l.getD 4 0 else 0
def unB (l : List Int) : List Int := if unW l = 0 then (l.drop 9).take (wordN (l.drop 5)) else []

theorem mark_test {l : List Int} (hb : Bys l) (h4 : 4 ≤ l.length) : ((strOfNums (l.take 4)).toList == [70, 87, 82, 75]) = decide (l.take 4 = fwrk) := by
  obtain ⟨a, b, c, d, e, he⟩ := four h4
  have h1 := hb a (by rw [he]; simp)
  have h2 := hb b (by rw [he]; simp)
  have h3 := hb c (by rw [he]; simp)
  have h5 := hb d (by rw [he]; simp)
  rw [Lib.toList_data, strOfNums_data, e]
  have hu : ∀ (x : Int) (k : Nat), 0 ≤ x ∧ x ≤ 255 → k < 256 → ((UInt8.ofNat x.toNat = UInt8.ofNat k) ↔ x = k) := by
    intro x k hx hk
    rw [← UInt8.toNat_inj, UInt8.toNat_ofNat', UInt8.toNat_ofNat', Nat.mod_eq_of_lt (by omega), Nat.mod_eq_of_lt (by omega)]
    omega
  have e1 := hu a 70 h1 (by omega)
  have e2 := hu b 87 h2 (by omega)
  have e3 := hu c 82 h3 (by omega)
  have e4 := hu d 75 h5 (by omega)
  rw [show ([70, 87, 82, 75] : List UInt8) = [UInt8.ofNat 70, UInt8.ofNat 87, UInt8.ofNat 82, UInt8.ofNat 75] from rfl]
  rw [Bool.eq_iff_iff, decide_eq_true_iff, beq_iff_eq]
  simp only [List.map_cons, List.map_nil, fwrk, List.cons.injEq, and_true, e1, e2, e3, e4]
  omega

def UnPost (l : List Int) (w : World) (e : Ending) (w' : World) : Prop :=
  ∃ C k ev, e = .returned (.tuple #[.int .u8 (unK l), .slice C (unB l).length k, ev]) ∧ (unE l).At w' ev ∧ Sl w' 1 C (unB l).length ((unB l).map (Value.int .u8)) ∧ ((unB l).length ≤ k ∧ k ≤ 9223372036854775807) ∧ Below w.heap.size w w'
theorem un_bad {l : List Int} {w w' : World} {c : Int} {t : ByteArray} {ev : Value} (h : unW l ≠ 0) (hE : unE l = .flt c 0 t) (hev : (Err.flt c 0 t).At w' ev) (hb : Below w.heap.size w w') : UnPost l w (.returned (.tuple #[.int .u8 0, .slice none 0 0, ev])) w' := by
  have hk : unK l = 0 := by rw [unK, if_neg h]
  have hB : unB l = [] := by rw [unB, if_neg h]
  refine ⟨none, 0, ev, by rw [hk, hB]; rfl, by rw [hE]; exact hev, by rw [hB]; exact Sl.nil _ _ _, by rw [hB]; exact ⟨Nat.le_refl _, by omega⟩, hb⟩

end Go.Proofs.YtapledphhfiimaaGreatDoor
/-
  The document's Parcel; chapter 03's alive.
-/
namespace Go.Proofs.YtapledphhfiimaaGreatDoor
open Go.RowKit
set_option maxRecDepth 100000

theorem unK_pack (kd : Int) (l : List Int) (h : l.length < 4294967296) : unK (packL kd l) = kd := by
  rw [unK, if_pos (unW_pack kd l h), List.getD_eq_getElem?_getD, (packL_parts kd l).2.2.2.2.1]; rfl
theorem unB_pack (kd : Int) (l : List Int) (h : l.length < 4294967296) : unB (packL kd l) = l := by
  rw [unB, if_pos (unW_pack kd l h), (packL_parts kd l).2.1, wordN_of h, (packL_parts kd l).2.2.2.2.2]
theorem unE_pack (kd : Int) (l : List Int) (h : l.length < 4294967296) : unE (packL kd l) = .nil := by rw [unE, unW_pack kd l h]; rfl
theorem unE_nil {l : List Int} (h : unE l = .nil) : unW l = 0 := by
  unfold unE at h
  split at h
  · assumption
  all_goals cases h
theorem unE_bad {l : List Int} (h : unW l ≠ 0) : unE l ≠ .nil := fun e => h (unE_nil e)

end Go.Proofs.YtapledphhfiimaaGreatDoor
/-
  Errors and their values, one by one; contract of fault.First.
-/
namespace Go.Proofs.YtapledphhfiimaaGreatDoor
open Go.RowKit

def Err.first : List Err → Err
  | [] => .nil
  | .nil :: l => Err.first l
  | e :: _ => e
theorem Err.first_cons {E : Err} (h : E ≠ .nil) (l : List Err) : Err.first (E :: l) = E := by cases E <;> first | exact absurd rfl h | rfl

/-- Errors and their values, one by one. -/
def Err.AtAll (w : World) : List Err → List Value → Prop
  | [], vs => vs = []
  | E :: Es, vs => ∃ v vs', vs = v :: vs' ∧ E.At w v ∧ Err.AtAll w Es vs'
theorem Err.AtAll.len {w : World} : ∀ {Es : List Err} {vs : List Value}, Err.AtAll w Es vs → vs.length = Es.length
  | [], _, h => by rw [show _ = [] from h]; rfl
  | _ :: _, _, ⟨_, _, h1, _, h3⟩ => by rw [h1, List.length_cons, List.length_cons, h3.len]
theorem Err.AtAll.at_ {w : World} : ∀ {Es : List Err} {vs : List Value}, Err.AtAll w Es vs → ∀ (k : Nat) (E : Err), Es[k]? = some E → ∃ v, vs[k]? = some v ∧ E.At w v
  | [], _, _, k, E, h => by simp at h
  | _ :: _, _, ⟨v, _, h1, h2, _⟩, 0, E, h => by
    simp at h
    subst h
    exact ⟨v, by rw [h1]; rfl, h2⟩
  | _ :: _, _, ⟨_, _, h1, _, h3⟩, k + 1, E, h => by
    obtain ⟨v, hv, hE⟩ := h3.at_ k E (by simpa using h)
    exact ⟨v, by rw [h1]; simpa using hv, hE⟩
theorem Err.AtAll.keep {w w' : World} (hb : Below w.heap.size w w') : ∀ {Es : List Err} {vs : List Value}, Err.AtAll w Es vs → Err.AtAll w' Es vs
  | [], _, h => h
  | _ :: _, _, ⟨v, vs', h1, h2, h3⟩ => ⟨v, vs', h1, h2.keep hb, h3.keep hb⟩

end Go.Proofs.YtapledphhfiimaaGreatDoor
/-
  Contracts of wire.Writer: Num, Long, Text, List, Bytes, Err.
-/
namespace Go.Proofs.YtapledphhfiimaaGreatDoor
open Go.RowKit
set_option maxRecDepth 100000
set_option linter.unusedVariables false

/-- An error without steps. -/
def Err.flat : Err → Prop
  | .nil => True
  | .flt _ _ _ => True
  | _ => False
theorem Err.At.far {w w' : World} : ∀ {E : Err} {v : Value}, E.flat → E.At w v → (∀ g cs, Blk w g 114 cs → Blk w' g 114 cs) → E.At w' v
  | .nil, _, _, h, _ => h
  | .flt _ _ _, _, _, ⟨g, h1, h2⟩, hk => ⟨g, h1, hk g _ h2⟩
  | .step _ _, _, hf, _, _ => hf.elim
  | .txt _, _, hf, _, _ => hf.elim
theorem Err.first2_flat {c a : Int} {s : ByteArray} : ∀ {E : Err}, E.flat → (Err.first [E, .flt c a s]).flat
  | .nil, _ => trivial
  | .flt _ _ _, _ => trivial
  | .step _ _, h => h.elim
  | .txt _, h => h.elim

theorem Err.first2_ne {c a : Int} {s : ByteArray} : ∀ {E : Err}, Err.first [E, .flt c a s] ≠ .nil
  | .nil => fun h => by cases h
  | .flt _ _ _ => fun h => by cases h
  | .step _ _ => fun h => by cases h
  | .txt _ => fun h => by cases h

def txtNumber : ByteArray := ⟨#[110, 117, 109, 98, 101, 114]⟩
theorem own_farBlk {w : World} {B g size n i : Nat} {t e : TypeId} {cs : Array Value} {v : Value} {xs : List Value} (h : w.ownsRow B e size v n xs) (hb : Blk w g t cs) (hne : t ≠ e) (u : Value) : (w.setCell ⟨g, i, none⟩ u).ownsRow B e size v n xs :=
  own_block h fun g' hg' => heap_setCell_other w ⟨g, i, none⟩ g' u (fun e' => own_notBlk h hb hne (by rw [hg', e']))
theorem blk_farBlk {w : World} {g g' i : Nat} {t t' : TypeId} {cs cs' : Array Value} (h : Blk w g' t' cs') (hb : Blk w g t cs) (hne : t ≠ t') (u : Value) : Blk (w.setCell ⟨g, i, none⟩ u) g' t' cs' :=
  h.far (p := ⟨g, i, none⟩) (fun e => by
    have e : g' = g := e
    subst e
    unfold Blk at h hb
    rw [h] at hb
    injection hb with hb
    injection hb with _ h3
    exact hne h3.symm) u
/-- What is put, and the first error. -/
abbrev St := List Int × Err
def fits (z : Int) : Prop := 0 ≤ z ∧ z ≤ 4294967295
instance (z : Int) : Decidable (fits z) := by unfold fits; exact inferInstance
def pNum (z : Int) (st : St) : St := if fits z then (st.1 ++ wordL z.toNat, st.2) else (st.1 ++ wordL 0, Err.first [st.2, .flt 3 st.1.length txtNumber])
theorem pNum_len (z : Int) (st : St) : (pNum z st).1.length = st.1.length + 4 := by unfold pNum; split <;> simp [wordL]
theorem pNum_flat (z : Int) {st : St} (h : st.2.flat) : (pNum z st).2.flat := by
  unfold pNum; split
  · exact h
  · exact Err.first2_flat h

end Go.Proofs.YtapledphhfiimaaGreatDoor
/-
  Contract of wire.Writer.Num, whatever number.
-/
namespace Go.Proofs.YtapledphhfiimaaGreatDoor
open Go.RowKit
set_option maxRecDepth 100000
set_option linter.unusedVariables false

end Go.Proofs.YtapledphhfiimaaGreatDoor
/-
  Contracts of wire.Writer: Bytes; bytes.Clone.
-/
namespace Go.Proofs.YtapledphhfiimaaGreatDoor
open Go.RowKit
set_option maxRecDepth 100000
set_option linter.unusedVariables false

end Go.Proofs.YtapledphhfiimaaGreatDoor
/-
  Contracts of wire.Writer: Long, Text, List, Bytes, Err; bytes.Clone.
-/
namespace Go.Proofs.YtapledphhfiimaaGreatDoor
open Go.RowKit
set_option maxRecDepth 100000
set_option linter.unusedVariables false

/-- A text's bytes. -/
def sB (s : ByteArray) : List Int := s.data.toList.map fun b : UInt8 => (b.toNat : Int)
theorem sB_len (s : ByteArray) : (sB s).length = s.size := by rw [sB, List.length_map, Array.length_toList]; rfl
theorem sB_cells (s : ByteArray) : Lib.strCells s = (sB s).map (Value.int .u8) := by rw [sB, List.map_map]; rfl
theorem sB_bys (s : ByteArray) : Bys (sB s) := by
  intro x hx
  obtain ⟨b, _, rfl⟩ := List.mem_map.1 hx
  have := b.toNat_lt
  omega
def hiN (z : Int) : Nat := (z % 18446744073709551616 / 4294967296).toNat
def loN (z : Int) : Nat := (z % 4294967296).toNat
theorem hiN_lt (z : Int) : hiN z < 4294967296 := by unfold hiN; omega
theorem loN_lt (z : Int) : loN z < 4294967296 := by unfold loN; omega
def pLong (z : Int) (st : St) : St := (st.1 ++ wordL (hiN z) ++ wordL (loN z), st.2)
def pText (s : ByteArray) (st : St) : St := ((pNum s.size st).1 ++ sB s, (pNum s.size st).2)
def pNums : List Int → St → St
  | [], st => st
  | z :: l, st => pNums l (pNum z st)
def pList (l : List Int) (st : St) : St := pNums l (pNum l.length st)
theorem pNums_snoc : ∀ (l : List Int) (z : Int) (st : St), pNums (l ++ [z]) st = pNum z (pNums l st)
  | [], _, _ => rfl
  | x :: l, z, st => by rw [List.cons_append, pNums, pNums_snoc l, pNums]
theorem pNums_len : ∀ (l : List Int) (st : St), (pNums l st).1.length = st.1.length + 4 * l.length
  | [], st => by simp [pNums]
  | x :: l, st => by rw [pNums, pNums_len l, pNum_len, List.length_cons]; omega

section
variable {P : Program} {ops : Array Oper} {rest : List Oper} {o : Oper} {a : Act} {Q : Exit → Act → World → Prop}
/-- append(b, s...) of a string. -/
theorem wpList_str_lies {t u e : TypeId} (E : Elem P t e (.int .u8 0) 1 1) (hu : P.underlying u = some .string) {B : Nat} {W : World} (y x : Operand)
    (hgd : o.guard = none) (ho : o.op = .call { callee := .builtin .append, args := #[y, x], argTypes := #[t, u] })
    {v : Value} {n : Nat} {l : List Int} (hown : W.ownsRow B e 1 v n (l.map (Value.int .u8))) (hB : B ≤ W.heap.size) {s : ByteArray} (h0 : 0 < n + s.size)
    (hs : a.eval y = v) (hx : a.eval x = .string s) (hlim : n + s.size ≤ lim)
    (h : ∀ g cap w', w'.ownsRow B e 1 (.slice (some ⟨g, 0, none⟩) (n + s.size) cap) (n + s.size) ((l ++ sB s).map (Value.int .u8)) → W.grownBy w' v.ownBlock → wpList P ops Q rest (a.put o.dst (.slice (some ⟨g, 0, none⟩) (n + s.size) cap)) w') : wpList P ops Q (o :: rest) a W := by
  obtain ⟨i, hi, hz, hsize, hby⟩ := info_parts E.hi
  unfold lim at hlim
  refine Lib.wpList_append_own_string W hgd y x t u ho B e i E.ht hu hi hz hsize hby v n _ hs hown s hx (by unfold maxLen; omega) hlim hB ?_
  intro v' w' h2 h3 _
  rw [sB_cells, ← List.map_append] at h2
  rcases h2.2 with ⟨_, h4⟩ | ⟨g, cap, cur, rfl, _⟩
  · omega
  · exact h g cap w' h2 h3
end

end Go.Proofs.YtapledphhfiimaaGreatDoor
/-
  Items; contracts of the statements' far and put, and of the document's Put.
-/
namespace Go.Proofs.YtapledphhfiimaaGreatDoor
open Go.RowKit
set_option maxRecDepth 100000
set_option linter.unusedVariables false

structure Item where
  kind : Int
  n : Int
  s : ByteArray
  l : List Int
def Item.ok (x : Item) : Prop := (-9223372036854775808 ≤ x.kind ∧ x.kind ≤ 9223372036854775807) ∧ (-9223372036854775808 ≤ x.n ∧ x.n ≤ 9223372036854775807) ∧ x.s.size ≤ 9223372036854775807 ∧ x.l.length ≤ 9223372036854775807 ∧ ∀ z ∈ x.l, -9223372036854775808 ≤ z ∧ z ≤ 9223372036854775807
/-- Items in memory. -/
def Its (w : World) (A : Option Addr) (n : Nat) (xs : List Item) : Prop :=
  xs.length = n ∧ ∀ (i : Nat) (x : Item), xs[i]? = some x → x.ok ∧ ∃ b off LA lc, A = some ⟨b, off, none⟩ ∧ w.cell? ⟨b, off + i * 4, none⟩ = some (.int .i64 x.kind) ∧ w.cell? ⟨b, off + i * 4 + 1, none⟩ = some (.int .i64 x.n) ∧
    w.cell? ⟨b, off + i * 4 + 2, none⟩ = some (.string x.s) ∧ w.cell? ⟨b, off + i * 4 + 3, none⟩ = some (.slice LA x.l.length lc) ∧ Sl w 1 LA x.l.length (x.l.map (Value.int .i64)) ∧ x.l.length ≤ lc ∧ lc ≤ 9223372036854775807
theorem Its.keep {w w' : World} {A : Option Addr} {n : Nat} {xs : List Item} (h : Its w A n xs) (hb : Below w.heap.size w w') : Its w' A n xs := by
  refine ⟨h.1, fun i x hx => ?_⟩
  obtain ⟨h0, b, off, LA, lc, hA, h1, h2, h3, h4, h5, h6⟩ := h.2 i x hx
  have hk : ∀ {p : Addr} {v : Value}, w.cell? p = some v → w'.cell? p = some v := fun hp => (hb.cell (World.block_lt_of_cell? w _ hp)).trans hp
  exact ⟨h0, b, off, LA, lc, hA, hk h1, hk h2, hk h3, hk h4, h5.keep hb, h6⟩
def near (x : Item) : Prop := x.s.size ≤ 200 ∧ x.l.length ≤ 60 ∧ 0 ≤ x.kind ∧ x.kind ≤ 3
def Near (xs : List Item) : Prop := xs.length ≤ 40 ∧ ∀ x ∈ xs, near x
instance (x : Item) : Decidable (near x) := by unfold near; exact inferInstance
instance (xs : List Item) : Decidable (Near xs) := by unfold Near; exact inferInstance

def pItem (x : Item) (st : St) : St := if x.kind = 0 then pNum x.n st else if x.kind = 1 then pLong x.n st else if x.kind = 2 then pText x.s st else pList x.l st
def pItems : List Item → St → St
  | [], st => st
  | x :: l, st => pItems l (pItem x st)
theorem pItems_snoc : ∀ (l : List Item) (x : Item) (st : St), pItems (l ++ [x]) st = pItem x (pItems l st)
  | [], _, _ => rfl
  | y :: l, x, st => by rw [List.cons_append, pItems, pItems_snoc l, pItems]
theorem pItem_len {x : Item} (h : near x) (st : St) : (pItem x st).1.length ≤ st.1.length + 500 := by
  obtain ⟨h1, h2, _⟩ := h
  unfold pItem
  split
  · rw [pNum_len]; omega
  split
  · simp only [pLong, List.length_append, wordL_len]; omega
  split
  · simp only [pText, List.length_append, pNum_len, sB_len]; omega
  · rw [pList, pNums_len, pNum_len]; omega
theorem pItems_len : ∀ {l : List Item} (h : ∀ x ∈ l, near x) (st : St), (pItems l st).1.length ≤ st.1.length + 500 * l.length
  | [], _, st => by simp [pItems]
  | x :: l, h, st => by
    have h1 := pItem_len (h x (List.mem_cons_self ..)) st
    have h2 := pItems_len (fun y hy => h y (List.mem_cons_of_mem _ hy)) (pItem x st)
    rw [pItems, List.length_cons]
    omega

end Go.Proofs.YtapledphhfiimaaGreatDoor
/-
  Contract of the document's Put.
-/
namespace Go.Proofs.YtapledphhfiimaaGreatDoor
open Go.RowKit
set_option maxRecDepth 100000
set_option linter.unusedVariables false

/-- The place of the first number that can't be, or -1. -/
def badE : Err → Int
  | .flt _ a _ => a
  | _ => -1
/-- An error of a writer. -/
def WE (E : Err) : Prop := E = .nil ∨ ∃ a : Nat, a ≤ 1000000 ∧ E = .flt 3 a txtNumber
theorem WE.pNum {z : Int} {st : St} (h : WE st.2) (hl : st.1.length ≤ 1000000) : WE (pNum z st).2 := by
  unfold Go.Proofs.YtapledphhfiimaaGreatDoor.pNum
  split
  · exact h
  · rcases h with h | ⟨a, ha, h⟩
    · rw [h]; exact .inr ⟨_, hl, rfl⟩
    · rw [h]; exact .inr ⟨a, ha, rfl⟩
theorem WE.pNums : ∀ {l : List Int} {st : St}, WE st.2 → st.1.length + 4 * l.length ≤ 1000000 → WE (pNums l st).2
  | [], _, h, _ => h
  | z :: l, st, h, hl => by
    rw [List.length_cons] at hl
    rw [Go.Proofs.YtapledphhfiimaaGreatDoor.pNums]
    exact WE.pNums (h.pNum (by omega)) (by rw [pNum_len]; omega)
theorem WE.pItem {x : Item} {st : St} (h : WE st.2) (hn : near x) (hl : st.1.length ≤ 900000) : WE (pItem x st).2 := by
  obtain ⟨h1, h2, _⟩ := hn
  unfold Go.Proofs.YtapledphhfiimaaGreatDoor.pItem
  split
  · exact h.pNum (by omega)
  split
  · exact h
  split
  · exact h.pNum (by omega)
  · rw [pList]; exact (h.pNum (by omega)).pNums (by rw [pNum_len]; omega)
theorem WE.pItems : ∀ {l : List Item} {st : St}, WE st.2 → (∀ x ∈ l, near x) → st.1.length + 500 * l.length ≤ 900000 → WE (pItems l st).2
  | [], _, h, _, _ => h
  | x :: l, st, h, hn, hl => by
    rw [List.length_cons] at hl
    have h1 := pItem_len (hn x (List.mem_cons_self ..)) st
    rw [Go.Proofs.YtapledphhfiimaaGreatDoor.pItems]
    exact WE.pItems (h.pItem (hn x (List.mem_cons_self ..)) (by omega)) (fun y hy => hn y (List.mem_cons_of_mem _ hy)) (by omega)
theorem badE_nil {E : Err} (h : WE E) : badE E < 0 ↔ E = .nil := by
  rcases h with rfl | ⟨a, _, rfl⟩
  · simp [badE]
  · simp only [badE]
    constructor
    · intro h; omega
    · intro h; cases h

end Go.Proofs.YtapledphhfiimaaGreatDoor
/-
  Contracts of wire.Writer: Num, List where all fits: rows of other cells are left be.
-/
namespace Go.Proofs.YtapledphhfiimaaGreatDoor
open Go.RowKit
set_option maxRecDepth 100000
set_option linter.unusedVariables false

/-- A list in bytes. -/
def encW (l : List Int) : List Int := wordL l.length ++ l.flatMap fun x => wordL x.toNat
theorem encF_len (l : List Int) : (l.flatMap fun x => wordL x.toNat).length = 4 * l.length := by
  induction l with
  | nil => rfl
  | cons x l ih => rw [List.flatMap_cons, List.length_append, ih, wordL_len, List.length_cons]; omega
theorem encW_len (l : List Int) : (encW l).length = 4 + 4 * l.length := by unfold encW; rw [List.length_append, encF_len, wordL_len]
theorem fits_nat {z : Int} (h : fits z) : ∃ k : Nat, z = (k : Int) ∧ k < 4294967296 := ⟨z.toNat, by have := h.1; omega, by have := h.1; have := h.2; omega⟩

end Go.Proofs.YtapledphhfiimaaGreatDoor
/-
  Contracts of wire.Reader: NewReader, take, num, Num, Long, Left, End; what nobody answers.
-/
namespace Go.Proofs.YtapledphhfiimaaGreatDoor
open Go.RowKit
set_option maxRecDepth 100000
set_option linter.unusedVariables false

def txtBytes : ByteArray := ⟨#[98, 121, 116, 101, 115]⟩
def txtList : ByteArray := ⟨#[108, 105, 115, 116]⟩
/-- Of what was there nothing but block g has turned. -/
def Asd (g : Nat) (w w' : World) : Prop := w.heap.size ≤ w'.heap.size ∧ ∀ k, k ≠ g → k < w.heap.size → w'.heap[k]? = w.heap[k]?
theorem Asd.of {g : Nat} {w w' : World} (h : Below w.heap.size w w') : Asd g w w' := ⟨h.size, fun k _ hk => h.block k hk⟩
theorem Asd.trans {g : Nat} {a b c : World} (h : Asd g a b) (k : Asd g b c) : Asd g a c := ⟨Nat.le_trans h.1 k.1, fun i hi hl => (k.2 i hi (Nat.lt_of_lt_of_le hl h.1)).trans (h.2 i hi hl)⟩
theorem Asd.setCell {g : Nat} {a w : World} (h : Asd g a w) (i : Nat) (u : Value) : Asd g a (w.setCell ⟨g, i, none⟩ u) :=
  h.trans ⟨by simp [World.setCell], fun k hk _ => Below.heap_setCell _ _ _ _ hk⟩
theorem Asd.cell {g : Nat} {w w' : World} (h : Asd g w w') {p : Addr} {v : Value} (hp : w.cell? p = some v) (hg : p.block ≠ g) : w'.cell? p = some v :=
  (World.cell?_of_block (w := w) (h.2 p.block hg (World.block_lt_of_cell? w _ hp))).trans hp
theorem Asd.froz {g : Nat} {w w' : World} (h : Asd g w w') {p : Addr} {b : Bool} (hl : p.block < w.heap.size) (hp : w.frozen? p = b) (hg : p.block ≠ g) : w'.frozen? p = b :=
  (World.frozen?_of_block (w := w) (h.2 p.block hg hl)).trans hp
theorem nilEq (w : World) (A : Option Addr) (n c : Nat) : (binOp .eql 142 (.slice A n c) (.slice none 0 0)).run Tryz.prog w = .ok (.bool A.isNone) w := Lib.run_eql_slice_nil w _ _ A n c 0 0 Tryz.underlying142

end Go.Proofs.YtapledphhfiimaaGreatDoor
/-
  Orders, plainly: no program in sight.
-/
namespace Go.Proofs.YtapledphhfiimaaGreatDoor

/-- A list that is an order. -/
def Ord (p : List Int) : Prop := p.length ≤ 8 ∧ (∀ x ∈ p, 0 ≤ x ∧ x < p.length) ∧ p.Nodup
instance (p : List Int) : Decidable (Ord p) := by unfold Ord; exact inferInstance
/-- 0, 1, .. -/
def ids (n : Nat) : List Int := (List.range n).map fun i : Nat => (i : Int)
theorem ids_len (n : Nat) : (ids n).length = n := by simp [ids]
theorem ids_succ (n : Nat) : ids (n + 1) = ids n ++ [(n : Int)] := by simp [ids, List.range_succ]
theorem ids_mem {n : Nat} {x : Int} : x ∈ ids n ↔ 0 ≤ x ∧ x < n := by
  simp only [ids, List.mem_map, List.mem_range]
  constructor
  · rintro ⟨i, hi, rfl⟩; omega
  · rintro ⟨h1, h2⟩; exact ⟨x.toNat, by omega, by omega⟩
theorem ids_nodup (n : Nat) : (ids n).Nodup := by
  unfold ids
  rw [List.nodup_iff_pairwise_ne, List.pairwise_map]
  exact List.Pairwise.imp (fun h => by omega) (List.pairwise_lt_range)
theorem ids_get (n i : Nat) (h : i < n) : (ids n)[i]? = some (i : Int) := by simp [ids, h]
theorem ids_ord {n : Nat} (h : n ≤ 8) : Ord (ids n) := ⟨by rw [ids_len]; exact h, fun x hx => by rw [ids_len]; exact ids_mem.1 hx, ids_nodup n⟩

/-- l's things at p's places, one by one. -/
def scat : List Int → List Int → List Int → List Int
  | x :: p, y :: l, out => scat p l (out.set x.toNat y)
  | _, _, out => out
theorem scat_len : ∀ p l out, (scat p l out).length = out.length
  | x :: p, y :: l, out => by rw [scat, scat_len p l]; simp
  | [], _, _ => rfl
  | _ :: _, [], _ => rfl
theorem scat_snoc (x y : Int) : ∀ (p l out : List Int), p.length = l.length → scat (p ++ [x]) (l ++ [y]) out = (scat p l out).set x.toNat y
  | [], [], _, _ => rfl
  | a :: p, b :: l, out, h => by
    rw [List.cons_append, List.cons_append, scat, scat_snoc x y p l _ (by simpa using h), scat]
theorem scat_other : ∀ (p l out : List Int) (j : Nat), (∀ x ∈ p, x.toNat ≠ j) → (scat p l out)[j]? = out[j]?
  | x :: p, y :: l, out, j, h => by
    rw [scat, scat_other p l _ j (fun z hz => h z (List.mem_cons_of_mem _ hz)), List.getElem?_set_ne (h x (List.mem_cons_self ..))]
  | [], _, _, _, _ => by simp [scat]
  | _ :: _, [], _, _, _ => by simp [scat]
theorem scat_at : ∀ (p l out : List Int) (i : Nat) (x y : Int), p.Nodup → (∀ z ∈ p, 0 ≤ z ∧ z < out.length) → p[i]? = some x → l[i]? = some y → (scat p l out)[x.toNat]? = some y
  | a :: p, b :: l, out, 0, x, y, hn, hr, hx, hy => by
    simp only [List.getElem?_cons_zero, Option.some.injEq] at hx hy
    subst hx hy
    have hna := (List.nodup_cons.1 hn).1
    have hra := hr a (List.mem_cons_self ..)
    rw [scat, scat_other]
    · rw [List.getElem?_set_self (by omega)]
    · intro z hz e
      have := hr z (List.mem_cons_of_mem _ hz)
      exact hna (by rwa [show a = z by omega])
  | a :: p, b :: l, out, i + 1, x, y, hn, hr, hx, hy => by
    rw [scat]
    exact scat_at p l _ i x y (List.nodup_cons.1 hn).2 (fun z hz => by rw [List.length_set]; exact hr z (List.mem_cons_of_mem _ hz)) (by simpa using hx) (by simpa using hy)
  | [], _, _, _, _, _, _, _, hx, _ => by simp at hx
  | _ :: _, [], _, _, _, _, _, _, _, hy => by simp at hy

/-- No more things than places. -/
theorem pig : ∀ (n : Nat) (l : List Int), l.Nodup → (∀ x ∈ l, 0 ≤ x ∧ x < n) → l.length ≤ n
  | 0, [], _, _ => Nat.le_refl _
  | 0, x :: _, _, h => by have := h x (List.mem_cons_self ..); omega
  | n + 1, l, hn, h => by
    have h1 := pig n (l.erase (n : Int)) (hn.erase _) (fun x hx => by
      have hm := List.mem_of_mem_erase hx
      have := h x hm
      have hne : x ≠ (n : Int) := fun e => (hn.not_mem_erase (a := (n : Int))) (e ▸ hx)
      omega)
    rw [List.length_erase] at h1
    split at h1 <;> omega
theorem Ord.mem {p : List Int} (h : Ord p) {j : Int} (h0 : 0 ≤ j) (h1 : j < p.length) : j ∈ p := by
  refine Decidable.byContradiction fun hn => ?_
  have := pig p.length (j :: p) (List.nodup_cons.2 ⟨hn, h.2.2⟩) (fun x hx => by
    rcases List.mem_cons.1 hx with rfl | hx
    · exact ⟨h0, h1⟩
    · exact h.2.1 x hx)
  rw [List.length_cons] at this
  omega
theorem Ord.at_ {p : List Int} (h : Ord p) {j : Nat} (h1 : j < p.length) : ∃ i, i < p.length ∧ p[i]? = some (j : Int) := by
  obtain ⟨i, hi, e⟩ := List.getElem_of_mem (h.mem (j := j) (by omega) (by omega))
  exact ⟨i, hi, by rw [List.getElem?_eq_getElem hi, e]⟩
theorem Ord.get {p : List Int} (h : Ord p) {i : Nat} (hi : i < p.length) : ∃ j : Nat, j < p.length ∧ p[i]? = some (j : Int) := by
  have hm := h.2.1 _ (List.getElem_mem hi)
  exact ⟨p[i].toNat, by omega, by rw [List.getElem?_eq_getElem hi]; congr 1; omega⟩
theorem Ord.inj {p : List Int} (h : Ord p) {i j : Nat} {x : Int} (hi : p[i]? = some x) (hj : p[j]? = some x) : i = j := by
  have h1 : i < p.length := (List.getElem?_eq_some_iff.1 hi).1
  exact (List.getElem?_inj h1 h.2.2).1 (hi.trans hj.symm)

/-- The list put. -/
def putL (p l : List Int) : List Int := if Ord p ∧ p.length = l.length then scat p l (List.replicate p.length 0) else []
/-- The order that leads back. -/
def backL (p : List Int) : List Int := if Ord p then scat p (ids p.length) (List.replicate p.length 0) else []
/-- One, then the other. -/
def thenL (p q : List Int) : List Int := if Ord p ∧ Ord q ∧ p.length = q.length then p.map fun x => q.getD x.toNat 0 else []
theorem putL_len {p l : List Int} (h : Ord p) (hl : p.length = l.length) : (putL p l).length = p.length := by rw [putL, if_pos ⟨h, hl⟩, scat_len]; simp
theorem putL_at {p l : List Int} (h : Ord p) (hl : p.length = l.length) {i : Nat} {x y : Int} (hx : p[i]? = some x) (hy : l[i]? = some y) : (putL p l)[x.toNat]? = some y := by
  rw [putL, if_pos ⟨h, hl⟩]
  exact scat_at _ _ _ i x y h.2.2 (by simpa using h.2.1) hx hy
theorem backL_eq {p : List Int} (h : Ord p) : backL p = putL p (ids p.length) := by rw [backL, putL, if_pos h, if_pos ⟨h, by rw [ids_len]⟩]
theorem backL_len {p : List Int} (h : Ord p) : (backL p).length = p.length := by rw [backL_eq h, putL_len h (by rw [ids_len])]
theorem backL_at {p : List Int} (h : Ord p) {i : Nat} {x : Int} (hx : p[i]? = some x) : (backL p)[x.toNat]? = some (i : Int) := by
  rw [backL_eq h]
  exact putL_at h (by rw [ids_len]) hx (ids_get _ _ (List.getElem?_eq_some_iff.1 hx).1)
/-- Back the other way. -/
theorem backL_of {p : List Int} (h : Ord p) {j : Nat} {y : Int} (hy : (backL p)[j]? = some y) : ∃ i : Nat, y = i ∧ p[i]? = some (j : Int) := by
  have hj : j < p.length := by rw [← backL_len h]; exact (List.getElem?_eq_some_iff.1 hy).1
  obtain ⟨i, _, hi⟩ := h.at_ hj
  have := backL_at h hi
  rw [Int.toNat_natCast, hy] at this
  exact ⟨i, by simpa using this, hi⟩
theorem backL_ord {p : List Int} (h : Ord p) : Ord (backL p) := by
  refine ⟨by rw [backL_len h]; exact h.1, fun x hx => ?_, ?_⟩
  · obtain ⟨j, hj, e⟩ := List.getElem_of_mem hx
    obtain ⟨i, rfl, hi⟩ := backL_of h (by rw [List.getElem?_eq_getElem hj, e])
    rw [backL_len h]
    have := (List.getElem?_eq_some_iff.1 hi).1
    omega
  · rw [List.nodup_iff_pairwise_ne, List.pairwise_iff_getElem]
    intro i j hi hj hlt e
    obtain ⟨a, ha, pa⟩ := backL_of h (List.getElem?_eq_getElem hi)
    obtain ⟨b, hb, pb⟩ := backL_of h (List.getElem?_eq_getElem hj)
    have hab : a = b := by have : (a : Int) = b := by rw [← ha, ← hb, e]
                           omega
    rw [hab, pb] at pa
    have : (j : Int) = i := by simpa using pa
    omega

/-- Put and put back. -/
theorem put_back {p l : List Int} (h : Ord p) (hl : p.length = l.length) : putL (backL p) (putL p l) = l := by
  have hb := backL_ord h
  have e1 := putL_len h hl
  have e2 := backL_len h
  have e3 := putL_len hb (e2.trans e1.symm)
  apply List.ext_getElem?
  intro i
  by_cases hi : i < p.length
  · obtain ⟨j, hj, hx⟩ := h.get hi
    have hi' : i < l.length := by omega
    have h1 := putL_at h hl hx (List.getElem?_eq_getElem hi')
    have h2 := backL_at h hx
    have h3 := putL_at hb (e2.trans e1.symm) h2 h1
    rw [Int.toNat_natCast] at h3
    rw [h3, List.getElem?_eq_getElem hi']
  · rw [List.getElem?_eq_none (by omega), List.getElem?_eq_none (by omega)]

/-- n times all below. -/
def fac : Nat → Nat
  | 0 => 1
  | n + 1 => (n + 1) * fac n
theorem fac_pos : ∀ n, 0 < fac n
  | 0 => by decide
  | n + 1 => Nat.mul_pos (by omega) (fac_pos n)
theorem fac_le {n : Nat} (h : n ≤ 8) : fac n ≤ 40320 := by
  have : ∀ n : Fin 9, fac n ≤ 40320 := by decide
  exact this ⟨n, by omega⟩
/-- What is picked of what is left, by a rank. -/
def ofR : Nat → Nat → List Int → List Int
  | 0, _, _ => []
  | k + 1, r, left => left.getD (r / fac k) 0 :: ofR k (r % fac k) (left.eraseIdx (r / fac k))
theorem ofR_perm : ∀ (k r : Nat) (left : List Int), left.length = k → r < fac k → List.Perm (ofR k r left) left
  | 0, _, left, h, _ => by rw [List.eq_nil_of_length_eq_zero h]; exact List.Perm.refl _
  | k + 1, r, left, h, hr => by
    have hp := fac_pos k
    have hlt : r / fac k < left.length := by rw [h]; exact Nat.div_lt_of_lt_mul (by rw [Nat.mul_comm]; exact hr)
    have h1 := ofR_perm k (r % fac k) (left.eraseIdx (r / fac k)) (by rw [List.length_eraseIdx, if_pos hlt, h]; rfl) (Nat.mod_lt _ hp)
    rw [ofR, List.getD_eq_getElem?_getD, List.getElem?_eq_getElem hlt]
    refine (h1.cons _).trans ?_
    rw [List.eraseIdx_eq_take_drop_succ]
    refine List.perm_middle.symm.trans ?_
    show List.Perm (left.take (r / fac k) ++ left[r / fac k] :: left.drop (r / fac k + 1)) left
    rw [← List.drop_eq_getElem_cons hlt, List.take_append_drop]
theorem ord_of_perm {n : Nat} {p : List Int} (hn : n ≤ 8) (h : List.Perm p (ids n)) : Ord p := by
  have hl : p.length = n := by rw [h.length_eq, ids_len]
  refine ⟨by omega, fun x hx => ?_, h.nodup_iff.2 (ids_nodup n)⟩
  rw [hl]
  exact ids_mem.1 (h.mem_iff.1 hx)
theorem ofR_ord {n r : Nat} (hn : n ≤ 8) (hr : r < fac n) : Ord (ofR n r (ids n)) := ord_of_perm hn (ofR_perm n r _ (ids_len n) hr)
theorem ofR_len {n r : Nat} (hr : r < fac n) : (ofR n r (ids n)).length = n := by rw [(ofR_perm n r _ (ids_len n) hr).length_eq, ids_len]
end Go.Proofs.YtapledphhfiimaaGreatDoor
