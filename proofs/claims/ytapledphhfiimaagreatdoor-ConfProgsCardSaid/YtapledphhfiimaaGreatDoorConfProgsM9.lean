/-
  Part 9 of the proof of ConfProgs: PgC, ConfR, CfA, Chain, Chain2.
-/
import Derived.Test.YtapledphhfiimaaGreatDoorConfProgsM8
import Derived.Test.YtapledphhfiimaaGreatDoorConfProgsM1
import Derived.Deep.LoopGhost
/-
  Texts joined at any byte; the walk of prog.Text.
-/
namespace Go.Proofs.YtapledphhfiimaaGreatDoor
open Go.RowKit Go.Proofs.YtapledphhfiimaaGreatDoor.Pg
attribute [local go_sem ↓] Go.wp_at_zero Go.wp_at_succ
set_option maxRecDepth 100000
set_option linter.unusedVariables false

theorem tailC_len (c : UInt8) : ∀ (r : List (List UInt8)) (M : Nat), (∀ b ∈ r, b.length ≤ M) → (Lib.joinTail [c] r).length ≤ r.length * (M + 1)
  | [], M, _ => Nat.zero_le _
  | x :: r, M, h => by
    have h1 := tailC_len c r M (fun b hb => h b (List.mem_cons_of_mem _ hb))
    have h2 := h x (List.mem_cons_self ..)
    unfold Lib.joinTail at h1 ⊢
    rw [List.map_cons, List.flatten_cons, List.length_append, List.length_cons, List.length_append]
    simp only [List.length_cons, List.length_nil]
    rw [Nat.add_mul (r.length) 1 (M + 1)]
    omega
theorem joinC_len (c : UInt8) (r : List (List UInt8)) (M : Nat) (h : ∀ b ∈ r, b.length ≤ M) : (Lib.join r [c]).length ≤ r.length * (M + 1) := by
  rcases r with _ | ⟨x, r⟩
  · exact Nat.zero_le _
  · have h1 := tailC_len c r M (fun b hb => h b (List.mem_cons_of_mem _ hb))
    have h2 := h x (List.mem_cons_self ..)
    rw [Lib.join_cons, List.length_append, List.length_cons, Nat.add_mul r.length 1 (M + 1)]
    omega
/-- strings.Join at one byte. -/
theorem JoinC_any (S : List (List UInt8)) (cc : UInt8) (A : Option Addr) (n c : Nat) (w : World) (hl : S.length = n) (hn : n ≤ 10000) (hnc : n ≤ c) (hs : Sl w 1 A n (S.map fun x => Value.string (bz x))) (hlt : ∀ x : Addr, A = some x → x.block < w.heap.size) (hsz : ∀ b ∈ S, b.length ≤ 100000) :
    Calls Tryz.prog 70 #[.slice A n c, .string ⟨#[cc]⟩] w fun e w' => e = .returned (.string (bz (Lib.join S [cc]))) ∧ Below w.heap.size w w' := by
  rcases Nat.eq_zero_or_pos n with h0 | h0
  · subst h0
    obtain rfl := List.eq_nil_of_length_eq_zero hl
    exact (strings_Join_none A c ⟨#[cc]⟩ w).mono fun e w' ⟨h1, h2⟩ => ⟨h1, by rw [h2]; exact Below.refl _ _⟩
  · obtain ⟨b, off, rfl, hc⟩ := hs.2 h0
    subst hl
    have hmap : (S.map bz).map (·.data.toList) = S := by
      rw [List.map_map]
      conv => rhs; rw [← List.map_id S]
      exact List.map_congr_left fun x _ => by simp
    have h := strings_Join b off c (S.map bz) ⟨#[cc]⟩ w (fun j x hx => hc j _ (by
      rw [List.getElem?_map] at hx ⊢
      obtain ⟨y, hy, rfl⟩ := Option.map_eq_some_iff.1 hx
      rw [hy]; rfl)) (hlt _ rfl) (by rw [List.length_map]; omega) (by rw [List.length_map]; exact hnc) (by
      have h1 := joinC_len cc S 100000 hsz
      show (Lib.join ((S.map bz).map (·.data.toList)) [cc]).length ≤ _
      rw [hmap]
      have : S.length * (100000 + 1) ≤ 10000 * (100000 + 1) := Nat.mul_le_mul_right _ hn
      omega)
    rw [List.length_map] at h
    refine h.mono fun e w' ⟨h1, h2⟩ => ⟨?_, h2⟩
    rw [h1]
    show Ending.returned (.string ⟨(Lib.join ((S.map bz).map (·.data.toList)) [cc]).toArray⟩) = _
    rw [hmap]
theorem bz_app (l m : List UInt8) : bz l ++ bz m = bz (l ++ m) := by
  apply ByteArray.ext
  simp
theorem opL_len {o : Int × Int} (h1 : 1 ≤ o.1 ∧ o.1 ≤ 8) (h2 : i64P o.2) : (opL o).length ≤ 30 := by
  have h3 := (name_ne h1.1 h1.2).2.2.2.2
  have h4 := Lib.itoa_length_le o.2 h2.1 h2.2
  unfold opL
  rw [List.length_append]
  split
  · rw [List.length_cons]; omega
  · simp; omega
theorem own_lt {w : World} {g : Nat} {t : TypeId} {k n c m : Nat} {A : Option Addr} {xs : List Value} (h : w.ownsRow g t k (.slice A n c) m xs) {x : Addr} (hx : A = some x) : x.block < w.heap.size := by
  subst hx
  exact (h.lt x.block rfl).2
set_option maxHeartbeats 8000000 in
theorem PgText_any (p : List (Int × Int)) (A : Option Addr) (n c : Nat) (w : World) (hn : n ≤ 1000) (hs : Sl w 2 A n (Rk.cells p)) (hp : ∀ o ∈ p, (1 ≤ o.1 ∧ o.1 ≤ 8) ∧ i64P o.2) (hT : TabW w) :
    Calls Tryz.prog 30 #[.slice A n c] w fun e w' => e = .returned (.string (bz (textG p))) ∧ Below w.heap.size w w' := by
  have HS := Lib.hid hs
  have HM := Lib.hid hs.len2
  have HT := Lib.hid hT
  have HP := Lib.hid hp
  clear hs hT hp
  go_enter Tryz.func30, Tryz.ntmps30
  go_wp2_with fail
  go_loopw [3, 9] (fun lv iv wr => ∃ k : Nat, k ≤ n ∧ iv = .int .i64 (k : Int) ∧ Hid (wr.ownsRow w.heap.size 9 1 lv k (((p.take k).map opL).map fun x => Value.string (bz x))) ∧ Hid (Below w.heap.size w wr)) (fun _ iv _ => n - (intOf iv).toNat)
  case atStart => exact ⟨0, Nat.zero_le _, rfl, Lib.hid (by simpa using World.ownsRow_nil _ _ _ _), Lib.hid (Below.refl _ _)⟩
  case round =>
    obtain ⟨k, hk, rfl, HO, HB⟩ := hrel
    by_cases hlt : k < n
    · have hlt' : (k : Int) < (n : Int) := by omega
      have hk0 : (0 : Int) ≤ (k : Int) := by omega
      obtain ⟨⟨x, y⟩, he⟩ : ∃ e, p[k]? = some e := ⟨_, List.getElem?_eq_getElem (by rw [HM.out]; exact hlt)⟩
      obtain ⟨b1, off1, rfl, c0, c1⟩ := (HS.out.keep HB.out).edge hlt he
      simp only at c0 c1
      have hxy := HP.out _ (List.mem_of_getElem? he)
      simp only at hxy
      have HE := Lib.hid (show ((p.take (k + 1)).map opL).map (fun x => Value.string (bz x)) = ((p.take k).map opL).map (fun x => Value.string (bz x)) ++ [.string (bz (opL (x, y)))] from by
        obtain ⟨h1, h2⟩ := List.getElem?_eq_some_iff.1 he
        rw [List.take_succ_eq_append_getElem h1, h2, List.map_append, List.map_append]
        rfl)
      have HBa := Lib.hid (bel_alloc HB.out (Nat.le_refl _) (.cells #[.int .i64 x, .int .i64 y] 40))
      have HKo := Lib.hid (Blk.new wr 40 #[.int .i64 x, .int .i64 y])
      have HOa := Lib.hid (HO.out.alloc (.cells #[.int .i64 x, .int .i64 y] 40))
      have HNm := Lib.hid (Name_any x (wr.alloc (.cells #[.int .i64 x, .int .i64 y] 40)))
      have HTk := Lib.hid (fun W => takes_any x W)
      have HOp := Lib.hid (show opL (x, y) = nameL x ++ if takesZ x = true then 32 :: Lib.itoa y else [] from rfl)
      have hz1 := (name_ne hxy.1.1 hxy.1.2).2.2.2.2
      have HI64 := Lib.hid hxy.2
      have hz2 := itoaB_size y hxy.2
      have hs32 : (⟨#[32]⟩ : ByteArray).size = 1 := rfl
      have hznm : (bz (nameL x)).size ≤ 6 := by rw [bz_size]; exact hz1
      obtain ⟨nm, hnm⟩ : ∃ nm, nm = bz (nameL x) := ⟨_, rfl⟩
      obtain ⟨it, hit⟩ : ∃ it, it = itoaB y := ⟨_, rfl⟩
      rw [← hnm] at HNm hznm
      rw [← hit] at hz2
      have a1 : ∀ W, (Op.stringOp .add ⟨#[32]⟩ it).run Tryz.prog W = .ok (.string (⟨#[32]⟩ ++ it)) W := fun W => run_string_add_sum W _ _ (by omega)
      have a2 : ∀ W, (Op.stringOp .add nm (⟨#[32]⟩ ++ it)).run Tryz.prog W = .ok (.string (nm ++ (⟨#[32]⟩ ++ it))) W := fun W => run_string_add_sum W _ _ (by rw [ByteArray.size_append]; omega)
      cases ht : takesZ x with
      | true =>
        rw [ht] at HTk
        have HFin := Lib.hid (show nm ++ (⟨#[32]⟩ ++ it) = bz (opL (x, y)) from by
          rw [HOp.out, if_pos ht, hnm, hit, itoaB_bz, show (⟨#[32]⟩ : ByteArray) = bz [32] from rfl, bz_app, bz_app]
          rfl)
        have HIt := Lib.hid (fun W (hW : Below w.heap.size w W) => (Itoa_any y W HI64.out (HT.out.keep hW)).mono (R' := fun e w' => e = .returned (.string it) ∧ Below W.heap.size W w') fun e w' h => ⟨by rw [h.1, hit], h.2⟩)
        clear ht hxy he hz1 hz2 hs32 hznm hnm hit
        go_wp2_with (first
          | (go_at_call 67; refine HNm.out.mono ?_; clear HNm; rintro e w2 ⟨rfl, hb2⟩; have HB2 := Lib.hid (HBa.out.andThen hb2); have HO2 := Lib.hid (own_block HOa.out fun g hg => hb2.block g (HOa.out.lt g hg).2); have k0 := (HKo.out.keep hb2).cell 0; have k1 := (HKo.out.keep hb2).cell 1; simp at k0 k1; clear hb2)
          | (go_at_call 68; refine (HTk.out _).mono ?_; rintro e w3 ⟨rfl, rfl⟩)
          | (go_at_call 69; refine (HIt.out _ HB2.out).mono ?_; rintro e w4 ⟨rfl, hb4⟩; have HB4 := Lib.hid (HB2.out.andThen hb4); have HO4 := Lib.hid (own_block HO2.out fun g hg => hb4.block g (HO2.out.lt g hg).2); clear hb4)
          | (at_builtin; refine wpList_push elemStr (w0 := w) _ _ rfl rfl HO4.out HB4.out (Nat.le_refl _) rfl rfl rfl (by simp [Value.oneCell']) (by unfold lim; omega) (by unfold lim; omega) ?_; intro v6 w6 hown6 hb6; have HO6 := Lib.hid hown6; have HB6 := Lib.hid hb6; clear hown6 hb6))
        go_roundw
        case rel => exact ⟨k + 1, by omega, by go_num, Lib.hid (by rw [HE.out, ← HFin.out]; exact HO6.out), HB6⟩
        case measure => simp [intOf]; omega
      | false =>
        rw [ht] at HTk
        have HFin := Lib.hid (show nm = bz (opL (x, y)) from by
          rw [HOp.out, if_neg (by rw [ht]; decide), List.append_nil, hnm])
        clear ht hxy he hz1 hz2 hs32 hznm hnm hit a1 a2
        go_wp2_with (first
          | (go_at_call 67; refine HNm.out.mono ?_; clear HNm; rintro e w2 ⟨rfl, hb2⟩; have HB2 := Lib.hid (HBa.out.andThen hb2); have HO2 := Lib.hid (own_block HOa.out fun g hg => hb2.block g (HOa.out.lt g hg).2); have k0 := (HKo.out.keep hb2).cell 0; have k1 := (HKo.out.keep hb2).cell 1; simp at k0 k1; clear hb2)
          | (go_at_call 68; refine (HTk.out _).mono ?_; rintro e w3 ⟨rfl, rfl⟩)
          | (at_builtin; refine wpList_push elemStr (w0 := w) _ _ rfl rfl HO2.out HB2.out (Nat.le_refl _) rfl rfl rfl (by simp [Value.oneCell']) (by unfold lim; omega) (by unfold lim; omega) ?_; intro v6 w6 hown6 hb6; have HO6 := Lib.hid hown6; have HB6 := Lib.hid hb6; clear hown6 hb6))
        go_roundw
        case rel => exact ⟨k + 1, by omega, by go_num, Lib.hid (by rw [HE.out, ← HFin.out]; exact HO6.out), HB6⟩
        case measure => simp [intOf]; omega
    · obtain rfl : k = n := by omega
      have hlt' : ¬ (k : Int) < (k : Int) := by omega
      rw [List.take_of_length_le (by rw [HM.out]; exact Nat.le_refl _)] at HO
      obtain ⟨D, dc, rfl, hsl⟩ := Sl.own HO.out
      have HJ := Lib.hid (JoinC_any (p.map opL) 59 D k dc wr (by rw [List.length_map]; exact HM.out) (by omega) (own_cap HO.out).1 hsl (fun x hx => own_lt HO.out hx) (fun b hb => by
        obtain ⟨o, ho, rfl⟩ := List.mem_map.1 hb
        have := HP.out o ho
        have := opL_len this.1 this.2
        omega))
      clear hsl
      go_wp2_with (go_at_call 70; refine HJ.out.mono ?_; clear HJ; rintro e w2 ⟨rfl, hb2⟩; have HB2 := Lib.hid (HB.out.andThen hb2); clear hb2)
      go_ret
      exact ⟨rfl, HB2.out⟩
end Go.Proofs.YtapledphhfiimaaGreatDoor
/-
  Jobs' texts plainly: which numbers each word takes.
-/
namespace Go.Proofs.YtapledphhfiimaaGreatDoor.Cf
open Go Go.Proofs.YtapledphhfiimaaGreatDoor.Tx Go.Proofs.YtapledphhfiimaaGreatDoor.Pg
set_option linter.unusedVariables false

/-- A number's text, as the statement writes it. -/
def sgnL (n : Int) : List UInt8 := if n < 0 then [45, 48] else Lib.itoa n
theorem numP_neg (d : Nat) : numP d [45, 48] = none := by
  unfold numP
  split
  · rename_i v hv
    rw [if_neg]
    rintro ⟨_, h2, h3⟩
    have e : v = ((v.toNat : Nat) : Int) := by omega
    rw [e, itoa_nat] at h2
    have := dec_digit v.toNat 45 (by rw [h2]; simp)
    revert this
    decide
  · rfl
theorem numC_sgn {m n : Int} (hm : m ≤ 1000000) (h9 : n ≤ 9223372036854775807) : numC m (sgnL n) = if 1 ≤ n ∧ n ≤ m then some n else none := by
  unfold sgnL
  by_cases hn : n < 0
  · rw [if_pos hn, if_neg (by omega)]
    unfold numC
    rw [numP_neg]
  · rw [if_neg hn]
    by_cases hc : 1 ≤ n ∧ n ≤ m
    · rw [if_pos hc, numC_itoa hc.1 hc.2 hm]
    · rw [if_neg hc]
      have e : n = ((n.toNat : Nat) : Int) := by omega
      unfold numC
      rw [e, itoa_nat]
      by_cases hl : (Lib.decDigits n.toNat).length ≤ 7
      · rw [numP_dec (by omega) hl]
        simp only
        rw [if_neg (by omega)]
      · have : numP 7 (Lib.decDigits n.toNat) = none := by
          unfold numP
          rw [atoi_dec (by omega)]
          simp only
          rw [if_neg (fun h => hl h.1)]
        rw [this]
theorem sgn_no {n : Int} : (10 : UInt8) ∉ sgnL n := by
  unfold sgnL
  split
  · decide
  · exact itoa_no (by omega)
def mostK (k : Nat) : Int := if k = 0 then 8 else if k = 2 then 64 else 1000000
def wordK (k : Nat) : List UInt8 := if k = 0 then wSize else if k = 1 then wSupport else if k = 2 then wWorkers else wCap
def fieldK (k : Nat) (c : CF) : Int := if k = 0 then c.size else if k = 1 then c.sup else if k = 2 then c.wk else c.cap
/-- The lines of the statement. -/
def linesK (k : Nat) (n : Int) : List (List UInt8) :=
  [lineW wJob (jobL 3), lineW (wordK k) (sgnL n)] ++ (if k = 0 then [] else [lineW wSize [49]]) ++ (if k = 1 then [] else [lineW wSupport [49]])
theorem one_itoa : ([49] : List UInt8) = Lib.itoa 1 := by
  rw [show (1 : Int) = ((1 : Nat) : Int) from rfl, itoa_nat, Lib.decDigits_one (by omega)]
  rfl
theorem set_k {c : CF} {k : Nat} {n : Int} (hk : k < 4) (h3 : c.kind = 3) (h9 : n ≤ 9223372036854775807) (h1 : 1 ≤ n) (hm : n ≤ mostK k) : ∃ c', setC c (wordK k) (sgnL n) = some c' ∧ c'.kind = 3 ∧ fieldK k c' = n ∧ (∀ j, j < 4 → j ≠ k → fieldK j c' = fieldK j c) := by
  have hs : sgnL n = Lib.itoa n := by unfold sgnL; rw [if_neg (by omega)]
  rw [hs]
  rcases (show k = 0 ∨ k = 1 ∨ k = 2 ∨ k = 3 by omega) with rfl | rfl | rfl | rfl
  · exact ⟨_, set_size h1 hm, h3, rfl, fun j hj hne => by rcases (show j = 1 ∨ j = 2 ∨ j = 3 by omega) with rfl | rfl | rfl <;> rfl⟩
  · exact ⟨_, set_support h3 h1 hm, h3, rfl, fun j hj hne => by rcases (show j = 0 ∨ j = 2 ∨ j = 3 by omega) with rfl | rfl | rfl <;> rfl⟩
  · exact ⟨_, set_workers h1 hm, h3, rfl, fun j hj hne => by rcases (show j = 0 ∨ j = 1 ∨ j = 3 by omega) with rfl | rfl | rfl <;> rfl⟩
  · exact ⟨_, set_cap h1 hm, h3, rfl, fun j hj hne => by rcases (show j = 0 ∨ j = 1 ∨ j = 2 by omega) with rfl | rfl | rfl <;> rfl⟩
theorem set_k_no {c : CF} {k : Nat} {n : Int} (hk : k < 4) (h9 : n ≤ 9223372036854775807) (h : ¬ (1 ≤ n ∧ n ≤ mostK k)) : setC c (wordK k) (sgnL n) = none := by
  have hm : mostK k ≤ 1000000 := by unfold mostK; split <;> (try split) <;> omega
  have hn := numC_sgn (n := n) hm h9
  rw [if_neg h] at hn
  rcases (show k = 0 ∨ k = 1 ∨ k = 2 ∨ k = 3 by omega) with rfl | rfl | rfl | rfl
  · have hn : numC 8 (sgnL n) = none := hn
    show setC c wSize (sgnL n) = none
    unfold setC
    rw [if_neg (by decide), if_neg (by decide), if_neg (by decide), if_pos rfl, hn]
    rfl
  · have hn : numC 1000000 (sgnL n) = none := hn
    show setC c wSupport (sgnL n) = none
    unfold setC
    rw [if_neg (by decide), if_neg (by decide), if_pos rfl, hn]
    split <;> rfl
  · have hn : numC 64 (sgnL n) = none := hn
    show setC c wWorkers (sgnL n) = none
    unfold setC
    rw [if_neg (by decide), if_neg (by decide), if_neg (by decide), if_neg (by decide), if_pos rfl, hn]
    rfl
  · have hn : numC 1000000 (sgnL n) = none := hn
    show setC c wCap (sgnL n) = none
    unfold setC
    rw [if_neg (by decide), if_neg (by decide), if_neg (by decide), if_neg (by decide), if_neg (by decide), if_pos rfl, hn]
    rfl
theorem wordK_no {k : Nat} (hk : k < 4) : (32 : UInt8) ∉ wordK k ∧ (10 : UInt8) ∉ wordK k ∧ wordK k ∉ [wJob] ∧ wordK k ≠ wJob ∧ (k ≠ 0 → wSize ≠ wordK k) ∧ (k ≠ 1 → wSupport ≠ wordK k) := by
  rcases (show k = 0 ∨ k = 1 ∨ k = 2 ∨ k = 3 by omega) with rfl | rfl | rfl | rfl <;> decide
/-- Which numbers each word takes, and where one that it doesn't is told. -/
theorem parse_numbers {k : Nat} {n : Int} (hk : k < 4) (h9 : n ≤ 9223372036854775807) :
    (1 ≤ n ∧ n ≤ mostK k → ∃ c, parseC (tellL (linesK k n)) = .ok c ∧ fieldK k c = n) ∧ (¬ (1 ≤ n ∧ n ≤ mostK k) → ∃ w, parseC (tellL (linesK k n)) = .bad 1 w) := by
  obtain ⟨w1, w2, w3, w4, w5, w6⟩ := wordK_no hk
  have hno : ∀ l ∈ linesK k n, (10 : UInt8) ∉ l := by
    intro l hl
    unfold linesK at hl
    rw [List.mem_append, List.mem_append] at hl
    rcases hl with (hl | hl) | hl
    · rcases List.mem_cons.1 hl with rfl | hl
      · decide
      · rw [List.mem_singleton.1 hl]
        exact line_no w2 sgn_no
    · split at hl
      · cases hl
      · rw [List.mem_singleton.1 hl]; decide
    · split at hl
      · cases hl
      · rw [List.mem_singleton.1 hl]; decide
  unfold parseC
  rw [tell_nil _ hno]
  clear hno
  unfold linesK
  simp only [List.cons_append, List.nil_append]
  rw [goC_line (by simp) (by decide) (by decide) (by decide) (set_job (k := 3) (by omega) (by omega))]
  have hn1 : ¬ ((0 + 1 : Nat) ≠ 0 ↔ wordK k = wJob) := fun e => w4 (e.1 (by omega))
  constructor
  · rintro ⟨h1, hm⟩
    obtain ⟨c', hset, hk3, hf, hot⟩ := set_k (c := { CF.start with kind := 3 }) hk rfl h9 h1 hm
    rw [goC_line (by simp) w1 w3 hn1 hset]
    by_cases k0 : k = 0
    · subst k0
      rw [if_pos rfl, if_neg (by decide), List.nil_append, List.cons_append, List.nil_append, one_itoa, goC_line (by simp) (by decide) (by decide) (by decide) (set_support hk3 (by omega) (by omega)), goC, if_pos rfl]
      unfold endC
      rw [if_neg (fun e => e.elim (fun e => e (by decide)) fun e => e.2 (by decide))]
      exact ⟨_, rfl, hf⟩
    · rw [if_neg k0, List.cons_append, List.nil_append, one_itoa, List.cons_append, goC_line (by simp) (by decide) (fun e => by
        rcases List.mem_cons.1 e with e | e
        · exact w5 k0 e
        · revert e; decide) (by decide) (set_size (by omega) (by omega))]
      by_cases k1 : k = 1
      · subst k1
        rw [if_pos rfl, List.nil_append, goC, if_pos rfl]
        unfold endC
        rw [if_neg (fun e => e.elim (fun e => e (by decide)) fun e => e.2 (by decide))]
        exact ⟨_, rfl, hf⟩
      · rw [if_neg k1, List.cons_append, List.nil_append, goC_line (by simp) (by decide) (fun e => by
          rcases List.mem_cons.1 e with e | e
          · revert e; decide
          · rcases List.mem_cons.1 e with e | e
            · exact w6 k1 e
            · revert e; decide) (by decide) (set_support (c := { c' with size := 1 }) hk3 (by omega) (by omega)), goC, if_pos rfl]
        unfold endC
        rw [if_neg (fun e => e.elim (fun e => e (List.mem_cons_of_mem _ (List.mem_cons_self ..))) fun e => e.2 (List.mem_cons_self ..))]
        refine ⟨_, rfl, ?_⟩
        rcases (show k = 2 ∨ k = 3 by omega) with rfl | rfl <;> exact hf
  · intro hb
    rw [goC_fail (by split <;> split <;> simp) (show lineC _ _ _ (lineW (wordK k) (sgnL n)) = none by
      unfold lineC lineW
      rw [cut1_app _ w1]
      simp only
      rw [if_neg (fun e => e.elim (fun e => by cases e) fun e => e.elim w3 hn1)]
      exact set_k_no hk h9 hb)]
    exact ⟨_, rfl⟩
end Go.Proofs.YtapledphhfiimaaGreatDoor.Cf
/-
  conf: walks of names, Name, within, wrong, number, Edges.
-/
namespace Go.Proofs.YtapledphhfiimaaGreatDoor
open Go.RowKit Go.Proofs.YtapledphhfiimaaGreatDoor.Pg
attribute [local go_sem ↓] Go.wp_at_zero Go.wp_at_succ
set_option maxRecDepth 100000
set_option linter.unusedVariables false

def jobsB : List ByteArray := Cf.jobsL.map fun l => ⟨l.toArray⟩
theorem CfNames_any (w : World) : Calls Tryz.prog 106 #[] w fun e w' => e = .returned (.slice (some ⟨w.heap.size, 0, none⟩) 3 3) ∧ w.alloc (.cells (jobsB.map Value.string).toArray 9) = w' := by
  go_enter Tryz.func106, Tryz.ntmps106
  go_wp2
  go_ret
  exact ⟨rfl, rfl⟩
theorem Within_any (n m : Int) (w : World) : Calls Tryz.prog 107 #[.int .i64 n, .int .i64 m] w fun e w' => e = .returned (.bool (decide (1 ≤ n) && decide (n ≤ m))) ∧ w = w' := by
  by_cases h1 : 1 ≤ n
  · go_enter Tryz.func107, Tryz.ntmps107
    go_wp2_with fail
    go_ret
    exact ⟨ret_bool (by rw [decide_eq_true h1]; rfl), rfl⟩
  · go_enter Tryz.func107, Tryz.ntmps107
    go_wp2_with fail
    go_ret
    exact ⟨ret_bool (by rw [decide_eq_false (show ¬ 1 ≤ n by omega)]; rfl), rfl⟩
theorem Wrong_any (n : Int) (s : ByteArray) (w : World) : Calls Tryz.prog 75 #[.int .i64 n, .string s] w fun e w' => ∃ g, e = .returned (.iface 111 (.pointer (some ⟨g, 0, none⟩))) ∧ Blk w' g 114 #[.int .i64 12, .int .i64 n, .string s] ∧ Below w.heap.size w w' := by
  go_enter Tryz.func75, Tryz.ntmps75
  go_wp2_with (go_at_call 33; refine (New_err _ _ _ _).mono ?_; rintro e w2 ⟨v, rfl, ⟨g, rfl, hv⟩, hb2⟩)
  go_ret
  exact ⟨g, rfl, hv, hb2⟩
set_option maxHeartbeats 4000000 in
theorem CfNumber_any (l : List UInt8) (most : Int) (w : World) (hs : l.length ≤ 1000000) (hL : LibW w) (hT : TabW w) :
    Calls Tryz.prog 108 #[.string (bz l), .int .i64 most] w (NumRes (Cf.numC most l) w) := by
  have HA := Lib.hid (Atoi_any l w hs hL)
  have HT := Lib.hid hT
  obtain ⟨m, hm⟩ : ∃ m, m = l.length := ⟨_, rfl⟩
  have hsz : (bz l).size = m := by rw [bz_size, hm]
  have HNum := Lib.hid (show ∀ v, Lib.atoiAll l = .ok v → Cf.numC most l = if m ≤ 7 ∧ Lib.itoa v = l ∧ 1 ≤ v ∧ v ≤ most then some v else none from fun v h => by
    unfold Cf.numC numP
    rw [h, ← hm]
    simp only
    by_cases h1 : m ≤ 7 ∧ Lib.itoa v = l ∧ 0 ≤ v
    · rw [if_pos h1]
      simp only
      by_cases h2 : 1 ≤ v ∧ v ≤ most
      · rw [if_pos h2, if_pos ⟨h1.1, h1.2.1, h2⟩]
      · rw [if_neg h2, if_neg (fun h => h2 h.2.2)]
    · rw [if_neg h1, if_neg (fun h => h1 ⟨h.1, h.2.1, by omega⟩)])
  have HNone := Lib.hid (show (∀ v, Lib.atoiAll l ≠ .ok v) → Cf.numC most l = none from fun h => by
    have : numP 7 l = none := by
      unfold numP
      split
      · rename_i v hv
        exact absurd hv (h v)
      · rfl
    unfold Cf.numC
    rw [this])
  have HBd := Lib.hid (fun v (h : Lib.atoiAll l = .ok v) => Lib.atoiAll_bounds h)
  have HBq := Lib.hid (fun v => bz_beq (Lib.itoa v) l)
  obtain ⟨S, hS⟩ : ∃ S, S = bz l := ⟨_, rfl⟩
  rw [← hS] at HA hsz HBq ⊢
  clear hL hT hm hS hs
  go_enter Tryz.func108, Tryz.ntmps108
  go_upto_region 2 with (go_at_call 126; refine HA.out.mono ?_; clear HA; rintro e w1 ⟨hb1, hp⟩; obtain ⟨z, x, hev⟩ : ∃ z x, e = .returned (.tuple #[.int .i64 z, x]) := (by rcases hp with ⟨_, _, h⟩ | ⟨_, _, _, _, h⟩ <;> exact ⟨_, _, h⟩); subst hev; have HB1 := Lib.hid hb1; have HP := Lib.hid hp; clear hb1 hp)
  rcases HP.out with ⟨v, hv, he⟩ | ⟨hno, z', T, y, he⟩
  · obtain ⟨rfl, rfl⟩ : z = v ∧ x = .nilIface := by simpa using he
    have hn := HNum.out z hv
    have hbd := HBd.out z hv
    have HI := Lib.hid (Itoa_any z w1 (by unfold i64P; omega) (HT.out.keep HB1.out))
    have hbq := HBq.out z
    rw [← itoaB_bz] at hbq
    clear he HP HNum HNone HBd HBq hv hbd
    by_cases h6 : m ≤ 7
    · have h6' : (m : Int) ≤ 7 := by omega
      by_cases hi : Lib.itoa z = l
      · rw [decide_eq_true hi] at hbq
        obtain ⟨t, ht⟩ : ∃ t, t = itoaB z := ⟨_, rfl⟩
        rw [← ht] at HI hbq
        by_cases h0 : 1 ≤ z
        · by_cases h9 : z ≤ most
          · have HR := Lib.hid (show Cf.numC most l = some z from by rw [hn, if_pos ⟨h6, hi, h0, h9⟩])
            clear hn hi ht
            go_wp2_with (go_at_call 69; refine HI.out.mono ?_; rintro e w2 ⟨rfl, hb2⟩; have HB2 := Lib.hid (HB1.out.andThen hb2); clear hb2)
            go_ret2
            exact ⟨z, true, rfl, HB2.out, .inl ⟨HR.out, rfl⟩⟩
          · have HR := Lib.hid (show Cf.numC most l = none from by rw [hn, if_neg (fun h => h9 h.2.2.2)])
            have h9' : decide (z ≤ most) = false := decide_eq_false h9
            clear hn hi ht
            go_wp2_with (go_at_call 69; refine HI.out.mono ?_; rintro e w2 ⟨rfl, hb2⟩; have HB2 := Lib.hid (HB1.out.andThen hb2); clear hb2)
            go_ret2
            exact ⟨z, false, rfl, HB2.out, .inr ⟨HR.out, rfl⟩⟩
        · have HR := Lib.hid (show Cf.numC most l = none from by rw [hn, if_neg (fun h => h0 h.2.2.1)])
          have h0' : decide (1 ≤ z) = false := decide_eq_false h0
          clear hn hi ht
          go_wp2_with (go_at_call 69; refine HI.out.mono ?_; rintro e w2 ⟨rfl, hb2⟩; have HB2 := Lib.hid (HB1.out.andThen hb2); clear hb2)
          go_ret2
          exact ⟨z, false, rfl, HB2.out, .inr ⟨HR.out, rfl⟩⟩
      · rw [decide_eq_false hi] at hbq
        obtain ⟨t, ht⟩ : ∃ t, t = itoaB z := ⟨_, rfl⟩
        rw [← ht] at HI hbq
        have HR := Lib.hid (show Cf.numC most l = none from by rw [hn, if_neg (fun h => hi h.2.1)])
        clear hn hi ht
        go_wp2_with (go_at_call 69; refine HI.out.mono ?_; rintro e w2 ⟨rfl, hb2⟩; have HB2 := Lib.hid (HB1.out.andThen hb2); clear hb2)
        go_ret2
        exact ⟨z, false, rfl, HB2.out, .inr ⟨HR.out, rfl⟩⟩
    · have h6' : ¬ (m : Int) ≤ 7 := by omega
      have HR := Lib.hid (show Cf.numC most l = none from by rw [hn, if_neg (fun h => h6 h.1)])
      clear hn hbq HI
      go_wp2_with fail
      go_ret2
      exact ⟨z, false, rfl, HB1.out, .inr ⟨HR.out, rfl⟩⟩
  · obtain ⟨rfl, rfl⟩ : z = z' ∧ x = .iface T y := by simpa using he
    have HR := Lib.hid (HNone.out hno)
    clear he HP HNum HNone HBd HBq hno
    go_wp2_with fail
    go_ret2
    exact ⟨z, false, rfl, HB1.out, .inr ⟨HR.out, rfl⟩⟩
end Go.Proofs.YtapledphhfiimaaGreatDoor
/-
  Chains of errors: errors.As at *api.Fault, errors.Is at a fault, errors.Unwrap, and the fault package's functions over whole chains.
-/
namespace Go.Proofs.YtapledphhfiimaaGreatDoor
open Go.RowKit Go.Extern.Stop Go.Stop Go.Extern

def Err.depth : Err → Nat
  | .step _ e => e.depth + 1
  | _ => 0
def Err.flt? : Err → Option (Int × Int × ByteArray)
  | .flt c a s => some (c, a, s)
  | .step _ e => e.flt?
  | _ => none
theorem Err.code_of : ∀ (E : Err), E ≠ .nil → (∀ w v, E.At w v → E.code = match E.flt? with | some (c, _, _) => c | none => -1)
  | .nil, h, _, _, _ => absurd rfl h
  | .flt _ _ _, _, _, _, _ => rfl
  | .txt _, _, _, _, _ => rfl
  | .step _ e, _, w, _, ⟨_, v', _, _, h3, h4⟩ => Err.code_of e h4 w v' h3
theorem Err.at_of : ∀ (E : Err), E.at_ = match E.flt? with | some (_, a, _) => a | none => 0
  | .nil => rfl
  | .flt _ _ _ => rfl
  | .txt _ => rfl
  | .step _ e => Err.at_of e

theorem fs_typeOf (v : Value) (w : World) : (ReflectliteType.typeOf #[.iface 129 v]).run Tryz.prog w = .ok (.iface 211 (.agg #[.pointer (some ⟨9, 129, none⟩)])) w := by kernel_rfl
theorem fs_assignable (w : World) : (ReflectliteType.relation "AssignableTo" ReflectliteType.assignableTo #[.agg #[.pointer (some ⟨9, 129, none⟩)], .iface 211 (.agg #[.pointer (some ⟨9, 111, none⟩)])]).run Tryz.prog w = .ok (.bool false) w := by kernel_rfl
theorem fs_noAs (v : Value) (xT : TypeId) (w : World) : (Instr.typeAssert (.iface 129 v) xT 216 true).run Tryz.prog w = .ok (.tuple #[.nilIface, .bool false]) w := run_typeAssert_lacksB Tryz.underlying216 (by kernel_rfl) (by kernel_rfl) v xT w
theorem fs_hasUnwrap (v : Value) (xT : TypeId) (w : World) : (Instr.typeAssert (.iface 129 v) xT 219 true).run Tryz.prog w = .ok (.tuple #[.iface 129 v, .bool true]) w := run_typeAssert_hasB Tryz.underlying219 (by kernel_rfl) v xT w
theorem fs_methodUnwrap (v : Value) (w : World) : (Go.method 392 129 v "Unwrap").run Tryz.prog w = .ok (221, v) w := by kernel_rfl
theorem ft_typeOf (v : Value) (w : World) : (ReflectliteType.typeOf #[.iface 260 v]).run Tryz.prog w = .ok (.iface 211 (.agg #[.pointer (some ⟨9, 260, none⟩)])) w := by kernel_rfl
theorem ft_assignable (w : World) : (ReflectliteType.relation "AssignableTo" ReflectliteType.assignableTo #[.agg #[.pointer (some ⟨9, 260, none⟩)], .iface 211 (.agg #[.pointer (some ⟨9, 111, none⟩)])]).run Tryz.prog w = .ok (.bool false) w := by kernel_rfl
theorem ft_noAs (v : Value) (xT : TypeId) (w : World) : (Instr.typeAssert (.iface 260 v) xT 216 true).run Tryz.prog w = .ok (.tuple #[.nilIface, .bool false]) w := run_typeAssert_lacksB Tryz.underlying216 (by kernel_rfl) (by kernel_rfl) v xT w
theorem ft_noUnwrap (v : Value) (xT : TypeId) (w : World) : (Instr.typeAssert (.iface 260 v) xT 219 true).run Tryz.prog w = .ok (.tuple #[.nilIface, .bool false]) w := run_typeAssert_lacksB Tryz.underlying219 (by kernel_rfl) (by kernel_rfl) v xT w
theorem ft_noUnwraps (v : Value) (xT : TypeId) (w : World) : (Instr.typeAssert (.iface 260 v) xT 221 true).run Tryz.prog w = .ok (.tuple #[.nilIface, .bool false]) w := run_typeAssert_lacksB Tryz.underlying221 (by kernel_rfl) (by kernel_rfl) v xT w

theorem stepUnwrap (g : Nat) (v' : Value) (w : World) (hc : w.cell? ⟨g, 1, none⟩ = some v') :
    Calls Tryz.prog 221 #[.pointer (some ⟨g, 0, none⟩)] w fun e w' => e = .returned v' ∧ w = w' := by
  go_enter Tryz.func221, Tryz.ntmps221
  go_wp2
  go_ret
  exact ⟨rfl, rfl⟩

/-- What errors.as leaves: the target is set to the chain's first fault; or the chain has none. -/
def AsPost (E : Err) (w0 w1 : World) (t : Addr) (ev : Ending) (w' : World) : Prop :=
  (∃ c a s g, E.flt? = some (c, a, s) ∧ ev = .returned (.bool true) ∧ Blk w0 g 114 #[.int .i64 c, .int .i64 a, .string s] ∧ (w1.alloc (.cells #[.pointer (some ⟨g, 0, none⟩)] 111)).setCell t (.pointer (some ⟨g, 0, none⟩)) = w') ∨
  (E.flt? = none ∧ ev = .returned (.bool false) ∧ w1 = w')

theorem Err.At.iface_ {w : World} {E : Err} {v : Value} (h : E.At w v) (hne : E ≠ .nil) : ∃ T x, v = .iface T x := by
  cases E with
  | nil => exact absurd rfl hne
  | flt c a s => obtain ⟨g, rfl, _⟩ := h; exact ⟨_, _, rfl⟩
  | step w e => obtain ⟨g, _, rfl, _⟩ := h; exact ⟨_, _, rfl⟩
  | txt s => obtain ⟨g, rfl, _⟩ := h; exact ⟨_, _, rfl⟩

set_option maxHeartbeats 2000000 in
theorem as_any (E : Err) (v : Value) (w0 w : World) (hE : E.At w0 v) (hw : Below w0.heap.size w0 w) (hne : E ≠ .nil) (t b : Addr) (old : Value) (hb0 : w.cell? b = some (.pointer (some t))) (ht0 : w.cell? t = some old) (hf0 : w.frozen? t = false) :
    Calls Tryz.prog 133 #[v, .iface 150 (.pointer (some t)), .agg #[.pointer (some ⟨9, 150, none⟩), .pointer (some b), .int .u64 150], .iface 211 (.agg #[.pointer (some ⟨9, 111, none⟩)])] w
      (AsPost E w0 (w.alloc (.cells #[.pointer (some ⟨9, 150, none⟩), .pointer (some b), .int .u64 150] 182)) t) := by
  have h83 := @run_callFunc_extern Tryz.prog 130 _ (fun args => ReflectliteValue.unpack (args.getD 0 (.tuple #[]))) Tryz.func130 (by kernel_rfl) (by kernel_rfl) (by kernel_rfl) (by kernel_rfl)
  have h87 := @run_callFunc_extern Tryz.prog 158 _ ReflectliteType.typeOf Tryz.func158 (by kernel_rfl) (by kernel_rfl) (by kernel_rfl) (by kernel_rfl)
  have h125 := @run_callFunc_extern Tryz.prog 227 _ (ReflectliteType.relation "AssignableTo" ReflectliteType.assignableTo) Tryz.func227 (by kernel_rfl) (by kernel_rfl) (by kernel_rfl) (by kernel_rfl)
  have h95 := @run_callFunc_extern Tryz.prog 159 _ (ReflectliteValue.method (ReflectliteValue.valueError "reflectlite.Value.Elem" 0) ReflectliteValue.elem) Tryz.func159 (by kernel_rfl) (by kernel_rfl) (by kernel_rfl) (by kernel_rfl)
  have h96 := @run_callFunc_extern Tryz.prog 160 _ ReflectliteValue.set Tryz.func160 (by kernel_rfl) (by kernel_rfl) (by kernel_rfl) (by kernel_rfl)
  have tO := fx_typeOf
  have mA := fx_methodAssignableTo
  have aP := fx_assignable
  have vP := fx_valueOfP
  have tS := fs_typeOf
  have aS := fs_assignable
  have nS := fs_noAs
  have uS := fs_hasUnwrap
  have mS := fs_methodUnwrap
  have tT := ft_typeOf
  have aT := ft_assignable
  have nT := ft_noAs
  have uT := ft_noUnwrap
  have vT := ft_noUnwraps
  have htl := World.block_lt_of_cell? w t ht0
  have hbl := World.block_lt_of_cell? w b hb0
  have el := fx_elemV b t (w.alloc (.cells #[.pointer (some ⟨9, 150, none⟩), .pointer (some b), .int .u64 150] 182)) (by rw [World.cell?_alloc_lt _ _ b hbl]; exact hb0)
  have st := fun e => fx_set t ⟨w.heap.size + 1, 0, none⟩ e old ((w.alloc (.cells #[.pointer (some ⟨9, 150, none⟩), .pointer (some b), .int .u64 150] 182)).alloc (.cells #[.pointer (some e)] 111))
    (by rw [World.cell?_alloc_at _ _ _ _ (by simp)]; rfl)
    (by rw [World.cell?_alloc_lt _ _ t (by simp; omega), World.cell?_alloc_lt _ _ t htl]; exact ht0)
    (by rw [World.frozen?_alloc_old _ _ t (by simp; omega), World.frozen?_alloc_old _ _ t (Nat.ne_of_lt htl)]; exact hf0)
  have HB := Lib.hid (bel_al hw (.cells #[.pointer (some ⟨9, 150, none⟩), .pointer (some b), .int .u64 150] 182))
  clear hb0 ht0 hf0 hw
  go_enter Tryz.func133, Tryz.ntmps133
  go_wp2
  go_loopg [0] E.depth (fun k e wr => ∃ E' : Err, E'.At w0 e ∧ E'.depth = k ∧ Hid (E'.flt? = E.flt?) ∧ E' ≠ .nil ∧ wr = w.alloc (.cells #[.pointer (some ⟨9, 150, none⟩), .pointer (some b), .int .u64 150] 182))
  case atStart => exact ⟨E, hE, rfl, rfl, hne, rfl⟩
  case round =>
    obtain ⟨E', hE', hk, HE, hne', rfl⟩ := hrel
    clear hE hne
    cases E' with
    | nil => exact absurd rfl hne'
    | flt c a s =>
      obtain ⟨g, rfl, hblk⟩ := hE'
      have st' := st ⟨g, 0, none⟩
      have HK := Lib.hid hblk
      clear hblk st
      go_wp2
      go_ret
      exact .inl ⟨c, a, s, g, HE.out.symm, rfl, HK.out, rfl⟩
    | txt s =>
      obtain ⟨g, rfl, hblk⟩ := hE'
      clear hblk st
      go_wp2
      go_ret
      exact .inr ⟨HE.out.symm, rfl, rfl⟩
    | step word e =>
      obtain ⟨g, v', rfl, hblk, hv', hnn⟩ := hE'
      have hc1 := (hblk.keep HB.out).cell 1
      simp at hc1
      have HV := Lib.hid hv'
      have HU := Lib.hid (stepUnwrap g v' _ hc1)
      obtain ⟨T, x, rfl⟩ := Err.At.iface_ hv' hnn
      have HK := Lib.hid hk
      have HN := Lib.hid hnn
      clear hblk st hv' hk hc1 hnn hne'
      go_wp2_with (go_at_call 221; refine HU.out.mono ?_; rintro ev w' ⟨rfl, rfl⟩)
      go_roundg e.depth
      case measure => have := HK.out; simp only [Err.depth] at this; omega
      case rel => exact ⟨e, HV.out, rfl, HE.out, HN.out, rfl⟩
end Go.Proofs.YtapledphhfiimaaGreatDoor
/-
  The fault package over whole chains: errors.As, fault.fault, fault.Code, fault.At.
-/
namespace Go.Proofs.YtapledphhfiimaaGreatDoor
open Go.RowKit Go.Extern.Stop Go.Stop Go.Extern

set_option maxHeartbeats 2000000 in
theorem As_any (E : Err) (v : Value) (w0 w : World) (hE : E.At w0 v) (hw : Below w0.heap.size w0 w) (hne : E ≠ .nil) (t : Addr) (old : Value) (hg : w.cell? ⟨0, 0, none⟩ = some (.iface 211 (.agg #[.pointer (some ⟨9, 36, none⟩)]))) (ht0 : w.cell? t = some old) (hf0 : w.frozen? t = false) :
    Calls Tryz.prog 95 #[v, .iface 150 (.pointer (some t))] w fun ev w' => ∃ W W1, AsPost E w0 W1 t ev w' ∧ W = ((w.alloc (.cells #[.pointer (some t)] 150)).alloc (.cells #[.pointer (some ⟨9, 150, none⟩), .pointer (some ⟨w.heap.size, 0, none⟩), .int .u64 150] 182)) ∧ W1 = W.alloc (.cells #[.pointer (some ⟨9, 150, none⟩), .pointer (some ⟨w.heap.size, 0, none⟩), .int .u64 150] 182) := by
  have h83 := @run_callFunc_extern Tryz.prog 130 _ (fun args => ReflectliteValue.unpack (args.getD 0 (.tuple #[]))) Tryz.func130 (by kernel_rfl) (by kernel_rfl) (by kernel_rfl) (by kernel_rfl)
  have h84 := @run_callFunc_extern Tryz.prog 131 _ (ReflectliteValue.methodAny (ReflectliteValue.valueError "reflectlite.Value.Type" 0) (fun t _ _ _ => ReflectliteType.toType t)) Tryz.func131 (by kernel_rfl) (by kernel_rfl) (by kernel_rfl) (by kernel_rfl)
  have h85 := @run_callFunc_extern Tryz.prog 132 _ (ReflectliteValue.method (ReflectliteValue.valueError "reflectlite.Value.IsNil" 0) ReflectliteValue.isNil) Tryz.func132 (by kernel_rfl) (by kernel_rfl) (by kernel_rfl) (by kernel_rfl)
  have h112 := @run_callFunc_extern Tryz.prog 216 _ (ReflectliteType.abiMethod fun t => do pure (.int .u8 (← Rtype.kind t))) Tryz.func216 (by kernel_rfl) (by kernel_rfl) (by kernel_rfl) (by kernel_rfl)
  have h127 := @run_callFunc_extern Tryz.prog 229 _ (ReflectliteType.method ReflectliteType.elem) Tryz.func229 (by kernel_rfl) (by kernel_rfl) (by kernel_rfl) (by kernel_rfl)
  have h128 := @run_callFunc_extern Tryz.prog 230 _ (ReflectliteType.relation "Implements" ReflectliteType.implements_) Tryz.func230 (by kernel_rfl) (by kernel_rfl) (by kernel_rfl) (by kernel_rfl)
  have f83 := fx_valueOf
  have f84 := fx_type
  have mK := fx_methodKind
  have mE := fx_methodElem
  have mI := fx_methodImplements
  have kPP := fx_kindPP
  have kP := fx_kindP
  have eP := fx_elem
  have iP := fx_implements
  have hlt : 0 < w.heap.size := World.block_lt_of_cell? w _ hg
  have htl := World.block_lt_of_cell? w t ht0
  have n8 := fx_isNil ⟨w.heap.size, 0, none⟩ t ((w.alloc (.cells #[.pointer (some t)] 150)).alloc (.cells #[.pointer (some ⟨9, 150, none⟩), .pointer (some ⟨w.heap.size, 0, none⟩), .int .u64 150] 182)) (by simp)
  have hg2 : ((w.alloc (.cells #[.pointer (some t)] 150)).alloc (.cells #[.pointer (some ⟨9, 150, none⟩), .pointer (some ⟨w.heap.size, 0, none⟩), .int .u64 150] 182)).cell? ⟨0, 0, none⟩ = some (.iface 211 (.agg #[.pointer (some ⟨9, 36, none⟩)])) := by
    rw [World.cell?_alloc_lt _ _ ⟨0, 0, none⟩ (by simp <;> omega), World.cell?_alloc_lt _ _ ⟨0, 0, none⟩ hlt]; exact hg
  have hin := as_any E v w0 ((w.alloc (.cells #[.pointer (some t)] 150)).alloc (.cells #[.pointer (some ⟨9, 150, none⟩), .pointer (some ⟨w.heap.size, 0, none⟩), .int .u64 150] 182)) hE (bel_al (bel_al hw _) _) hne t ⟨w.heap.size, 0, none⟩ old
    (by rw [World.cell?_alloc_lt _ _ ⟨w.heap.size, 0, none⟩ (by simp)]; simp)
    (by rw [World.cell?_alloc_lt _ _ t (by simp; omega), World.cell?_alloc_lt _ _ t htl]; exact ht0)
    (by rw [World.frozen?_alloc_old _ _ t (by simp; omega), World.frozen?_alloc_old _ _ t (Nat.ne_of_lt htl)]; exact hf0)
  have HIN := Lib.hid hin
  obtain ⟨T, x, rfl⟩ := Err.At.iface_ hE hne
  clear hin hE hne ht0 hf0 hw
  go_enter Tryz.func95, Tryz.ntmps95
  go_wp2_with (go_at_call 133; refine HIN.out.mono ?_)
  intro ev w' hp
  have HP := Lib.hid hp
  rcases hp with ⟨c, a, s, g, h1, rfl, h2, rfl⟩ | ⟨h1, rfl, rfl⟩
  · clear h1 h2
    go_wp2
    go_ret
    exact ⟨_, _, HP.out, rfl, rfl⟩
  · clear h1
    go_wp2
    go_ret
    exact ⟨_, _, HP.out, rfl, rfl⟩

/-- What errors.As leaves, its target the one cell t. -/
def AsDone (E : Err) (w0 w : World) (t : Addr) (old : Value) (ev : Ending) (w' : World) : Prop :=
  Below t.block w w' ∧
  ((∃ c a s g, E.flt? = some (c, a, s) ∧ ev = .returned (.bool true) ∧ Blk w0 g 114 #[.int .i64 c, .int .i64 a, .string s] ∧ w'.cell? t = some (.pointer (some ⟨g, 0, none⟩))) ∨
   (E.flt? = none ∧ ev = .returned (.bool false) ∧ w'.cell? t = some old))

theorem As_done (E : Err) (v : Value) (w0 w : World) (hE : E.At w0 v) (hw : Below w0.heap.size w0 w) (t : Addr) (old : Value) (hg : ErrT w) (ht0 : w.cell? t = some old) (hf0 : w.frozen? t = false) :
    Calls Tryz.prog 95 #[v, .iface 150 (.pointer (some t))] w (AsDone E w0 w t old) := by
  have htl := World.block_lt_of_cell? w t ht0
  by_cases hne : E = .nil
  · subst hne
    obtain rfl : v = .nilIface := hE
    refine (as_nil _ _).mono ?_
    rintro ev w' ⟨rfl, rfl⟩
    exact ⟨Below.refl _ _, .inr ⟨rfl, rfl, ht0⟩⟩
  · refine (As_any E v w0 w hE hw hne t old hg ht0 hf0).mono ?_
    rintro ev w' ⟨W, W1, hp, hW, hW1⟩
    have hb : Below w.heap.size w W1 := by rw [hW1, hW]; exact bel_al (bel_al (bel_al (Below.refl _ _) _) _) _
    have hc : W1.cell? t = some old := (hb.cell htl).trans ht0
    rcases hp with ⟨c, a, s, g, h1, rfl, h2, rfl⟩ | ⟨h1, rfl, rfl⟩
    · refine ⟨((bel_al hb _).mono (Nat.le_of_lt htl)).setCell (Nat.le_refl _) _, .inl ⟨c, a, s, g, h1, rfl, h2, ?_⟩⟩
      exact World.cell?_setCell_same _ _ _ (((bel_al hb _).cell htl).trans ht0)
    · exact ⟨hb.mono (Nat.le_of_lt htl), .inr ⟨h1, rfl, hc⟩⟩

/-- fault.fault: a pointer to the chain's first fault, or none. -/
def FaultPost (E : Err) (w : World) (ev : Ending) (w' : World) : Prop :=
  Below w.heap.size w w' ∧
  ((∃ c a s g, E.flt? = some (c, a, s) ∧ ev = .returned (.pointer (some ⟨g, 0, none⟩)) ∧ Blk w' g 114 #[.int .i64 c, .int .i64 a, .string s]) ∨ (E.flt? = none ∧ ev = .returned (.pointer none)))

theorem fault_any (E : Err) (v : Value) (w : World) (hE : E.At w v) (hg : ErrT w) : Calls Tryz.prog 71 #[v] w (FaultPost E w) := by
  have hb0 := bel_al (Below.refl w.heap.size w) (.cells #[.pointer none] 111)
  have HA := Lib.hid (As_done E v w _ hE hb0 ⟨w.heap.size, 0, none⟩ (.pointer none) (hg.keep hb0) (by simp) (by simp))
  have HE := Lib.hid hE
  clear hE hb0
  go_enter Tryz.func71, Tryz.ntmps71
  go_wp2_with (go_at_call 95; refine HA.out.mono ?_)
  rintro ev w' ⟨hb, hp⟩
  have hb' : Below w.heap.size w w' := (bel_al (Below.refl _ _) _).trans hb
  rcases hp with ⟨c, a, s, g, h1, rfl, h2, h3⟩ | ⟨h1, rfl, h3⟩
  · have H1 := Lib.hid h1
    have H2 := Lib.hid h2
    clear h1 h2
    go_wp2
    go_ret
    exact ⟨hb', .inl ⟨c, a, s, g, H1.out, rfl, H2.out.keep hb'⟩⟩
  · have H1 := Lib.hid h1
    clear h1
    go_wp2
    go_ret
    exact ⟨hb', .inr ⟨H1.out, rfl⟩⟩

theorem Code_any (E : Err) (v : Value) (w : World) (hE : E.At w v) (hg : ErrT w) :
    Calls Tryz.prog 31 #[v] w fun e w' => e = .returned (.int .i64 E.code) ∧ Below w.heap.size w w' := by
  by_cases hne : E = .nil
  · subst hne
    obtain rfl : v = .nilIface := hE
    refine (Code_nil w).mono ?_
    rintro e w' ⟨rfl, rfl⟩
    exact ⟨rfl, Below.refl _ _⟩
  · have hcode := Err.code_of E hne w v hE
    have HC := Lib.hid hcode
    have HA := Lib.hid (fault_any E v w hE hg)
    obtain ⟨T, x, rfl⟩ := Err.At.iface_ hE hne
    clear hE hcode hne
    go_enter Tryz.func31, Tryz.ntmps31
    go_wp2_with (go_at_call 71; refine HA.out.mono ?_)
    rintro ev w' ⟨hb, hp⟩
    rcases hp with ⟨c, a, s, g, h1, rfl, h2⟩ | ⟨h1, rfl⟩
    · have H1 := Lib.hid h1
      have hc0 := h2.cell 0
      simp at hc0
      clear h1 h2
      go_wp2
      go_ret
      exact ⟨by rw [HC.out, H1.out]; rfl, hb⟩
    · have H1 := Lib.hid h1
      clear h1
      go_wp2
      go_ret
      exact ⟨by rw [HC.out, H1.out]; rfl, hb⟩

theorem At_any (E : Err) (v : Value) (w : World) (hE : E.At w v) (hg : ErrT w) :
    Calls Tryz.prog 44 #[v] w fun e w' => e = .returned (.int .i64 E.at_) ∧ Below w.heap.size w w' := by
  have HC := Lib.hid (Err.at_of E)
  have HA := Lib.hid (fault_any E v w hE hg)
  clear hE
  go_enter Tryz.func44, Tryz.ntmps44
  go_wp2_with (go_at_call 71; refine HA.out.mono ?_)
  rintro ev w' ⟨hb, hp⟩
  rcases hp with ⟨c, a, s, g, h1, rfl, h2⟩ | ⟨h1, rfl⟩
  · have H1 := Lib.hid h1
    have hc0 := h2.cell 1
    simp at hc0
    clear h1 h2
    go_wp2
    go_ret
    exact ⟨by rw [HC.out, H1.out]; rfl, hb⟩
  · have H1 := Lib.hid h1
    clear h1
    go_wp2
    go_ret
    exact ⟨by rw [HC.out, H1.out]; rfl, hb⟩
end Go.Proofs.YtapledphhfiimaaGreatDoor
