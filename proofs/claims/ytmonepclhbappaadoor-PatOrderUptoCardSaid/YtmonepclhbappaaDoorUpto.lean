/-
  The second form: what came in is of bulk at most so much, so each string and each slice in it is.
-/
import Derived.Test.YtmonepclhbappaaDoorFrame
namespace Go.Proofs.YtmonepclhbappaaDoor
open Go.ChangeShapes Go.WideShapes Go.ChangeAt Go.RowKit

theorem bulk_pos {H : Type} : ∀ d : DataW H, 1 ≤ Rows.uptoBulk d
  | .lit (.string _) => by simp only [Rows.uptoBulk]; omega
  | .lit (.int _ _) | .lit (.bool _) | .lit (.float _ _) | .lit .nil => by simp only [Rows.uptoBulk]; omega
  | .nil => by simp only [Rows.uptoBulk]; omega
  | .ptr _ => by simp only [Rows.uptoBulk]; omega
  | .slice _ _ => by simp only [Rows.uptoBulk]; omega
  | .agg _ => by simp only [Rows.uptoBulk]; omega
  | .iface _ _ => by simp only [Rows.uptoBulk]; omega
  | .map _ => by simp only [Rows.uptoBulk]; omega
  | .held _ => by simp only [Rows.uptoBulk]; omega
theorem bulkAll_mem {H : Type} {d : DataW H} : ∀ {l : List (DataW H)}, d ∈ l → Rows.uptoBulk d ≤ Rows.uptoBulkAll l
  | x :: r, h => by
    simp only [Rows.uptoBulkAll]
    rcases List.mem_cons.1 h with rfl | h
    · omega
    · have := bulkAll_mem h; omega
theorem bulkAll_len {H : Type} : ∀ l : List (DataW H), l.length ≤ Rows.uptoBulkAll l
  | [] => Nat.zero_le _
  | x :: r => by
    simp only [Rows.uptoBulkAll, List.length_cons]
    have := bulk_pos x
    have := bulkAll_len r
    omega

theorem up_string {H : Type} {s : ByteArray} {B : Nat} (_ : s.size ≤ maxLen) (h : Rows.uptoBulk (H := H) (.lit (.string s.data.toList)) ≤ B) : s.size ≤ B := by
  simp only [Rows.uptoBulk, Array.length_toList] at h
  have : s.data.size = s.size := rfl
  omega

section
variable {H : Type} {enc : TypeId × Value → H} {P : Program} {w : World} {base : Nat} {spare : Nat → Bool} {held : Bool}
/-- As open_sl, with the bulk. -/
theorem open_sl_upto {t e : TypeId} {s fuel n c B : Nat} {A : Option Addr} {x : DataW H × List MemPlace} (hs : P.cellsOf e = s) (hs0 : 0 < s) (ht : P.underlying t = some (.slice e))
    (h : DataW.trod enc P w base spare held fuel t [.slice A n c] = some x) (hB : Rows.uptoBulk x.1 ≤ B) :
    n ≤ B ∧ ∃ css : List (List Value), css.length = n ∧ Sl w s A n css.flatten ∧ ∀ cs ∈ css, cs.length = s ∧ ∃ fuel' y, DataW.trod enc P w base spare held fuel' e cs = some y ∧ Rows.uptoBulk y.1 ≤ B := by
  rcases Deep.open_slice ht h with ⟨h0, _⟩ | ⟨a, len, cap, m, f', D, Pl, hv, _, hl, hm, hmm, hxx, hx⟩
  · injection h0 with h0 _
    injection h0 with h1 h2 h3
    subst h1 h2
    exact ⟨Nat.zero_le _, [], rfl, Sl.nil _ _ _, fun cs hc => by cases hc⟩
  · injection hv with hv _
    injection hv with h1 h2 h3
    subst h1 h2 h3
    have hle : n ≤ m := by rw [hmm]; split <;> omega
    have hB1 : Rows.uptoBulkAll ((List.range n).map D) ≤ B := by
      rw [hxx] at hB
      simp only [Rows.uptoBulk] at hB
      omega
    have hB2 : n ≤ B := by
      have := bulkAll_len ((List.range n).map D)
      simp at this
      omega
    rw [hs] at hx
    obtain ⟨F, hF⟩ := Deep.choose_lt (α := List Value) (p := fun i cs' => w.cells? base (a.add (i * s)) s = some cs' ∧ DataW.trod enc P w base spare held f' e cs' = some (D i, Pl i)) (fun i hi => hx i hi)
    have hlen : ∀ i, i < n → (F i).length = s := fun i hi => (World.cells?_some (hF i (by omega)).1).2.1
    obtain ⟨f1, f2⟩ := flat_at F n hlen
    refine ⟨hB2, (List.range n).map F, by simp, ?_, ?_⟩
    · rw [← List.flatMap_def]
      refine ⟨f1, fun hn => ?_⟩
      have hsp : a.spot = none := by
        obtain ⟨_, h2, h3⟩ := World.cells?_some (hF 0 (by omega)).1
        have h4 := h3 0 hs0
        rw [List.getElem?_eq_getElem (by omega)] at h4
        simpa [Addr.add] using World.cell?_spot h4
      obtain ⟨b, off, spot⟩ := a
      simp only at hsp
      subst hsp
      refine ⟨b, off, rfl, fun j u hu => ?_⟩
      have hj : j < n * s := by
        rcases Nat.lt_or_ge j (n * s) with h | h
        · exact h
        · rw [List.getElem?_eq_none (by rw [f1]; exact h)] at hu; cases hu
      have hi : j / s < n := Nat.div_lt_of_lt_mul (by rw [Nat.mul_comm]; exact hj)
      have hr : j % s < s := Nat.mod_lt _ hs0
      have hd : j / s * s + j % s = j := by rw [Nat.mul_comm]; exact Nat.div_add_mod j s
      have h5 := f2 (j / s) (j % s) hi hr
      rw [hd, hu] at h5
      obtain ⟨_, _, h3⟩ := World.cells?_some (hF (j / s) (by omega)).1
      have h6 := h3 (j % s) hr
      rw [← h5] at h6
      have hadd : ((⟨b, off, none⟩ : Addr).add (j / s * s)).add (j % s) = ⟨b, off + j, none⟩ := by
        have : ∀ k, (⟨b, off, none⟩ : Addr).add k = ⟨b, off + k, none⟩ := by intro k; unfold Addr.add; split <;> simp_all
        rw [this]
        unfold Addr.add
        split
        · simp only [Addr.mk.injEq, true_and, and_true]; omega
        · simp only [Addr.mk.injEq, true_and, and_true]; omega
      rw [hadd] at h6
      exact h6
    · intro cs hcs
      obtain ⟨i, hi, rfl⟩ := List.mem_map.1 hcs
      have hi' := List.mem_range.1 hi
      refine ⟨hlen i hi', f', _, (hF i (by omega)).2, Nat.le_trans (bulkAll_mem (List.mem_map.2 ⟨i, hi, rfl⟩)) hB1⟩

/-- A slice of strings that came in, with the bulk. -/
theorem open_sl_strs_upto {t e : TypeId} {fuel n c B : Nat} {A : Option Addr} {x : DataW H × List MemPlace} (ht : P.underlying t = some (.slice e)) (he : P.underlying e = some .string) (hs : P.cellsOf e = 1)
    (h : DataW.trod enc P w base spare held fuel t [.slice A n c] = some x) (hB : Rows.uptoBulk x.1 ≤ B) :
    n ≤ B ∧ ∃ zs : List ByteArray, zs.length = n ∧ Sl w 1 A n (zs.map Value.string) ∧ ∀ z ∈ zs, z.size ≤ B := by
  obtain ⟨hm, css, hl, hsl, hc⟩ := open_sl_upto hs (by omega) ht h hB
  obtain ⟨zs, rfl⟩ := exists_map (fun z : { z : ByteArray // z.size ≤ B } => [Value.string z.1]) css (fun cs hcs => by
    obtain ⟨_, f', y, hy, hyB⟩ := hc cs hcs
    obtain ⟨z, rfl, hy2, hz⟩ := DataW.trod_string he hy
    refine ⟨⟨z, ?_⟩, rfl⟩
    rw [hy2] at hyB
    simp only [Rows.uptoBulk, Array.length_toList] at hyB
    have : z.data.size = z.size := rfl
    omega)
  refine ⟨hm, zs.map (·.1), by simpa using hl, ?_, ?_⟩
  · rw [flat_one (fun z => Value.string z.1) zs] at hsl
    rw [List.map_map]; exact hsl
  · intro z hz
    obtain ⟨z', _, rfl⟩ := List.mem_map.1 hz
    exact z'.2
end
end Go.Proofs.YtmonepclhbappaaDoor
