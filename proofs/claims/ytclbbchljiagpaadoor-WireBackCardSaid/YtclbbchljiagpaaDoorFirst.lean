/-
  Errors and their values, one by one; contract of fault.First.
-/
import Derived.Test.YtclbbchljiagpaaDoorChain2
namespace Go.Proofs.YtclbbchljiagpaaDoor
open Go.RowKit

def Err.first : List Err → Err
  | [] => .nil
  | .nil :: l => Err.first l
  | e :: _ => e
theorem Err.first_cons {E : Err} (h : E ≠ .nil) (l : List Err) : Err.first (E :: l) = E := by cases E <;> first | exact absurd rfl h | rfl

/-- Errors and their values, one by one. -/
def Err.AtAll (w : World) : List Err → List Value → Prop
  | [], vs => vs = []
  | E :: Es, vs => ∃ v vs', vs = v :: vs' ∧ E.At w v ∧ Err.AtAll w Es vs'
theorem Err.AtAll.len {w : World} : ∀ {Es : List Err} {vs : List Value}, Err.AtAll w Es vs → vs.length = Es.length
  | [], _, h => by rw [show _ = [] from h]; rfl
  | _ :: _, _, ⟨_, _, h1, _, h3⟩ => by rw [h1, List.length_cons, List.length_cons, h3.len]
theorem Err.AtAll.at_ {w : World} : ∀ {Es : List Err} {vs : List Value}, Err.AtAll w Es vs → ∀ (k : Nat) (E : Err), Es[k]? = some E → ∃ v, vs[k]? = some v ∧ E.At w v
  | [], _, _, k, E, h => by simp at h
  | _ :: _, _, ⟨v, _, h1, h2, _⟩, 0, E, h => by
    simp at h
    subst h
    exact ⟨v, by rw [h1]; rfl, h2⟩
  | _ :: _, _, ⟨_, _, h1, _, h3⟩, k + 1, E, h => by
    obtain ⟨v, hv, hE⟩ := h3.at_ k E (by simpa using h)
    exact ⟨v, by rw [h1]; simpa using hv, hE⟩
theorem Err.AtAll.keep {w w' : World} (hb : Below w.heap.size w w') : ∀ {Es : List Err} {vs : List Value}, Err.AtAll w Es vs → Err.AtAll w' Es vs
  | [], _, h => h
  | _ :: _, _, ⟨v, vs', h1, h2, h3⟩ => ⟨v, vs', h1, h2.keep hb, h3.keep hb⟩

set_option maxHeartbeats 1000000 in
theorem First_any (Es : List Err) (vs : List Value) (A : Option Addr) (n c : Nat) (w : World) (hn : n ≤ 4294967296) (hl : Es.length = n) (hE : Err.AtAll w Es vs) (hs : Sl w 1 A n vs) :
    Calls Tryd.prog 72 #[.slice A n c] w fun e w' => ∃ v', e = .returned v' ∧ (Err.first Es).At w v' ∧ w = w' := by
  go_enter Tryd.func72, Tryd.ntmps72
  go_wp2
  go_loop [7] (fun i => ∃ k : Nat, k ≤ n ∧ i = .int .i64 k ∧ Hid (Err.first Es = Err.first (Es.drop k))) (fun i => n - (intOf i).toNat)
  case atStart => exact ⟨0, Nat.zero_le _, rfl, rfl⟩
  case round =>
    obtain ⟨k, hk, rfl, HF⟩ := hrel
    by_cases hlt : k < n
    · have hl' : k < Es.length := by omega
      obtain ⟨b, off, u, rfl, e1, c1⟩ := hs.one hlt
      obtain ⟨v, e2, hv⟩ := hE.at_ k Es[k] (List.getElem?_eq_getElem hl')
      obtain rfl : u = v := Option.some.inj (e1.symm.trans e2)
      have HD := Lib.hid (List.drop_eq_getElem_cons hl')
      have HV := Lib.hid hv
      clear e1 e2 hE hs hl
      by_cases hz : Es[k] = .nil
      · rw [hz] at hv
        obtain rfl : u = .nilIface := hv
        have HZ := Lib.hid hz
        clear hz
        go_wp2
        go_round
        case rel => exact ⟨k + 1, by omega, by go_num, by show _ = _; rw [HF.out, HD.out, HZ.out]; rfl⟩
        case measure => simp [intOf]; omega
      · obtain ⟨T, x, rfl⟩ := Err.At.iface_ hv hz
        have HZ := Lib.hid hz
        clear hv hz
        go_wp2
        go_ret
        exact ⟨_, rfl, by rw [HF.out, HD.out, Err.first_cons HZ.out]; exact HV.out, rfl⟩
    · have HD := Lib.hid (show Es.drop k = [] from List.drop_eq_nil_of_le (by omega))
      clear hl hE hs
      go_wp2
      go_ret
      exact ⟨_, rfl, by rw [HF.out, HD.out]; rfl, rfl⟩
end Go.Proofs.YtclbbchljiagpaaDoor
