/- Orders: what respects needs. -/
import Derived.Test.Ytdicjhnhbdanlaaord8
namespace Go.Proofs.Ytdicjhnhbdanlaa
set_option linter.unusedSimpArgs false
set_option linter.unusedVariables false
set_option linter.unnecessarySimpa false
open Go.Abs
set_option maxRecDepth 100000
def RespA (N : List NL) (l : List Int) : Prop := ∀ (k : Nat) (h : k < l.length), 0 ≤ l[k] ∧ l[k] < N.length ∧ l[k] ∉ l.take k
instance (N : List NL) (l : List Int) : Decidable (RespA N l) := by unfold RespA; infer_instance
def RespB (N : List NL) (l : List Int) : Prop := ∀ (k : Nat) (h : k < l.length), ∀ x ∈ nd N l[k].toNat, x ∉ l.drop k
instance (N : List NL) (l : List Int) : Decidable (RespB N l) := by unfold RespB; infer_instance
def RespP (N : List NL) (l : List Int) : Prop := validF N = 0 ∧ RespA N l ∧ RespB N l
instance (N : List NL) (l : List Int) : Decidable (RespP N l) := by unfold RespP; infer_instance
/-- The places of the first items of a list. -/
structure Placed (N : List NL) (l : List Int) (c : Nat) (pl : List Int) : Prop where
  len : pl.length = N.length
  at_ : ∀ v : Nat, v < N.length → (pl.getD v 0 = -1 ∧ (v : Int) ∉ l.take c) ∨ ∃ (q : Nat) (h : q < l.length), q < c ∧ l[q] = v ∧ pl.getD v 0 = q
theorem getD_set {α : Type} {l : List α} {i : Nat} {x d : α} (h : i < l.length) (k : Nat) : (l.set i x).getD k d = if i = k then x else l.getD k d := by
  simp only [List.getD_eq_getElem?_getD, List.getElem?_set]
  by_cases hik : i = k
  · subst hik
    rw [if_pos rfl, if_pos rfl, if_pos h]; rfl
  · rw [if_neg hik, if_neg hik]
theorem Placed.step {N : List NL} {l : List Int} {c : Nat} {pl : List Int} (h : Placed N l c pl) (hc : c < l.length) (hr : 0 ≤ l[c] ∧ l[c] < N.length) : Placed N l (c + 1) (pl.set l[c].toNat c) := by
  have hl := h.len
  refine ⟨by rw [List.length_set, hl], fun v hv => ?_⟩
  rw [getD_set (by omega)]
  by_cases he : l[c].toNat = v
  · right
    rw [if_pos he]
    exact ⟨c, hc, by omega, by omega, rfl⟩
  · rw [if_neg he]
    rcases h.at_ v hv with ⟨h1, h2⟩ | ⟨q, hq, h1, h2, h3⟩
    · refine .inl ⟨h1, fun h3 => ?_⟩
      rcases (mem_take_succ hc _).1 h3 with h4 | h4
      · exact h2 h4
      · omega
    · exact .inr ⟨q, hq, by omega, h2, h3⟩
theorem Placed.seen {N : List NL} {l : List Int} {c : Nat} {pl : List Int} (h : Placed N l c pl) (hc : c < l.length) (hr : 0 ≤ l[c] ∧ l[c] < N.length) : 0 ≤ pl.getD l[c].toNat 0 ↔ l[c] ∈ l.take c := by
  have hv : ((l[c].toNat : Nat) : Int) = l[c] := by omega
  rcases h.at_ l[c].toNat (by omega) with ⟨h1, h2⟩ | ⟨q, hq, h1, h2, h3⟩
  · rw [hv] at h2
    exact ⟨fun h => by omega, fun h => absurd h h2⟩
  · refine ⟨fun _ => ?_, fun _ => by omega⟩
    rw [← hv, ← h2]
    exact List.mem_take_iff_getElem.2 ⟨q, by omega, rfl⟩
theorem Placed.late {N : List NL} {l : List Int} {pl : List Int} (h : Placed N l l.length pl) (hA : RespA N l) {x : Int} (hx : 0 ≤ x ∧ x < N.length) (i : Nat) : (i : Int) ≤ pl.getD x.toNat 0 ↔ x ∈ l.drop i := by
  have hv : ((x.toNat : Nat) : Int) = x := by omega
  rcases h.at_ x.toNat (by omega) with ⟨h1, h2⟩ | ⟨q, hq, h1, h2, h3⟩
  · rw [hv, List.take_length] at h2
    exact ⟨fun h => by omega, fun h => absurd (List.mem_of_mem_drop h) h2⟩
  · rw [hv] at h2
    rw [h3]
    constructor
    · intro h4
      exact List.mem_drop_iff_getElem.2 ⟨q - i, by omega, by simp only [show i + (q - i) = q by omega]; exact h2⟩
    · intro h4
      obtain ⟨j, hj, e⟩ := List.mem_drop_iff_getElem.1 h4
      rcases Nat.lt_or_ge q i with h5 | h5
      · exfalso
        have := (hA (i + j) (by omega)).2.2
        apply this
        rw [e, ← h2]
        exact List.mem_take_iff_getElem.2 ⟨q, by omega, rfl⟩
      · omega
end Go.Proofs.Ytdicjhnhbdanlaa
