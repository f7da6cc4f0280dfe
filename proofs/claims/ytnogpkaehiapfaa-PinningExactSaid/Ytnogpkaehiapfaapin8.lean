/- Pinouts: owners, free pins; the chapter's example. -/
import Derived.Test.Ytnogpkaehiapfaapin7
namespace Go.Proofs.Ytnogpkaehiapfaa
set_option linter.unusedSimpArgs false
set_option linter.unusedVariables false
set_option linter.unnecessarySimpa false
open Go.Abs
set_option maxRecDepth 100000
theorem ownG_bad {gs : List Grp} : ∀ {us : List Us} {seen o : List Int}, (ownG gs us seen o).2 ≠ 0 → (ownG gs us seen o).1 = []
  | [], _, _, h => absurd rfl h
  | u :: r, seen, o, h => by
    rw [ownG] at h ⊢
    split
    · rfl
    · rename_i h1
      rw [if_neg h1] at h
      split
      · rfl
      · rename_i h2
        rw [if_neg h2] at h
        split
        · rfl
        · rename_i o' h3
          rw [h3] at h
          exact ownG_bad h
theorem ownersF_bad {p : Pin} {us : List Us} (h : (ownersF p us).2 ≠ 0) : (ownersF p us).1 = [] := by
  unfold ownersF at h ⊢
  split
  · rename_i h1
    rw [if_pos h1] at h
    exact ownG_bad h
  · rfl
theorem ownersF_valid {p : Pin} {us : List Us} (h : (ownersF p us).2 = 0) : validP p = 0 := by
  unfold ownersF at h
  split at h
  · assumption
  · cases h
/-- The pins without an owner, of the first ones. -/
def freeG (o : List Int) (c : Nat) : List Int := ((List.range c).filter fun i => decide (o.getD i 0 < 0)).map fun (i : Nat) => (i : Int)
def freeF (p : Pin) (us : List Us) : List Int := if (ownersF p us).2 = 0 then freeG (ownersF p us).1 (ownersF p us).1.length else []
theorem freeG_succ (o : List Int) (c : Nat) : freeG o (c + 1) = freeG o c ++ (if o.getD c 0 < 0 then [(c : Int)] else []) := by
  unfold freeG
  rw [List.range_succ, List.filter_append, List.map_append]
  congr 1
  by_cases h : o.getD c 0 < 0
  · rw [if_pos h, List.filter_cons, if_pos (decide_eq_true h)]; rfl
  · rw [if_neg h, List.filter_cons, if_neg (by simpa using h)]; rfl
theorem freeG_len (o : List Int) (c : Nat) : (freeG o c).length ≤ c := by
  unfold freeG
  rw [List.length_map]
  exact Nat.le_trans (List.length_filter_le _ _) (by simp)
def sUart : ByteArray := ⟨#[117, 97, 114, 116]⟩
def twoP : Pin := ⟨3, false, [⟨⟨#[97]⟩, false, [0, 1], false, [sUart]⟩, ⟨⟨#[98]⟩, false, [1, 2], false, [⟨#[115, 112, 105]⟩, sUart]⟩]⟩
end Go.Proofs.Ytnogpkaehiapfaa
