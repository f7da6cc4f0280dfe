/- Pinouts: names of groups, common pins. -/
import Derived.Test.Ytnogpkaehiapfaapin5
namespace Go.Proofs.Ytnogpkaehiapfaa
set_option linter.unusedSimpArgs false
set_option linter.unusedVariables false
set_option linter.unnecessarySimpa false
open Go.Abs
set_option maxRecDepth 100000
def nameAt (gs : List Grp) (i : Nat) : ByteArray := (gs.getD i default).name
/-- The first group with a name; -1: none. -/
def FindR (gs : List Grp) (s : ByteArray) (v : Int) : Prop := v = -1 ∧ (∀ i, i < gs.length → nameAt gs i ≠ s) ∨ ∃ c : Nat, v = c ∧ c < gs.length ∧ nameAt gs c = s ∧ ∀ k, k < c → nameAt gs k ≠ s
def FindP (p : Pin) (s : ByteArray) (v : Int) : Prop := if validP p = 0 then FindR p.gs s v else v = -1
theorem FindR.unique {gs : List Grp} {s : ByteArray} {u v : Int} (hu : FindR gs s u) (hv : FindR gs s v) : u = v := by
  rcases hu with ⟨rfl, h1⟩ | ⟨c, rfl, h1, h2, h3⟩ <;> rcases hv with ⟨rfl, g1⟩ | ⟨d, rfl, g1, g2, g3⟩
  · rfl
  · exact absurd g2 (h1 d g1)
  · exact absurd h2 (g1 c h1)
  · rcases Nat.lt_trichotomy c d with h | h | h
    · exact absurd h2 (g3 c h)
    · rw [h]
    · exact absurd g2 (h3 d h)
theorem FindP.unique {p : Pin} {s : ByteArray} {u v : Int} (hu : FindP p s u) (hv : FindP p s v) : u = v := by
  unfold FindP at hu hv
  split at hu
  · rename_i h
    rw [if_pos h] at hv
    exact hu.unique hv
  · rename_i h
    rw [if_neg h] at hv
    rw [hu, hv]
theorem nameAt_eq {gs : List Grp} {i : Nat} (h : i < gs.length) : nameAt gs i = gs[i].name := by rw [nameAt, List.getD_eq_getElem?_getD, List.getElem?_eq_getElem h]; rfl
def findF (p : Pin) (s : ByteArray) : Int := if validP p = 0 then idxS (p.gs.map (·.name)) s else -1
theorem FindP_findF (p : Pin) (s : ByteArray) : FindP p s (findF p s) := by
  unfold FindP findF
  split
  · rename_i hv
    have hl : (p.gs.map (·.name)).length = p.gs.length := List.length_map ..
    have hat : ∀ k, (h : k < (p.gs.map (·.name)).length) → (p.gs.map (·.name))[k] = nameAt p.gs k := fun k h => by
      rw [List.getElem_map, nameAt_eq (by omega)]
    rcases Decidable.em (s ∈ p.gs.map (·.name)) with hm | hm
    · rw [idxS, if_pos hm]
      have hlt := List.idxOf_lt_length_of_mem hm
      refine .inr ⟨_, rfl, by omega, ?_, fun k hk e => ?_⟩
      · rw [← hat _ hlt]; exact List.getElem_idxOf hlt
      · have hkl : k < (p.gs.map (·.name)).length := by omega
        rw [← hat k hkl] at e
        have := List.not_of_lt_findIdx (p := (· == s)) (xs := p.gs.map Grp.name) (i := k) hk
        rw [e, beq_self_eq_true] at this
        cases this
    · rw [idxS, if_neg hm]
      refine .inl ⟨rfl, fun i hi e => hm ?_⟩
      rw [← e, ← hat i (by omega)]
      exact List.getElem_mem _
  · rfl
/-- The pins that two groups have in common. -/
def comF (a b : List Int) : List Int := a.filter fun x => b.contains x
def commonF (p : Pin) (a b : Int) : List Int := if validP p = 0 ∧ (0 ≤ a ∧ a < p.gs.length) ∧ 0 ≤ b ∧ b < p.gs.length then comF (p.gs.getD a.toNat default).pins (p.gs.getD b.toNat default).pins else []
theorem comF_take {a b : List Int} {c : Nat} (h : c < a.length) : comF (a.take (c + 1)) b = comF (a.take c) b ++ (if b.contains a[c] then [a[c]] else []) := by
  unfold comF
  rw [List.take_succ_eq_append_getElem h, List.filter_append]
  congr 1
  by_cases hq : b.contains a[c] = true
  · rw [if_pos hq, List.filter_cons, if_pos hq]; rfl
  · rw [if_neg hq, List.filter_cons, if_neg hq]; rfl
theorem comF_len (a b : List Int) : (comF a b).length ≤ a.length := List.length_filter_le _ _
end Go.Proofs.Ytnogpkaehiapfaa
