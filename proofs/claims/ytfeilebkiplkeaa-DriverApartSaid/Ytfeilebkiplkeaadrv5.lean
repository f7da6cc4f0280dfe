/- Drivers: the steps of a probe; what holds of them. -/
import Derived.Test.Ytfeilebkiplkeaadrv4
namespace Go.Proofs.Ytfeilebkiplkeaa
set_option linter.unusedSimpArgs false
set_option linter.unusedVariables false
set_option linter.unnecessarySimpa false
open Go.Abs
/-- The holds of so many steps. -/
def stepsH (d : Int) (k : Nat) : List Hd := (List.range k).map fun (s : Nat) => ⟨d, 2, d * 8 + s⟩
theorem stepsH_succ (d : Int) (k : Nat) : stepsH d (k + 1) = stepsH d k ++ [⟨d, 2, d * 8 + k⟩] := by
  unfold stepsH; rw [List.range_succ, List.map_append]; rfl
theorem stepsH_len (d : Int) (k : Nat) : (stepsH d k).length = k := by simp [stepsH]
theorem mem_stepsH {d : Int} {k : Nat} {x : Hd} (h : x ∈ stepsH d k) : x.d = d ∧ x.k = 2 ∧ d * 8 ≤ x.u ∧ x.u < d * 8 + k := by
  unfold stepsH at h
  obtain ⟨s, hs, rfl⟩ := List.mem_map.1 h
  have := List.mem_range.1 hs
  exact ⟨rfl, rfl, by show d * 8 ≤ d * 8 + (s : Int); omega, by show d * 8 + (s : Int) < d * 8 + k; omega⟩
/-- Holds, and a device that has none, with room for so many. -/
structure Free (l : List Hd) (d : Int) (n : Nat) : Prop where
  good : Good l
  rng : 0 ≤ d ∧ d < 12
  no : ∀ x ∈ l, x.d ≠ d
  n8 : n ≤ 8
  room : l.length + n ≤ 96
theorem Free.new {l : List Hd} {d : Int} {n k : Nat} (h : Free l d n) (hk : k < n) : ∀ y ∈ l ++ stepsH d k, y.u ≠ d * 8 + k := fun y hy => by
  have hn := h.n8
  rcases List.mem_append.1 hy with hy | hy
  · have h1 := h.no y hy
    obtain ⟨_, _, _, h2, h3⟩ := h.good.ok y hy
    omega
  · have := (mem_stepsH hy).2.2
    omega
theorem Free.good_ {l : List Hd} {d : Int} {n : Nat} (h : Free l d n) : ∀ k, k ≤ n → Good (l ++ stepsH d k) := by
  intro k
  induction k with
  | zero => intro _; rw [show stepsH d 0 = [] from rfl, List.append_nil]; exact h.good
  | succ k ih =>
    intro hk
    have g := ih (by omega)
    have hn := h.n8
    have hr := h.rng
    have hm := h.room
    rw [stepsH_succ, ← List.append_assoc]
    refine ⟨?_, fun x hx => ?_, ?_⟩
    · rw [List.length_append, List.length_append, stepsH_len]
      show l.length + k + 1 ≤ 96
      omega
    · rcases List.mem_append.1 hx with hx | hx
      · exact g.ok x hx
      · rw [List.mem_singleton.1 hx]
        exact ⟨hr.1, hr.2, rfl, by show d * 8 ≤ d * 8 + (k : Int); omega, by show d * 8 + (k : Int) < d * 8 + 8; omega⟩
    · rw [List.pairwise_append]
      refine ⟨g.nd, List.pairwise_singleton .., fun a ha b hb => ?_⟩
      rw [List.mem_singleton.1 hb]
      exact h.new hk a ha
theorem Free.ok {l : List Hd} {d : Int} {n k : Nat} (h : Free l d n) (hk : k < n) : (⟨d, 2, d * 8 + k⟩ : Hd).ok := by
  have hn := h.n8
  have hr := h.rng
  exact ⟨hr.1, hr.2, rfl, by show d * 8 ≤ d * 8 + (k : Int); omega, by show d * 8 + (k : Int) < d * 8 + 8; omega⟩
theorem Free.not_ {l : List Hd} {d : Int} {n : Nat} (h : Free l d n) (k : Nat) : notL (l ++ stepsH d k) d = l := by
  unfold notL
  rw [List.filter_append, List.filter_eq_self.2, List.filter_eq_nil_iff.2, List.append_nil]
  · intro x hx
    simp [(mem_stepsH hx).1]
  · intro x hx
    simpa using h.no x hx
theorem Free.of_ {l : List Hd} {d : Int} {n : Nat} (h : Free l d n) (k : Nat) : ofL (l ++ stepsH d k) d = stepsH d k := by
  unfold ofL
  rw [List.filter_append, List.filter_eq_nil_iff.2, List.filter_eq_self.2, List.nil_append]
  · intro x hx
    simp [(mem_stepsH hx).1]
  · intro x hx
    simpa using h.no x hx
theorem Free.of0 {l : List Hd} {d : Int} {n : Nat} (h : Free l d n) : ofL l d = [] := by
  have := h.of_ 0
  rwa [show stepsH d 0 = [] from rfl, List.append_nil] at this
/-- The holds after a probe, and those that are seen at its steps. -/
def startF (l : List Hd) (d : Int) (p : Pb) : List Hd := if p.f = -1 then l ++ stepsH d p.n.toNat else l
def looksF (l : List Hd) (d : Int) (n : Nat) : List (List Hd) := (List.range (n + 1)).map fun k => l ++ stepsH d k
def statesF (l : List Hd) (d : Int) (p : Pb) : List (List Hd) := if p.f = -1 then looksF l d p.n.toNat else looksF l d p.f.toNat ++ [l]
theorem looksF_succ (l : List Hd) (d : Int) (n : Nat) : looksF l d (n + 1) = looksF l d n ++ [l ++ stepsH d (n + 1)] := by
  unfold looksF; rw [List.range_succ, List.map_append]; rfl
theorem looksF_zero (l : List Hd) (d : Int) : looksF l d 0 = [l] := by
  unfold looksF; simp [stepsH]
theorem looksF_len (l : List Hd) (d : Int) (n : Nat) : (looksF l d n).length = n + 1 := by simp [looksF]
end Go.Proofs.Ytfeilebkiplkeaa
