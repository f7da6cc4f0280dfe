/- Orders: walks and distances, plain theory. -/
import Derived.Test.Ytiggomgmncaabaaord8
namespace Go.Proofs.Ytiggomgmncaabaa
set_option linter.unusedSimpArgs false
set_option linter.unusedVariables false
set_option linter.unnecessarySimpa false
open Go.Abs
set_option maxRecDepth 100000
theorem getD_put {α : Type} {l : List α} {i : Nat} {x d : α} (h : i < l.length) (k : Nat) : (l.set i x).getD k d = if i = k then x else l.getD k d := by
  simp only [List.getD_eq_getElem?_getD, List.getElem?_set]
  by_cases hik : i = k
  · subst hik
    rw [if_pos rfl, if_pos rfl, if_pos h]; rfl
  · rw [if_neg hik, if_neg hik]
/-- A walk of so many steps by needs, over items that are not less than a. -/
inductive Wk (N : List NL) (a : Nat) : Nat → Nat → Nat → Prop
  | nil (x : Nat) (h : a ≤ x) (h2 : x < N.length) : Wk N a 0 x x
  | cons (x y z k : Nat) (h : a ≤ x) (h2 : x < N.length) (e : (y : Int) ∈ nd N x) (w : Wk N a k y z) : Wk N a (k + 1) x z
section
variable {N : List NL} {a : Nat}
theorem Wk.start {k x y : Nat} (h : Wk N a k x y) : a ≤ x ∧ x < N.length := by cases h with
  | nil _ h h2 => exact ⟨h, h2⟩
  | cons _ _ _ _ h h2 => exact ⟨h, h2⟩
theorem Wk.stop {k x y : Nat} (h : Wk N a k x y) : a ≤ y ∧ y < N.length := by
  induction h with
  | nil x h h2 => exact ⟨h, h2⟩
  | cons _ _ _ _ _ _ _ _ ih => exact ih
theorem Wk.snoc {k x y z : Nat} (h : Wk N a k x y) (hz : a ≤ z) (hzn : z < N.length) (e : (z : Int) ∈ nd N y) : Wk N a (k + 1) x z := by
  induction h with
  | nil x h h2 => exact .cons x z z 0 h h2 e (.nil z hz hzn)
  | cons x y' w k h h2 e' _ ih => exact .cons x y' z (k + 1) h h2 e' (ih e)
theorem Wk.last {k x z : Nat} (h : Wk N a (k + 1) x z) : ∃ y, Wk N a k x y ∧ (z : Int) ∈ nd N y := by
  obtain ⟨m, hm⟩ : ∃ m, m = k + 1 := ⟨_, rfl⟩
  rw [← hm] at h
  induction h generalizing k with
  | nil => omega
  | cons x y z j hx hxn e w ih =>
    cases w with
    | nil _ hy hyn =>
      have : k = 0 := by omega
      subst this
      exact ⟨x, .nil x hx hxn, e⟩
    | cons _ y2 _ j' hy hyn e2 w2 =>
      obtain ⟨q, rfl⟩ : ∃ q, k = q + 1 := ⟨k - 1, by omega⟩
      obtain ⟨y3, h3, h4⟩ := ih (k := q) (by omega)
      exact ⟨y3, .cons x y y3 q hx hxn e h3, h4⟩
theorem Wk.trans {k j x y z : Nat} (h : Wk N a k x y) (h' : Wk N a j y z) : Wk N a (k + j) x z := by
  induction h with
  | nil x h h2 => rwa [Nat.zero_add]
  | cons x y' w k h h2 e _ ih =>
    have := ih h'
    rw [show k + 1 + j = (k + j) + 1 by omega]
    exact .cons x y' z (k + j) h h2 e this
theorem Wk.weak {b k x y : Nat} (h : Wk N a k x y) (hb : b ≤ a) : Wk N b k x y := by
  induction h with
  | nil x h h2 => exact .nil x (by omega) h2
  | cons x y' w k h h2 e _ ih => exact .cons x y' w k (by omega) h2 e ih
/-- There is a walk of so many steps to an item. -/
def wkB (N : List NL) (a t : Nat) : Nat → Nat → Bool
  | 0, x => decide (x = t ∧ a ≤ x ∧ x < N.length)
  | k + 1, x => decide (a ≤ x ∧ x < N.length) && (nd N x).any fun y => decide (0 ≤ y) && wkB N a t k y.toNat
theorem wkB_iff {t : Nat} : ∀ (k x : Nat), wkB N a t k x = true ↔ Wk N a k x t
  | 0, x => by
    simp only [wkB, decide_eq_true_eq]
    constructor
    · rintro ⟨rfl, h1, h2⟩
      exact .nil x h1 h2
    · intro h
      cases h with
      | nil _ h h2 => exact ⟨rfl, h, h2⟩
  | k + 1, x => by
    simp only [wkB, Bool.and_eq_true, decide_eq_true_eq, List.any_eq_true]
    constructor
    · rintro ⟨⟨h1, h2⟩, y, hy, h3, h4⟩
      exact .cons x y.toNat t k h1 h2 (by rwa [Int.toNat_of_nonneg h3]) ((wkB_iff k y.toNat).1 h4)
    · intro h
      cases h with
      | cons _ y _ _ h h2 e w => exact ⟨⟨h, h2⟩, (y : Int), e, by omega, by rw [Int.toNat_natCast]; exact (wkB_iff k y).2 w⟩
/-- The least number of steps to an item, or -1. -/
def distF (N : List NL) (a t x : Nat) : Int := match (List.range (N.length + 1)).find? (fun k => wkB N a t k x) with
  | some k => k
  | none => -1
/-- So many steps, and no fewer. -/
def Dist (N : List NL) (a t d x : Nat) : Prop := Wk N a d x t ∧ ∀ k, k < d → ¬ Wk N a k x t
theorem Dist.uniq {t d e x : Nat} (h : Dist N a t d x) (h' : Dist N a t e x) : d = e := by
  rcases Nat.lt_trichotomy d e with h1 | h1 | h1
  · exact absurd h.1 (h'.2 d h1)
  · exact h1
  · exact absurd h'.1 (h.2 e h1)
theorem Dist.of {t k x : Nat} (h : Wk N a k x t) : ∃ d, d ≤ k ∧ Dist N a t d x := by
  induction k using Nat.strongRecOn with
  | _ k ih =>
    by_cases hex : ∃ j, j < k ∧ Wk N a j x t
    · obtain ⟨j, hj, hw⟩ := hex
      obtain ⟨d, hd, hD⟩ := ih j hj hw
      exact ⟨d, by omega, hD⟩
    · exact ⟨k, Nat.le_refl _, h, fun j hj hw => hex ⟨j, hj, hw⟩⟩
theorem Dist.next {t d x : Nat} (h : Dist N a t (d + 1) x) : ∃ y : Nat, (y : Int) ∈ nd N x ∧ Dist N a t d y := by
  obtain ⟨h1, h2⟩ := h
  cases h1 with
  | cons _ y _ _ hx hxn e w => exact ⟨y, e, w, fun k hk hw => h2 (k + 1) (by omega) (.cons x y t k hx hxn e hw)⟩
theorem Dist.step {t d x y : Nat} (h : Dist N a t d y) (hx : a ≤ x) (hxn : x < N.length) (e : (y : Int) ∈ nd N x) : ∃ d', d' ≤ d + 1 ∧ Dist N a t d' x := Dist.of (.cons x y t d hx hxn e h.1)
theorem nodup_len : ∀ (n : Nat) (l : List Nat), l.Nodup → (∀ x ∈ l, x < n) → l.length ≤ n
  | 0, l, _, h => by
    cases l with
    | nil => exact Nat.le_refl _
    | cons x _ => exact absurd (h x (List.mem_cons_self ..)) (Nat.not_lt_zero _)
  | n + 1, l, hn, h => by
    by_cases hm : n ∈ l
    · have h1 := nodup_len n (l.erase n) (hn.erase n) fun x hx => by
        have h2 := (hn.mem_erase_iff).1 hx
        have := h x h2.2
        have := h2.1
        omega
      rw [List.length_erase_of_mem hm] at h1
      omega
    · have := nodup_len n l hn fun x hx => by
        have := h x hx
        have : x ≠ n := fun e => hm (e ▸ hx)
        omega
      omega
theorem Dist.chain {t : Nat} : ∀ (d x : Nat), Dist N a t d x → ∃ l : List Nat, l.length = d + 1 ∧ l.Nodup ∧ ∀ z ∈ l, z < N.length ∧ ∃ j, j ≤ d ∧ Dist N a t j z
  | 0, x, h => ⟨[x], rfl, by simp, fun z hz => by
    rw [List.mem_singleton.1 hz]
    exact ⟨h.1.start.2, 0, Nat.le_refl _, h⟩⟩
  | d + 1, x, h => by
    obtain ⟨y, _, hy⟩ := h.next
    obtain ⟨l, h1, h2, h3⟩ := Dist.chain d y hy
    refine ⟨x :: l, by simp [h1], List.nodup_cons.2 ⟨fun hx => ?_, h2⟩, fun z hz => ?_⟩
    · obtain ⟨_, j, hj, hD⟩ := h3 x hx
      have := h.uniq hD
      omega
    · rcases List.mem_cons.1 hz with rfl | hz
      · exact ⟨h.1.start.2, d + 1, Nat.le_refl _, h⟩
      · obtain ⟨h4, j, hj, h5⟩ := h3 z hz
        exact ⟨h4, j, by omega, h5⟩
theorem Dist.lt {t d x : Nat} (h : Dist N a t d x) : d < N.length := by
  obtain ⟨l, h1, h2, h3⟩ := h.chain
  have := nodup_len N.length l h2 fun z hz => (h3 z hz).1
  omega
theorem distF_of {t d x : Nat} (h : Dist N a t d x) : distF N a t x = d := by
  have hd := h.lt
  have e : (List.range (N.length + 1)).find? (fun k => wkB N a t k x) = some d := by
    rw [List.find?_range_eq_some]
    refine ⟨(wkB_iff d x).2 h.1, List.mem_range.2 (by omega), fun j hj => ?_⟩
    have := h.2 j hj
    cases hb : wkB N a t j x
    · rfl
    · exact absurd ((wkB_iff j x).1 hb) this
  unfold distF
  rw [e]
theorem distF_none {t x : Nat} (h : ∀ k, ¬ Wk N a k x t) : distF N a t x = -1 := by
  have e : (List.range (N.length + 1)).find? (fun k => wkB N a t k x) = none := by
    rw [List.find?_eq_none]
    intro k _ hk
    exact h k ((wkB_iff k x).1 hk)
  unfold distF
  rw [e]
theorem distF_cases (N : List NL) (a t x : Nat) : (∃ d : Nat, distF N a t x = d ∧ Dist N a t d x) ∨ (distF N a t x = -1 ∧ ∀ k, ¬ Wk N a k x t) := by
  by_cases h : ∃ k, Wk N a k x t
  · obtain ⟨k, hk⟩ := h
    obtain ⟨d, _, hD⟩ := Dist.of hk
    exact .inl ⟨d, distF_of hD, hD⟩
  · exact .inr ⟨distF_none fun k hk => h ⟨k, hk⟩, fun k hk => h ⟨k, hk⟩⟩
theorem distF_iff {t x : Nat} (d : Nat) : distF N a t x = d ↔ Dist N a t d x := by
  constructor
  · intro h
    rcases distF_cases N a t x with ⟨e, h1, h2⟩ | ⟨h1, _⟩
    · have : e = d := by omega
      rwa [this] at h2
    · omega
  · exact distF_of
theorem distF_lt (N : List NL) (a t x : Nat) : -1 ≤ distF N a t x ∧ distF N a t x < N.length ∨ N.length = 0 := by
  rcases distF_cases N a t x with ⟨e, h1, h2⟩ | ⟨h1, _⟩
  · have := h2.lt; omega
  · omega
end
end Go.Proofs.Ytiggomgmncaabaa
