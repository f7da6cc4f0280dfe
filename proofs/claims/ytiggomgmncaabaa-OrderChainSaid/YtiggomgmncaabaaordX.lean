/- Orders: a chain, and a ring; plain theory. -/
import Derived.Test.YtiggomgmncaabaaordV
import Derived.Test.YtiggomgmncaabaaordQ
import Derived.Test.YtiggomgmncaabaaordT
namespace Go.Proofs.Ytiggomgmncaabaa
set_option linter.unusedSimpArgs false
set_option linter.unusedVariables false
set_option linter.unnecessarySimpa false
open Go.Abs
set_option maxRecDepth 100000
def chp (i : Nat) : NL := if i = 0 then (true, []) else (false, [(i : Int) - 1])
def chF (k : Nat) : List NL := (List.range k).map chp
theorem chF_len (k : Nat) : (chF k).length = k := by simp [chF]
theorem chF_succ (k : Nat) : chF (k + 1) = chF k ++ [chp k] := by unfold chF; rw [List.range_succ, List.map_append]; rfl
theorem nd_ch {k i : Nat} (h : i < k) : nd (chF k) i = (chp i).2 := by
  rw [nd_at (by rw [chF_len]; exact h)]; simp [chF]
theorem mem_chp {i : Nat} {x : Int} : x ∈ (chp i).2 ↔ 0 < i ∧ x = (i : Int) - 1 := by
  unfold chp
  split
  · rename_i h; subst h; simp
  · rename_i h; simp; omega
theorem chp_ok {n i : Nat} (h : i < n) : InR n (chp i).2 ∧ Inc (chp i).2 := by
  unfold chp
  split
  · exact ⟨fun k hk => by simp at hk, fun k hk => by simp at hk⟩
  · refine ⟨fun k hk => ?_, fun k hk h0 => ?_⟩
    · have : k = 0 := by simp at hk; omega
      subst this
      simp; omega
    · simp at hk; omega
theorem ch_ok (k : Nat) : ∀ p ∈ chF k, InR k p.2 ∧ Inc p.2 := by
  intro p hp
  obtain ⟨i, hi, rfl⟩ := List.mem_map.1 hp
  exact chp_ok (List.mem_range.1 hi)
theorem ch_valid {k : Nat} (h : k ≤ 24) : validF (chF k) = 0 := validF_zero.2 ⟨by rw [chF_len]; exact h, by rw [chF_len]; exact ch_ok k⟩
theorem ch_topo (k : Nat) : ∀ j, j ≤ k → Topo (chF k) (upto j)
  | 0, _ => .nil
  | j + 1, h => by
    rw [upto_succ]
    refine .snoc _ j (ch_topo k j (by omega)) (by rw [chF_len]; omega) (fun hm => ?_) (fun x hx => ?_) (fun i hi => .inl (mem_upto.2 (by omega)))
    · have := mem_upto.1 hm; omega
    · rw [nd_ch (by omega)] at hx
      have := mem_chp.1 hx
      exact mem_upto.2 (by omega)
theorem ch_order {k : Nat} (h : k ≤ 24) : orderF (chF k) = (upto k, true) := order_eq (ch_valid h) (ch_topo k k (Nat.le_refl _)) (by rw [upto_len, chF_len])
theorem ext_valid {N : List NL} (hN : ∀ p ∈ N, InR N.length p.2 ∧ Inc p.2) (hl : N.length ≤ 23) : validF (N ++ [(true, [])]) = 0 := by
  refine validF_zero.2 ⟨by simp; omega, fun p hp => ?_⟩
  rw [List.length_append, List.length_singleton]
  rcases List.mem_append.1 hp with hp | hp
  · exact ⟨(hN p hp).1.mono (by omega), (hN p hp).2⟩
  · rw [List.mem_singleton.1 hp]
    exact ⟨fun k hk => by simp at hk, fun k hk => by simp at hk⟩
theorem ch_ext {k : Nat} (h : k ≤ 23) : orderF (chF k ++ [(true, [])]) = (upto (k + 1), true) := by
  have h1 : ∀ p ∈ chF k, InR (chF k).length p.2 ∧ Inc p.2 := by rw [chF_len]; exact ch_ok k
  refine order_eq (ext_valid h1 (by rw [chF_len]; exact h)) ?_ (by rw [upto_len, List.length_append, chF_len]; rfl)
  rw [upto_succ]
  refine .snoc _ k (ch_topo k k (Nat.le_refl _)).app (by rw [List.length_append, chF_len]; simp) (fun hm => ?_) (fun x hx => ?_) (fun i hi => .inl (mem_upto.2 (by omega)))
  · have := mem_upto.1 hm; omega
  · have e := nd_last (N := chF k) (p := (true, []))
    rw [chF_len] at e
    rw [e] at hx; cases hx
theorem ch_bad {k i : Nat} (h : k ≤ 24) (hi : i < k) : badF (chF k) [(i : Int)] = 0 := by
  have h1 : InR (chF k).length [(i : Int)] := by
    intro q hq
    have : q = 0 := by simp at hq; omega
    subst this
    rw [chF_len]; simp; omega
  rw [badF, if_neg (by rw [ch_valid h]; simp), if_neg (by simpa using h1), if_neg (by rw [ch_order h]; simp)]
theorem ch_down {k : Nat} : ∀ m i, i + m + 1 = k → Reach (chF k) true [((k - 1 : Nat) : Int)] i
  | 0, i, h => .base i (by simp; omega)
  | m + 1, i, h => by
    refine .step (i + 1) i (ch_down m (i + 1) (by omega)) (by rw [chF_len]; omega) (by rw [chF_len]; omega) ?_
    have : (i : Int) ∈ nd (chF k) (i + 1) := by rw [nd_ch (by omega)]; exact mem_chp.2 ⟨by omega, by omega⟩
    simpa [edge] using this
theorem ch_up {k : Nat} : ∀ i, i < k → Reach (chF k) false [((0 : Nat) : Int)] i
  | 0, h => .base 0 (by simp)
  | i + 1, h => by
    refine .step i (i + 1) (ch_up i (by omega)) (by rw [chF_len]; omega) (by rw [chF_len]; omega) ?_
    have : (i : Int) ∈ nd (chF k) (i + 1) := by rw [nd_ch (by omega)]; exact mem_chp.2 ⟨by omega, by omega⟩
    simpa [edge] using this
theorem ch_below {k : Nat} (h : k ≤ 24) (h1 : 1 ≤ k) : belowF (chF k) [((k - 1 : Nat) : Int)] = upto k := by
  rw [belowF, if_neg (by rw [ch_bad h (by omega)]; simp), ch_order h, List.filter_eq_self]
  intro x hx
  have hr := mem_upto.1 hx
  rw [(cloF_clo (chF k) true _).2 x.toNat (by rw [chF_len]; omega)]
  exact ch_down (k - 1 - x.toNat) _ (by omega)
theorem ch_above {k : Nat} (h : k ≤ 24) (h1 : 1 ≤ k) : aboveF (chF k) [((0 : Nat) : Int)] = (upto k).reverse := by
  rw [aboveF, if_neg (by rw [ch_bad h (by omega)]; simp), ch_order h, List.filter_eq_self]
  intro x hx
  have hr := mem_upto.1 (List.mem_reverse.1 hx)
  rw [(cloF_clo (chF k) false _).2 x.toNat (by rw [chF_len]; omega)]
  exact ch_up _ (by omega)
def rgF (k : Nat) : List NL := (chF k).set 0 (false, [(k : Int) - 1]) ++ [(true, [])]
theorem rg_len (k : Nat) : (rgF k).length = k + 1 := by simp [rgF, chF_len]
theorem nd_rg {k i : Nat} (h : i < k) : nd (rgF k) i = if i = 0 then [(k : Int) - 1] else [(i : Int) - 1] := by
  have hl := chF_len k
  rw [rgF, nd_app (by rw [List.length_set]; omega), nd_set (by omega)]
  by_cases e : i = 0
  · subst e; rw [if_pos rfl, if_pos rfl]
  · rw [if_neg (by omega), if_neg e, nd_ch h, chp, if_neg e]
theorem nd_rg_last {k : Nat} : nd (rgF k) k = [] := by
  have e := nd_last (N := (chF k).set 0 (false, [(k : Int) - 1])) (p := (true, []))
  rw [List.length_set, chF_len] at e
  exact e
theorem rg_valid {k : Nat} (h : k ≤ 23) (h1 : 1 ≤ k) : validF (rgF k) = 0 := by
  have hl : ((chF k).set 0 (false, [(k : Int) - 1])).length = k := by rw [List.length_set, chF_len]
  refine ext_valid (fun p hp => ?_) (by omega)
  rw [hl]
  rcases List.mem_or_eq_of_mem_set hp with hp | rfl
  · exact ch_ok k p hp
  · refine ⟨fun q hq => ?_, fun q hq h0 => ?_⟩
    · have : q = 0 := by simp at hq; omega
      subst this
      simp; omega
    · simp at hq; omega
theorem rg_round {k : Nat} : ∀ j, j < k → Wk (rgF k) 0 j j 0
  | 0, h => .nil 0 (Nat.le_refl _) (by rw [rg_len]; omega)
  | j + 1, h => .cons (j + 1) j 0 j (Nat.zero_le _) (by rw [rg_len]; omega) (by rw [nd_rg h, if_neg (by omega)]; simp) (rg_round j (by omega))
theorem rg_walk {k b m x y : Nat} (w : Wk (rgF k) b m x y) : x < k ∨ m = 0 → ∃ q, x + k * q = y + m := by
  induction w with
  | nil x h h2 => intro h; exact ⟨0, by omega⟩
  | cons x y z m h h2 e w ih =>
    intro hx
    rw [rg_len] at h2
    rcases Nat.lt_or_ge x k with g | g
    · rw [nd_rg g] at e
      split at e
      · rename_i e0
        have := List.mem_singleton.1 e
        obtain ⟨q, hq⟩ := ih (.inl (by omega))
        exact ⟨q + 1, by rw [Nat.mul_add]; omega⟩
      · rename_i e0
        have := List.mem_singleton.1 e
        obtain ⟨q, hq⟩ := ih (.inl (by omega))
        exact ⟨q, by omega⟩
    · rw [show x = k by omega, nd_rg_last] at e; cases e
theorem rg_circle {k : Nat} (h : k ≤ 23) (h1 : 1 ≤ k) : (circleF (rgF k)).length = k := by
  have h0 := rg_valid h h1
  have w : Wk (rgF k) 0 (k - 1 + 1) 0 0 := .cons 0 (k - 1) 0 (k - 1) (Nat.zero_le _) (by rw [rg_len]; omega) (by rw [nd_rg (by omega), if_pos rfl]; simp; omega) (rg_round (k - 1) (by omega))
  obtain ⟨g1, g2⟩ := circle_least h0 (by omega) w
  have g3 := List.length_pos_iff.2 g1
  obtain ⟨a, wa⟩ := circle_walk h0 g1
  have ha := wa.start.2
  rw [rg_len] at ha
  have hak : a < k := by
    rcases Nat.lt_or_ge a k with g | g
    · exact g
    · exfalso
      rw [show a = k by omega] at wa
      obtain ⟨m, hm⟩ : ∃ m, (circleF (rgF k)).length = m + 1 := ⟨(circleF (rgF k)).length - 1, by omega⟩
      rw [hm] at wa
      cases wa with
      | cons _ y _ _ _ _ e w => rw [nd_rg_last] at e; cases e
  obtain ⟨q, hq⟩ := rg_walk wa (.inl hak)
  have hq1 : 1 ≤ q := by
    rcases Nat.eq_zero_or_pos q with g | g
    · subst g; rw [Nat.mul_zero] at hq; omega
    · exact g
  have := Nat.mul_le_mul_left k hq1
  omega
end Go.Proofs.Ytiggomgmncaabaa
