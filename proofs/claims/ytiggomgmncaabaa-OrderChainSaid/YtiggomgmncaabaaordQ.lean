/- Orders: one more item, one need less; plain theory. -/
import Derived.Test.YtiggomgmncaabaaordM
namespace Go.Proofs.Ytiggomgmncaabaa
set_option linter.unusedSimpArgs false
set_option linter.unusedVariables false
set_option linter.unnecessarySimpa false
open Go.Abs
set_option maxRecDepth 100000
def upto (n : Nat) : List Int := (List.range n).map fun (k : Nat) => (k : Int)
theorem upto_succ (n : Nat) : upto (n + 1) = upto n ++ [(n : Int)] := by unfold upto; rw [List.range_succ, List.map_append]; rfl
theorem upto_len (n : Nat) : (upto n).length = n := by simp [upto]
theorem upto_at {n k : Nat} (h : k < (upto n).length) : (upto n)[k] = k := by simp [upto]
theorem mem_upto {n : Nat} {x : Int} : x ∈ upto n ↔ 0 ≤ x ∧ x < n := by
  unfold upto
  rw [List.mem_map]
  constructor
  · rintro ⟨k, hk, rfl⟩
    have := List.mem_range.1 hk
    omega
  · rintro ⟨h1, h2⟩
    exact ⟨x.toNat, List.mem_range.2 (by omega), by omega⟩
theorem nd_app {N M : List NL} {i : Nat} (h : i < N.length) : nd (N ++ M) i = nd N i := by
  rw [nd_at h, nd_at (by rw [List.length_append]; omega), List.getElem_append_left h]
theorem nd_last {N : List NL} {p : NL} : nd (N ++ [p]) N.length = p.2 := by
  rw [nd_at (by simp)]; simp
theorem Topo.app {N M : List NL} {l : List Int} (h : Topo N l) : Topo (N ++ M) l := by
  induction h with
  | nil => exact .nil
  | snoc l i h hi hn hx hg ih =>
    refine .snoc l i ih (by rw [List.length_append]; omega) hn (by rw [nd_app hi]; exact hx) fun k hk => ?_
    rw [nd_app (by omega)]
    exact hg k hk
theorem InR.mono {n m : Nat} {l : List Int} (h : InR n l) (hn : n ≤ m) : InR m l := fun k hk => by have := h k hk; omega
theorem upto_ok (n : Nat) : InR n (upto n) ∧ Inc (upto n) := by
  constructor
  · intro k hk
    rw [upto_at]; rw [upto_len] at hk; omega
  · intro k hk h0
    rw [upto_at, upto_at]; omega
theorem more_valid {N : List NL} (hN : ∀ p ∈ N, InR N.length p.2 ∧ Inc p.2) (hl : N.length ≤ 23) (b : Bool) : validF (N ++ [(b, upto N.length)]) = 0 := by
  refine validF_zero.2 ⟨by simp; omega, fun p hp => ?_⟩
  rw [List.length_append, List.length_singleton]
  rcases List.mem_append.1 hp with hp | hp
  · exact ⟨(hN p hp).1.mono (by omega), (hN p hp).2⟩
  · rw [List.mem_singleton.1 hp]
    exact ⟨(upto_ok _).1.mono (by omega), (upto_ok _).2⟩
theorem more_order {N : List NL} (hN : ∀ p ∈ N, InR N.length p.2 ∧ Inc p.2) (hl : N.length ≤ 23) (b : Bool) : (orderF (N ++ [(b, upto N.length)])).2 = (orderF N).2 ∧ ((orderF N).2 = true → (orderF (N ++ [(b, upto N.length)])).1 = (orderF N).1 ++ [(N.length : Int)]) := by
  have h0 : validF N = 0 := validF_zero.2 ⟨by omega, hN⟩
  have h1 := more_valid hN hl b
  rcases Bool.eq_false_or_eq_true (orderF N).2 with h | h
  · obtain ⟨h2, h3⟩ := order_topo h
    have h4 : Topo (N ++ [(b, upto N.length)]) ((orderF N).1 ++ [(N.length : Int)]) := by
      refine .snoc _ _ h2.app (by simp) (fun hm => ?_) (fun x hx => ?_) (fun k hk => .inl (h2.full h3 k hk))
      · have := h2.range _ hm; omega
      · rw [nd_last] at hx
        obtain ⟨g1, g2⟩ := mem_upto.1 hx
        have := h2.full h3 x.toNat (by omega)
        rwa [Int.toNat_of_nonneg g1] at this
    have h5 := order_eq h1 h4 (by simp; omega)
    rw [h5, h]
    exact ⟨rfl, fun _ => rfl⟩
  · refine ⟨?_, fun g => by rw [h] at g; cases g⟩
    rw [h]
    rcases Bool.eq_false_or_eq_true (orderF (N ++ [(b, upto N.length)])).2 with g | g
    · obtain ⟨r, hr⟩ := (ok_iff h1).1 g
      have : (orderF N).2 = true := (ok_iff h0).2 ⟨r, fun i hi x hx => hr i (by simp; omega) x (by rw [nd_app hi]; exact hx)⟩
      rw [h] at this; cases this
    · exact g
theorem less_valid {N : List NL} (hN : ∀ p ∈ N, InR N.length p.2 ∧ Inc p.2) (hl : N.length ≤ 24) {i : Nat} (hi : i < N.length) (b : Bool) : validF (N.set i (b, N[i].2.drop 1)) = 0 := by
  refine validF_zero.2 ⟨by simp; omega, fun p hp => ?_⟩
  rw [List.length_set]
  rcases List.mem_or_eq_of_mem_set hp with hp | rfl
  · exact hN p hp
  · obtain ⟨h1, h2⟩ := hN _ (List.getElem_mem hi)
    constructor
    · intro k hk
      rw [List.getElem_drop]
      exact h1 _ _
    · intro k hk h0
      rw [List.getElem_drop, List.getElem_drop]
      have := h2 (1 + k) (by simp at hk; omega) (by omega)
      simpa [show 1 + k - 1 = 1 + (k - 1) by omega] using this
theorem less_ok {N : List NL} (hN : ∀ p ∈ N, InR N.length p.2 ∧ Inc p.2) (hl : N.length ≤ 24) {i : Nat} (hi : i < N.length) (b : Bool) (h : (orderF N).2 = true) : (orderF (N.set i (b, N[i].2.drop 1))).2 = true := by
  obtain ⟨r, hr⟩ := (ok_iff (validF_zero.2 ⟨hl, hN⟩)).1 h
  refine (ok_iff (less_valid hN hl hi b)).2 ⟨r, fun j hj x hx => ?_⟩
  rw [List.length_set] at hj
  refine hr j hj x ?_
  rw [nd_at (by rw [List.length_set]; exact hj), List.getElem_set] at hx
  rw [nd_at hj]
  split at hx
  · rename_i e
    subst e
    exact List.mem_of_mem_drop hx
  · exact hx
end Go.Proofs.Ytiggomgmncaabaa
