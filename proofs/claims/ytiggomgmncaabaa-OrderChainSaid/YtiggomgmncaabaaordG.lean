/- Orders: circles, what the functions do. -/
import Derived.Test.YtiggomgmncaabaaordF
namespace Go.Proofs.Ytiggomgmncaabaa
set_option linter.unusedSimpArgs false
set_option linter.unusedVariables false
set_option linter.unnecessarySimpa false
open Go.Abs
set_option maxRecDepth 100000
/-- One need of the first item is looked at: the size of the least circle so far. -/
def szS (N : List NL) (a : Nat) (s x : Int) : Int := if (a : Int) ≤ x ∧ 0 ≤ distF N a a x.toNat ∧ (s = 0 ∨ distF N a a x.toNat + 1 < s) then distF N a a x.toNat + 1 else s
def sizeF (N : List NL) (a : Nat) : Int := (nd N a).foldl (szS N a) 0
def hitB (N : List NL) (a : Nat) (d x : Int) : Bool := decide ((a : Int) < x) && (distF N a a x.toNat == d)
def nextX (N : List NL) (a at_ : Nat) (d : Int) : Nat := (((nd N at_).find? (hitB N a d)).getD 0).toNat
def pathG (N : List NL) (a : Nat) (s : Int) : Nat → Nat → List Int → List Int
  | 0, _, best => best
  | f + 1, at_, best => pathG N a s f (nextX N a at_ (s - best.length)) (best ++ [((nextX N a at_ (s - best.length) : Nat) : Int)])
def pathF (N : List NL) (a : Nat) (s : Int) : List Int := pathG N a s (s.toNat - 1) a [(a : Int)]
def cirS (N : List NL) (best : List Int) (a : Nat) : List Int := if sizeF N a = 0 ∨ (best ≠ [] ∧ (best.length : Int) ≤ sizeF N a) then best else pathF N a (sizeF N a)
/-- The circle that is found. -/
def circleF (N : List NL) : List Int := if validF N ≠ 0 then [] else (List.range N.length).foldl (cirS N) []
def Found (N : List NL) (a at_ : Nat) (d : Int) : Prop := ∃ x ∈ nd N at_, hitB N a d x = true
section
variable {N : List NL} {a : Nat}
theorem sz_spec : ∀ (l : List Int) (s : Int), 0 ≤ s → 0 ≤ l.foldl (szS N a) s ∧ (l.foldl (szS N a) s = 0 → s = 0 ∧ ∀ x ∈ l, (a : Int) ≤ x → distF N a a x.toNat < 0) ∧ (0 < l.foldl (szS N a) s → (l.foldl (szS N a) s = s ∨ ∃ x ∈ l, (a : Int) ≤ x ∧ distF N a a x.toNat + 1 = l.foldl (szS N a) s) ∧ (0 < s → l.foldl (szS N a) s ≤ s) ∧ ∀ x ∈ l, (a : Int) ≤ x → 0 ≤ distF N a a x.toNat → l.foldl (szS N a) s ≤ distF N a a x.toNat + 1)
  | [], s, hs => by simp; exact hs
  | x :: l, s, hs => by
    rw [List.foldl_cons]
    have h0 : 0 ≤ szS N a s x := by unfold szS; split <;> omega
    obtain ⟨h1, h2, h3⟩ := sz_spec l (szS N a s x) h0
    refine ⟨h1, fun h => ?_, fun h => ?_⟩
    · obtain ⟨h4, h5⟩ := h2 h
      unfold szS at h4
      split at h4
      · omega
      · rename_i hc
        refine ⟨h4, fun y hy hay => ?_⟩
        rcases List.mem_cons.1 hy with rfl | hy
        · rcases Int.lt_or_le (distF N a a y.toNat) 0 with h6 | h6
          · exact h6
          · exact absurd ⟨hay, h6, .inl h4⟩ hc
        · exact h5 y hy hay
    · obtain ⟨h4, h5, h6⟩ := h3 h
      have key : szS N a s x = s ∨ ((a : Int) ≤ x ∧ distF N a a x.toNat + 1 = szS N a s x ∧ 0 < szS N a s x ∧ (s = 0 ∨ szS N a s x < s)) := by
        unfold szS
        split
        · rename_i hc
          exact .inr ⟨hc.1, rfl, by omega, hc.2.2⟩
        · exact .inl rfl
      have hx : (a : Int) ≤ x → 0 ≤ distF N a a x.toNat → szS N a s x ≤ distF N a a x.toNat + 1 ∧ 0 < szS N a s x := by
        intro g1 g2
        unfold szS
        split
        · omega
        · rename_i hc
          have : ¬ (s = 0 ∨ distF N a a x.toNat + 1 < s) := fun g => hc ⟨g1, g2, g⟩
          omega
      refine ⟨?_, fun g => ?_, fun y hy g1 g2 => ?_⟩
      · rcases h4 with h4 | ⟨y, hy, h4⟩
        · rcases key with k | ⟨k1, k2, _, _⟩
          · left; omega
          · exact .inr ⟨x, List.mem_cons_self .., k1, by omega⟩
        · exact .inr ⟨y, List.mem_cons_of_mem _ hy, h4⟩
      · rcases key with k | ⟨_, _, k0, k⟩
        · have := h5 (by omega); omega
        · rcases Int.lt_or_le 0 (szS N a s x) with h7 | h7
          · have := h5 h7; omega
          · omega
      · rcases List.mem_cons.1 hy with rfl | hy
        · obtain ⟨g3, g4⟩ := hx g1 g2
          have := h5 g4; omega
        · exact h6 y hy g1 g2
theorem hit_iff {d x : Int} : hitB N a d x = true ↔ (a : Int) < x ∧ distF N a a x.toNat = d := by
  unfold hitB
  rw [Bool.and_eq_true, decide_eq_true_iff, beq_iff_eq]
theorem dist_self (ha : a < N.length) : Dist N a a 0 a := ⟨.nil a (Nat.le_refl _) ha, fun k hk => by omega⟩
/-- The least circle through an item has a first step. -/
theorem size_found (ha : a < N.length) (h : 1 < sizeF N a) : Found N a a (sizeF N a - 1) := by
  obtain ⟨_, _, h3⟩ := sz_spec (N := N) (a := a) (nd N a) 0 (Int.le_refl _)
  obtain ⟨h4, _, _⟩ := h3 (show 0 < sizeF N a by omega)
  rcases h4 with h4 | ⟨x, hx, h5, h6⟩
  · have : sizeF N a = 0 := h4
    omega
  · have h6 : distF N a a x.toNat + 1 = sizeF N a := h6
    refine ⟨x, hx, hit_iff.2 ⟨?_, by omega⟩⟩
    rcases Int.lt_or_eq_of_le h5 with h7 | h7
    · exact h7
    · exfalso
      have e : x.toNat = a := by omega
      rw [e, distF_of (dist_self ha)] at h6
      omega
theorem found_next (ha : a < N.length) {x d : Int} (hx : hitB N a d x = true) (hd : 2 ≤ d) : Found N a x.toNat (d - 1) := by
  obtain ⟨h1, h2⟩ := hit_iff.1 hx
  obtain ⟨e, rfl⟩ : ∃ e : Nat, d = ((e + 1 : Nat) : Int) := ⟨(d - 1).toNat, by omega⟩
  have hD := (distF_iff (e + 1)).1 h2
  obtain ⟨y, hy, hDy⟩ := hD.next
  refine ⟨(y : Int), hy, hit_iff.2 ⟨?_, ?_⟩⟩
  · have hs := hDy.1.start
    rcases Nat.lt_or_eq_of_le hs.1 with h | h
    · omega
    · subst h
      have := hDy.uniq (dist_self ha)
      omega
  · rw [Int.toNat_natCast, distF_of hDy]; omega
theorem size_lt (hn : N.length ≤ 24) (ha : a < N.length) : 0 ≤ sizeF N a ∧ sizeF N a ≤ 24 := by
  obtain ⟨h1, _, h3⟩ := sz_spec (N := N) (a := a) (nd N a) 0 (Int.le_refl _)
  refine ⟨h1, ?_⟩
  rcases Int.lt_or_le 0 (sizeF N a) with h | h
  · obtain ⟨h4, _⟩ := h3 h
    rcases h4 with h4 | ⟨x, _, _, h6⟩
    · have : sizeF N a = 0 := h4
      omega
    · have h6 : distF N a a x.toNat + 1 = sizeF N a := h6
      have := distF_lt N a a x.toNat
      omega
  · omega
end
theorem find_first {p : Int → Bool} {l : List Int} {k : Nat} (hk : k < l.length) (h1 : p l[k] = true) (h2 : ∀ (j : Nat) (h : j < l.length), j < k → p l[j] = false) : l.find? p = some l[k] := by
  rw [List.find?_eq_some_iff_getElem]
  exact ⟨h1, k, hk, rfl, fun j hj => by rw [h2 j (by omega) hj]; rfl⟩
theorem farL_len (N : List NL) (t : Nat) : (farL N t).length = N.length := by simp [farL]
theorem farL_at {N : List NL} {t k : Nat} (h : k < (farL N t).length) : (farL N t)[k] = distF N t t k := by simp [farL]
end Go.Proofs.Ytiggomgmncaabaa
