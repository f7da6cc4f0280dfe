/- Suspend: steps there and back, on a state; what stays whole. -/
import Derived.Test.YtdicjhnhbdanlaasusB
namespace Go.Proofs.Ytdicjhnhbdanlaa
set_option linter.unusedSimpArgs false
set_option linter.unusedVariables false
set_option linter.unnecessarySimpa false
open Go.Abs
/-- A state with some items set. -/
def setAll (s : List Bool) (l : List Int) (b : Bool) : List Bool := l.foldl (fun s x => s.set x.toNat b) s
theorem setAll_len (l : List Int) (b : Bool) : ∀ s, (setAll s l b).length = s.length := by
  induction l with
  | nil => intro s; rfl
  | cons x r ih => intro s; show (setAll (s.set x.toNat b) r b).length = _; rw [ih]; simp
theorem setAll_snoc {s : List Bool} {l : List Int} {x : Int} {b : Bool} : setAll s (l ++ [x]) b = (setAll s l b).set x.toNat b := by simp [setAll, List.foldl_append]
theorem setAll_take {s : List Bool} {l : List Int} {k : Nat} {b : Bool} (h : k < l.length) : setAll s (l.take (k + 1)) b = (setAll s (l.take k) b).set l[k].toNat b := by
  rw [List.take_succ_eq_append_getElem h, setAll_snoc]
theorem setAll_at : ∀ (l : List Int) (s : List Bool) (b : Bool) (i : Nat), i < s.length → (∀ x ∈ l, 0 ≤ x) → (setAll s l b).getD i false = if (i : Int) ∈ l then b else s.getD i false := by
  intro l
  induction l with
  | nil => intro s b i _ _; simp [setAll]
  | cons x r ih =>
    intro s b i hi hx
    have h0 := hx x (List.mem_cons_self ..)
    show (setAll (s.set x.toNat b) r b).getD i false = _
    rw [ih (s.set x.toNat b) b i (by simpa using hi) fun y hy => hx y (List.mem_cons_of_mem _ hy)]
    by_cases h1 : (i : Int) ∈ r
    · rw [if_pos h1, if_pos (List.mem_cons_of_mem _ h1)]
    · rw [if_neg h1]
      by_cases h2 : (i : Int) = x
      · subst h2
        rw [if_pos (List.mem_cons_self ..), Int.toNat_natCast, List.getD_eq_getElem?_getD, List.getElem?_set_self hi]; rfl
      · rw [if_neg (fun h => by rcases List.mem_cons.1 h with h3 | h3; exact h2 h3; exact h1 h3), List.getD_eq_getElem?_getD, List.getElem?_set_ne (by omega), ← List.getD_eq_getElem?_getD]
/-- Items that can be set one after the other, each state whole. -/
structure Way (N : List NL) (s : List Bool) (l : List Int) (b : Bool) : Prop where
  nd : l.Nodup
  rng : ∀ x ∈ l, 0 ≤ x ∧ x < (N.length : Int)
  len : s.length = N.length
  off : ∀ x ∈ l, s.getD x.toNat false = !b
  whl : ∀ k, k ≤ l.length → wholeF N (setAll s (l.take k) b) = true
theorem Way.not_mem {N : List NL} {s : List Bool} {l : List Int} {b : Bool} (h : Way N s l b) {k : Nat} (hk : k < l.length) : l[k] ∉ l.take k := by
  intro hm
  obtain ⟨j, hj, e⟩ := List.getElem_of_mem hm
  rw [List.length_take] at hj
  rw [List.getElem_take] at e
  exact List.pairwise_iff_getElem.1 h.nd j k (by omega) hk (by omega) e
theorem Way.at_ {N : List NL} {s : List Bool} {l : List Int} {b : Bool} (h : Way N s l b) {k : Nat} (hk : k < l.length) : (setAll s (l.take k) b).getD l[k].toNat false = !b := by
  have hr := h.rng _ (List.getElem_mem hk)
  rw [setAll_at _ _ _ _ (by rw [h.len]; omega) fun x hx => (h.rng x (List.mem_of_mem_take hx)).1, Int.toNat_of_nonneg hr.1, if_neg (h.not_mem hk)]
  exact h.off _ (List.getElem_mem hk)
theorem Way.there {N : List NL} {s : List Bool} {l : List Int} {b : Bool} (h : Way N s l b) (rest : List Sp) : ∀ (d k : Nat) (n : Int), k + d = l.length → ∀ m, k ≤ m → m ≤ l.length →
    repG N (go b ((l.take m).drop k) ++ rest) (setAll s (l.take k) b) n = repG N rest (setAll s (l.take m) b) (n + (m - k : Nat)) := by
  intro d
  induction d with
  | zero =>
    intro k n hd m h1 h2
    have : k = m := by omega
    subst this
    rw [List.drop_eq_nil_of_le (by rw [List.length_take]; omega)]
    simp [go]
  | succ d ih =>
    intro k n hd m h1 h2
    rcases Nat.eq_or_lt_of_le h1 with h3 | h3
    · subst h3
      rw [List.drop_eq_nil_of_le (by rw [List.length_take]; omega)]
      simp [go]
    · have hk : k < l.length := by omega
      have hkm : k < (l.take m).length := by rw [List.length_take]; omega
      have hr := h.rng _ (List.getElem_mem hk)
      rw [List.drop_eq_getElem_cons hkm, List.getElem_take]
      show repG N (⟨l[k], b⟩ :: (go b ((l.take m).drop (k + 1)) ++ rest)) _ _ = _
      have hw := h.whl (k + 1) (by omega)
      rw [setAll_take hk] at hw
      rw [repG, if_neg (by show ¬ (l[k] < 0 ∨ _ ≤ l[k]); omega), if_neg (by rw [h.at_ hk]; cases b <;> simp), if_pos hw, ← setAll_take hk, ih (k + 1) (n + 1) (by omega) m (by omega) h2]
      congr 1
      omega
theorem Way.back {N : List NL} {s : List Bool} {l : List Int} {b : Bool} (h : Way N s l b) (rest : List Sp) : ∀ (k : Nat) (n : Int), k ≤ l.length →
    repG N (go (!b) (l.take k).reverse ++ rest) (setAll s (l.take k) b) n = repG N rest s (n + k) := by
  intro k
  induction k with
  | zero => intro n _; simp [go, setAll]
  | succ k ih =>
    intro n hk
    have hkl : k < l.length := by omega
    have hr := h.rng _ (List.getElem_mem hkl)
    have ha := h.at_ hkl
    have hlen : (setAll s (l.take k) b).length = N.length := by rw [setAll_len, h.len]
    have e : (setAll s (l.take (k + 1)) b).set l[k].toNat (!b) = setAll s (l.take k) b := by
      rw [setAll_take hkl, List.set_set]
      have : (setAll s (l.take k) b)[l[k].toNat]'(by omega) = !b := by rw [← ha, getD_at]
      rw [← this, List.set_getElem_self]
    have e2 : (setAll s (l.take (k + 1)) b).getD l[k].toNat false = b := by
      rw [setAll_take hkl, List.getD_eq_getElem?_getD, List.getElem?_set_self (by omega)]; rfl
    rw [List.take_succ_eq_append_getElem hkl, List.reverse_append]
    show repG N (⟨l[k], !b⟩ :: (go (!b) (l.take k).reverse ++ rest)) _ _ = _
    rw [← List.take_succ_eq_append_getElem hkl, repG, if_neg (by show ¬ (l[k] < 0 ∨ _ ≤ l[k]); omega), if_neg (by rw [e2]; cases b <;> simp)]
    show (if wholeF N ((setAll s (l.take (k + 1)) b).set l[k].toNat (!b)) = true then _ else _) = _
    rw [e, if_pos (h.whl k (by omega)), ih (n + 1) (by omega)]
    congr 1
    omega
end Go.Proofs.Ytdicjhnhbdanlaa
