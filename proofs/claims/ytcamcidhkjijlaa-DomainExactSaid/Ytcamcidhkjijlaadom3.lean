/- Power domains: paths to the top; what On, Counts and Depth answer. -/
import Derived.Test.Ytcamcidhkjijlaadom2
namespace Go.Proofs.Ytcamcidhkjijlaa
set_option linter.unusedSimpArgs false
set_option linter.unusedVariables false
set_option linter.unnecessarySimpa false
open Go.Abs
def path (l : List Dom) : Nat → Nat → List Nat
  | 0, _ => []
  | f + 1, x => x :: match l[x]? with
    | some d => if 0 ≤ d.parent then path l f d.parent.toNat else []
    | none => []
def pathOf (l : List Dom) (x : Nat) : List Nat := path l (x + 1) x
theorem path_fuel {l : List Dom} (ht : Tree l) : ∀ (f g x : Nat), x < f → x < g → path l f x = path l g x := by
  intro f
  induction f with
  | zero => intro g x h; omega
  | succ f ih =>
    intro g x hf hg
    obtain ⟨g, rfl⟩ : ∃ g', g = g' + 1 := ⟨g - 1, by omega⟩
    unfold path
    cases hx : l[x]? with
    | none => rfl
    | some d =>
      obtain ⟨hlt, rfl⟩ := List.getElem?_eq_some_iff.1 hx
      have := ht x hlt
      simp only
      split
      · rw [ih g _ (by omega) (by omega)]
      · rfl
theorem pathOf_eq {l : List Dom} (ht : Tree l) {x : Nat} (h : x < l.length) : pathOf l x = x :: if 0 ≤ l[x].parent then pathOf l l[x].parent.toNat else [] := by
  have := ht x h
  unfold pathOf
  conv => lhs; unfold path
  rw [List.getElem?_eq_getElem h]
  simp only
  split
  · rw [path_fuel ht x (l[x].parent.toNat + 1) _ (by omega) (by omega)]
  · rfl
theorem path_lt {l : List Dom} (ht : Tree l) : ∀ (f x y : Nat), y ∈ path l f x → y ≤ x := by
  intro f
  induction f with
  | zero => intro x y h; simp [path] at h
  | succ f ih =>
    intro x y h
    unfold path at h
    rcases List.mem_cons.1 h with rfl | h
    · exact Nat.le_refl _
    · split at h
      · rename_i d hx
        obtain ⟨hlt, rfl⟩ := List.getElem?_eq_some_iff.1 hx
        have := ht x hlt
        split at h
        · have := ih _ _ h; omega
        · simp at h
      · simp at h
theorem path_count {l : List Dom} (ht : Tree l) : ∀ (f x y : Nat), (path l f x).count y ≤ 1 := by
  intro f
  induction f with
  | zero => intro x y; simp [path]
  | succ f ih =>
    intro x y
    unfold path
    rw [List.count_cons]
    split
    · rename_i d hx
      obtain ⟨hlt, rfl⟩ := List.getElem?_eq_some_iff.1 hx
      have := ht x hlt
      split
      · split
        · rename_i hp he
          have he : x = y := by simpa using he
          subst he
          have : (path l f l[x].parent.toNat).count x = 0 := List.count_eq_zero.2 fun hm => by
            have := path_lt ht _ _ _ hm
            omega
          omega
        · have := ih l[x].parent.toNat y; omega
      · split <;> simp
    · split <;> simp
def needB (l : List Dom) (users : List Int) (x : Nat) : Bool := (match l[x]? with
  | some d => d.always
  | none => false) || users.contains (x : Int)
def onB (l : List Dom) (users : List Int) (i : Nat) : Bool := (List.range l.length).any fun x => (pathOf l x).contains i && needB l users x
def onL (l : List Dom) (users : List Int) : List Bool := (List.range l.length).map (onB l users)
theorem onB_true {l : List Dom} {users : List Int} {i : Nat} : onB l users i = true ↔ ∃ x, x < l.length ∧ i ∈ pathOf l x ∧ needB l users x = true := by
  simp [onB, List.any_eq_true]
/-- The last step of a path. -/
theorem path_last {l : List Dom} (ht : Tree l) {i : Nat} : ∀ (x : Nat), x < l.length → i ∈ pathOf l x → x = i ∨ ∃ (c : Nat) (h : c < l.length), l[c].parent = i ∧ c ∈ pathOf l x := by
  intro x
  induction x using Nat.strongRecOn with
  | _ x ih =>
    intro hx hi
    have hp := ht x hx
    rw [pathOf_eq ht hx] at hi
    rcases List.mem_cons.1 hi with rfl | hi
    · exact .inl rfl
    · split at hi
      · rename_i h0
        have h1 : l[x].parent.toNat < x := by omega
        rcases ih _ h1 (by omega) hi with h2 | ⟨c, hc, h2, h3⟩
        · exact .inr ⟨x, hx, by omega, by rw [pathOf_eq ht hx]; exact List.mem_cons_self ..⟩
        · refine .inr ⟨c, hc, h2, ?_⟩
          rw [pathOf_eq ht hx, if_pos h0]
          exact List.mem_cons_of_mem _ h3
      · simp at hi
theorem path_next {l : List Dom} (ht : Tree l) {c : Nat} (hc : c < l.length) (h0 : 0 ≤ l[c].parent) : ∀ (x : Nat), x < l.length → c ∈ pathOf l x → l[c].parent.toNat ∈ pathOf l x := by
  intro x
  induction x using Nat.strongRecOn with
  | _ x ih =>
    intro hx hi
    have hp := ht x hx
    rw [pathOf_eq ht hx] at hi ⊢
    rcases List.mem_cons.1 hi with rfl | hi
    · rw [if_pos h0]
      have h1 := ht c hc
      have h2 : l[c].parent.toNat < l.length := by omega
      refine List.mem_cons_of_mem _ ?_
      rw [pathOf_eq ht h2]
      exact List.mem_cons_self ..
    · split at hi
      · rename_i h1
        rw [if_pos h1]
        exact List.mem_cons_of_mem _ (ih _ (by omega) (by omega) hi)
      · simp at hi
theorem onB_iff {l : List Dom} (ht : Tree l) {users : List Int} {i : Nat} (hi : i < l.length) : onB l users i = true ↔ needB l users i = true ∨ ∃ (c : Nat) (h : c < l.length), l[c].parent = i ∧ onB l users c = true := by
  rw [onB_true]
  constructor
  · rintro ⟨x, hx, h1, h2⟩
    rcases path_last ht x hx h1 with rfl | ⟨c, hc, h3, h4⟩
    · exact .inl h2
    · exact .inr ⟨c, hc, h3, onB_true.2 ⟨x, hx, h4, h2⟩⟩
  · rintro (h | ⟨c, hc, h1, h2⟩)
    · exact ⟨i, hi, by rw [pathOf_eq ht hi]; exact List.mem_cons_self .., h⟩
    · obtain ⟨x, hx, h3, h4⟩ := onB_true.1 h2
      have := path_next ht hc (by omega) x hx h3
      rw [h1] at this
      exact ⟨x, hx, by simpa using this, h4⟩
/-- Where the search from below stands. -/
def stB (l : List Dom) (users : List Int) (c k : Nat) : Bool := if c ≤ k then onB l users k else (List.range l.length).any fun j => decide (c ≤ j) && (match l[j]? with
  | some d => decide (d.parent = k)
  | none => false) && onB l users j
def stL (l : List Dom) (users : List Int) (c : Nat) : List Bool := (List.range l.length).map (stB l users c)
theorem stB_low {l : List Dom} {users : List Int} {c k : Nat} (h : k < c) : stB l users c k = true ↔ ∃ (j : Nat) (h : j < l.length), c ≤ j ∧ l[j].parent = k ∧ onB l users j = true := by
  unfold stB
  rw [if_neg (by omega), List.any_eq_true]
  constructor
  · rintro ⟨j, hj, h1⟩
    have hj' := List.mem_range.1 hj
    simp only [List.getElem?_eq_getElem hj', Bool.and_eq_true, decide_eq_true_eq] at h1
    exact ⟨j, hj', h1.1.1, h1.1.2, h1.2⟩
  · rintro ⟨j, hj, h1, h2, h3⟩
    refine ⟨j, List.mem_range.2 hj, ?_⟩
    simp [List.getElem?_eq_getElem hj, h1, h2, h3]
theorem stL_length {l : List Dom} {users : List Int} {c : Nat} : (stL l users c).length = l.length := by simp [stL]
theorem stL_zero {l : List Dom} {users : List Int} : stL l users 0 = onL l users := by
  unfold stL onL
  refine List.map_congr_left fun k _ => ?_
  simp [stB]
theorem stL_top {l : List Dom} {users : List Int} : stL l users l.length = List.replicate l.length false := by
  refine List.ext_getElem (by simp [stL]) fun k h1 h2 => ?_
  have hk : k < l.length := by simpa using h2
  simp only [stL, List.getElem_map, List.getElem_range, List.getElem_replicate]
  rw [Bool.eq_false_iff]
  intro h
  obtain ⟨j, hj, h3, _⟩ := (stB_low hk).1 h
  omega
/-- The domain itself, when all below are known. -/
theorem stB_now {l : List Dom} (ht : Tree l) {users : List Int} {i : Nat} (hi : i < l.length) : (stB l users (i + 1) i || l[i].always || users.contains (i : Int)) = onB l users i := by
  rw [Bool.eq_iff_iff, onB_iff ht hi, Bool.or_assoc, Bool.or_eq_true, stB_low (Nat.lt_succ_self i)]
  have e : needB l users i = (l[i].always || users.contains (i : Int)) := by simp [needB, List.getElem?_eq_getElem hi]
  rw [e]
  constructor
  · rintro (⟨j, hj, _, h2, h3⟩ | h)
    · exact .inr ⟨j, hj, h2, h3⟩
    · exact .inl h
  · rintro (h | ⟨j, hj, h2, h3⟩)
    · exact .inr h
    · have := ht j hj
      exact .inl ⟨j, hj, by omega, h2, h3⟩
/-- A step without a parent, or of a domain that is off. -/
theorem stL_off {l : List Dom} {users : List Int} {i : Nat} (hi : i < l.length) (h : onB l users i = false ∨ l[i].parent < 0) : (stL l users (i + 1)).set i (onB l users i) = stL l users i := by
  refine List.ext_getElem (by simp [stL]) fun k h1 h2 => ?_
  have hk : k < l.length := by simpa [stL] using h2
  rw [List.getElem_set]
  simp only [stL, List.getElem_map, List.getElem_range]
  split
  · rename_i he; subst he; simp [stB]
  · rename_i he
    rcases Nat.lt_or_ge k i with hki | hki
    · rw [Bool.eq_iff_iff, stB_low (by omega), stB_low hki]
      constructor
      · rintro ⟨j, hj, h3, h4, h5⟩; exact ⟨j, hj, by omega, h4, h5⟩
      · rintro ⟨j, hj, h3, h4, h5⟩
        refine ⟨j, hj, ?_, h4, h5⟩
        rcases Nat.lt_or_ge i j with h6 | h6
        · exact h6
        · obtain rfl : j = i := by omega
          rcases h with h | h
          · rw [h] at h5; cases h5
          · omega
    · simp [stB, show i + 1 ≤ k by omega, hki]
theorem stL_on {l : List Dom} (ht : Tree l) {users : List Int} {i : Nat} (hi : i < l.length) (h : onB l users i = true) (h0 : 0 ≤ l[i].parent) : ((stL l users (i + 1)).set i (onB l users i)).set l[i].parent.toNat true = stL l users i := by
  have hp := ht i hi
  refine List.ext_getElem (by simp [stL]) fun k h1 h2 => ?_
  have hk : k < l.length := by simpa [stL] using h2
  rw [List.getElem_set, List.getElem_set]
  simp only [stL, List.getElem_map, List.getElem_range]
  split
  · rename_i he
    symm
    rw [stB_low (by omega)]
    exact ⟨i, hi, Nat.le_refl _, by omega, h⟩
  · rename_i hne
    split
    · rename_i he; subst he; simp [stB]
    · rename_i he
      rcases Nat.lt_or_ge k i with hki | hki
      · rw [Bool.eq_iff_iff, stB_low (by omega), stB_low hki]
        constructor
        · rintro ⟨j, hj, h3, h4, h5⟩; exact ⟨j, hj, by omega, h4, h5⟩
        · rintro ⟨j, hj, h3, h4, h5⟩
          refine ⟨j, hj, ?_, h4, h5⟩
          rcases Nat.lt_or_ge i j with h6 | h6
          · exact h6
          · obtain rfl : j = i := by omega
            omega
      · simp [stB, show i + 1 ≤ k by omega, hki]
end Go.Proofs.Ytcamcidhkjijlaa
