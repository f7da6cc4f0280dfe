/- Reset lines: what is valid, what is closed, what is needed: plain theory. -/
import Derived.Test.Ytnafamlphnnmhaawr
namespace Go.Proofs.Ytnafamlphnnmhaa
set_option linter.unusedSimpArgs false
set_option linter.unusedVariables false
set_option linter.unnecessarySimpa false
open Go.Abs
set_option maxRecDepth 100000
structure Rst where
  nl : Bool
  after : List Int
def Rst.pv (r : Rst) : PV := .agg [.list r.nl (r.after.map pI)]
/-- The first number that is not 0 among the first n. -/
def firstE (f : Nat → Int) : Nat → Int
  | 0 => 0
  | n + 1 => if firstE f n ≠ 0 then firstE f n else f n
theorem firstE_stop {f : Nat → Int} {c : Nat} (h : firstE f c = 0) (hf : f c ≠ 0) : ∀ n, c < n → firstE f n = f c
  | n + 1, hn => by
    unfold firstE
    rcases Nat.lt_or_ge c n with h1 | h1
    · rw [firstE_stop h hf n h1, if_pos hf]
    · obtain rfl : c = n := by omega
      rw [if_neg (by simpa using h)]
theorem firstE_next {f : Nat → Int} {c : Nat} (h : firstE f c = 0) (hf : f c = 0) : firstE f (c + 1) = 0 := by
  unfold firstE
  rw [if_neg (by simpa using h), hf]
theorem firstE_zero {f : Nat → Int} : ∀ {n : Nat}, firstE f n = 0 ↔ ∀ k, k < n → f k = 0
  | 0 => by simp [firstE]
  | n + 1 => by
    unfold firstE
    split
    · rename_i h
      constructor
      · intro h1; exact absurd h1 h
      · intro h1; exact absurd (firstE_zero.2 fun k hk => h1 k (by omega)) h
    · rename_i h
      have h' : firstE f n = 0 := by omega
      constructor
      · intro h1 k hk
        rcases Nat.lt_or_ge k n with h2 | h2
        · exact firstE_zero.1 h' k h2
        · obtain rfl : k = n := by omega
          exact h1
      · intro h1; exact h1 n (by omega)
def Rng (ax : List Int) (i : Nat) : Prop := ∀ (k : Nat) (h : k < ax.length), 0 ≤ ax[k] ∧ ax[k] < i
def Ord (ax : List Int) : Prop := ∀ (k : Nat) (h : k < ax.length), 0 < k → ax[k - 1] < ax[k]
instance (ax : List Int) (i : Nat) : Decidable (Rng ax i) := by unfold Rng; infer_instance
instance (ax : List Int) : Decidable (Ord ax) := by unfold Ord; infer_instance
def rstE (l : List Rst) (i : Nat) : Int := match l[i]? with
  | some r => if ¬ Rng r.after i then 2 else if ¬ Ord r.after then 12 else 0
  | none => 0
theorem rstE_at {l : List Rst} {i : Nat} (h : i < l.length) : rstE l i = if ¬ Rng l[i].after i then 2 else if ¬ Ord l[i].after then 12 else 0 := by
  unfold rstE; simp [h]
def rstOk (l : List Rst) : Int := if 32 < l.length then 3 else firstE (rstE l) l.length
/-- Each line comes behind those that it wants. -/
def Down (l : List Rst) : Prop := ∀ (i : Nat) (h : i < l.length), ∀ a ∈ l[i].after, 0 ≤ a ∧ a < i
theorem rstOk_zero {l : List Rst} (h : rstOk l = 0) : l.length ≤ 32 ∧ Down l ∧ ∀ (i : Nat) (h : i < l.length), Rng l[i].after i ∧ Ord l[i].after := by
  unfold rstOk at h
  split at h
  · omega
  · have h1 := firstE_zero.1 h
    have h2 : ∀ (i : Nat) (h : i < l.length), Rng l[i].after i ∧ Ord l[i].after := fun i hi => by
      have h3 := h1 i hi
      rw [rstE_at hi] at h3
      split at h3
      · omega
      · rename_i h4
        split at h3
        · omega
        · rename_i h5
          exact ⟨Classical.not_not.1 h4, Classical.not_not.1 h5⟩
    refine ⟨by omega, fun i hi a ha => ?_, h2⟩
    obtain ⟨k, hk, rfl⟩ := List.getElem_of_mem ha
    exact (h2 i hi).1 k hk
/-- A closed state. -/
def Clo (l : List Rst) (st : List Bool) : Prop := st.length = l.length ∧ ∀ (i : Nat) (h : i < l.length), st.getD i false = true → ∀ (k : Nat) (hk : k < l[i].after.length), st.getD l[i].after[k].toNat false = true
instance (l : List Rst) (st : List Bool) : Decidable (Clo l st) := by unfold Clo; infer_instance
/-- From i down to j, by lines from n on. -/
inductive Rch (l : List Rst) (n : Nat) : Nat → Nat → Prop
  | refl (i : Nat) : Rch l n i i
  | tail {i k j : Nat} (h : Rch l n i k) (hn : n ≤ k) (hk : k < l.length) (hj : (j : Int) ∈ l[k].after) : Rch l n i j
section
variable {l : List Rst} {n : Nat}
theorem Rch.mono {m i j : Nat} (h : Rch l n i j) (hm : m ≤ n) : Rch l m i j := by
  induction h with
  | refl => exact .refl _
  | tail h hn hk hj ih => exact .tail ih (by omega) hk hj
theorem Rch.le (hd : Down l) {i j : Nat} (h : Rch l n i j) : j ≤ i := by
  induction h with
  | refl => exact Nat.le_refl _
  | tail h hn hk hj ih => have := hd _ hk _ hj; omega
theorem Rch.up (hd : Down l) {i j : Nat} (h : Rch l n i j) (hj : n ≤ j) : Rch l (n + 1) i j := by
  induction h with
  | refl => exact .refl _
  | tail h hn hk hj2 ih =>
    have := hd _ hk _ hj2
    exact .tail (ih (by omega)) (by omega) hk hj2
theorem Rch.last (hd : Down l) {i j : Nat} (hn : n < l.length) : Rch l n i j ↔ Rch l (n + 1) i j ∨ (Rch l (n + 1) i n ∧ (j : Int) ∈ l[n].after) := by
  constructor
  · intro h
    cases h with
    | refl => exact .inl (.refl _)
    | @tail k j h hnk hk hj =>
      rcases Nat.lt_or_ge n k with h1 | h1
      · have := hd _ hk _ hj
        exact .inl (.tail (h.up hd (by omega)) (by omega) hk hj)
      · obtain rfl : k = n := by omega
        exact .inr ⟨h.up hd (Nat.le_refl _), hj⟩
  · rintro (h | ⟨h, hj⟩)
    · exact h.mono (by omega)
    · exact .tail (h.mono (by omega)) (Nat.le_refl _) hn hj
theorem Rch.trans {i k j : Nat} (h : Rch l n i k) (h2 : Rch l n k j) : Rch l n i j := by
  induction h2 with
  | refl => exact h
  | tail h2 hn hk hj ih => exact .tail ih hn hk hj
/-- The first step. -/
theorem Rch.head {i j : Nat} (h : Rch l n i j) : i = j ∨ ∃ (a : Nat) (hi : i < l.length), n ≤ i ∧ (a : Int) ∈ l[i].after ∧ Rch l n a j := by
  induction h with
  | refl => exact .inl rfl
  | @tail k j h hn hk hj ih =>
    rcases ih with rfl | ⟨a, hi, h1, h2, h3⟩
    · exact .inr ⟨j, hk, hn, hj, .refl _⟩
    · exact .inr ⟨a, hi, h1, h2, .tail h3 hn hk hj⟩
theorem Rch.cons {i a j : Nat} (hi : i < l.length) (hn : n ≤ i) (ha : (a : Int) ∈ l[i].after) (h : Rch l n a j) : Rch l n i j :=
  (Rch.tail (.refl i) hn hi ha).trans h
end
/-- Marks. -/
def mark (ax : List Int) (s : List Bool) : List Bool := ax.foldl (fun s a => s.set a.toNat true) s
theorem mark_len (ax : List Int) : ∀ s : List Bool, (mark ax s).length = s.length := by
  induction ax with
  | nil => intro s; rfl
  | cons a ax ih => intro s; show (mark ax (s.set a.toNat true)).length = _; rw [ih]; simp
theorem mark_at (ax : List Int) : ∀ (s : List Bool) (j : Nat), j < s.length → ((mark ax s).getD j false = true ↔ s.getD j false = true ∨ ∃ a ∈ ax, a.toNat = j) := by
  induction ax with
  | nil => intro s j hj; simp [mark]
  | cons a ax ih =>
    intro s j hj
    show (mark ax (s.set a.toNat true)).getD j false = true ↔ _
    rw [ih _ _ (by simpa using hj)]
    by_cases h : a.toNat = j
    · simp [List.getD_eq_getElem?_getD, h, hj]
    · simp [List.getD_eq_getElem?_getD, List.getElem?_set, h]
def needS (l : List Rst) (i : Nat) (s : List Bool) : List Bool := if s.getD i false = true then mark ((l[i]?.map (·.after)).getD []) s else s
def needG (l : List Rst) : Nat → List Bool → List Bool
  | 0, s => s
  | n + 1, s => needG l n (needS l n s)
def needL (l : List Rst) (lines : List Int) : List Bool := needG l l.length (mark lines (List.replicate l.length false))
theorem needS_len (l : List Rst) (i : Nat) (s : List Bool) : (needS l i s).length = s.length := by
  unfold needS; split
  · rw [mark_len]
  · rfl
theorem needG_len (l : List Rst) : ∀ (n : Nat) (s : List Bool), (needG l n s).length = s.length
  | 0, _ => rfl
  | n + 1, s => by rw [needG, needG_len l n, needS_len]
theorem needG_spec {l : List Rst} (hd : Down l) {from_ : Nat → Prop} : ∀ (n : Nat) (s : List Bool), n ≤ l.length → s.length = l.length → (∀ j, j < l.length → (s.getD j false = true ↔ ∃ i, from_ i ∧ Rch l n i j)) →
    ∀ j, j < l.length → ((needG l n s).getD j false = true ↔ ∃ i, from_ i ∧ Rch l 0 i j)
  | 0, s, _, _, h => h
  | n + 1, s, hn, hl, h => by
    refine needG_spec hd n (needS l n s) (by omega) (by rw [needS_len, hl]) fun j hj => ?_
    have ea : (l[n]?.map (·.after)).getD [] = (l[n]'(by omega)).after := by simp [show n < l.length by omega]
    unfold needS
    rw [ea]
    have hlast := fun i => Rch.last hd (i := i) (j := j) (show n < l.length by omega)
    split
    · rename_i hs
      obtain ⟨i0, hi0, hr0⟩ := (h n (by omega)).1 hs
      rw [mark_at _ _ _ (by omega), h j hj]
      constructor
      · rintro (⟨i, hi, hr⟩ | ⟨a, ha, he⟩)
        · exact ⟨i, hi, (hlast i).2 (.inl hr)⟩
        · have := hd n (by omega) a ha
          exact ⟨i0, hi0, (hlast i0).2 (.inr ⟨hr0, by rw [show (j : Int) = a by omega]; exact ha⟩)⟩
      · rintro ⟨i, hi, hr⟩
        rcases (hlast i).1 hr with h1 | ⟨_, h2⟩
        · exact .inl ⟨i, hi, h1⟩
        · exact .inr ⟨_, h2, by omega⟩
    · rename_i hs
      rw [h j hj]
      constructor
      · rintro ⟨i, hi, hr⟩
        exact ⟨i, hi, (hlast i).2 (.inl hr)⟩
      · rintro ⟨i, hi, hr⟩
        rcases (hlast i).1 hr with h1 | ⟨h2, _⟩
        · exact ⟨i, hi, h1⟩
        · exact absurd ((h n (by omega)).2 ⟨i, hi, h2⟩) hs
/-- What is needed. -/
theorem needL_spec {l : List Rst} (hd : Down l) {lines : List Int} (hr : ∀ x ∈ lines, 0 ≤ x ∧ x < l.length) : (needL l lines).length = l.length ∧ ∀ j, j < l.length → ((needL l lines).getD j false = true ↔ ∃ i : Nat, (i : Int) ∈ lines ∧ Rch l 0 i j) := by
  refine ⟨by unfold needL; rw [needG_len, mark_len]; simp, fun j hj => ?_⟩
  unfold needL
  refine needG_spec hd (from_ := fun i => (i : Int) ∈ lines) _ _ (Nat.le_refl _) (by rw [mark_len]; simp) (fun j hj => ?_) j hj
  rw [mark_at _ _ _ (by simpa using hj)]
  constructor
  · rintro (h | ⟨a, ha, he⟩)
    · simp [List.getD_eq_getElem?_getD, List.getElem?_replicate, hj] at h
    · have := hr a ha
      exact ⟨j, by rw [show (j : Int) = a by omega]; exact ha, .refl _⟩
  · rintro ⟨i, hi, h⟩
    cases h with
    | refl => exact .inr ⟨_, hi, by omega⟩
    | tail h hn hk hj2 => omega
end Go.Proofs.Ytnafamlphnnmhaa
