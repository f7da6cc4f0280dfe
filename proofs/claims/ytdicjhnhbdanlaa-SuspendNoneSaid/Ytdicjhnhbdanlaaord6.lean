/- Orders: what is reached, plain theory. -/
import Derived.Test.Ytdicjhnhbdanlaaord5
namespace Go.Proofs.Ytdicjhnhbdanlaa
set_option linter.unusedSimpArgs false
set_option linter.unusedVariables false
set_option linter.unnecessarySimpa false
open Go.Abs
set_option maxRecDepth 100000
/-- One item leads to another one: down, to what it needs; up, to what needs it. -/
def edge (N : List NL) (down : Bool) (i k : Nat) : Bool := if down then (nd N i).contains (k : Int) else (nd N k).contains (i : Int)
inductive Reach (N : List NL) (down : Bool) (items : List Int) : Nat → Prop
  | base (k : Nat) (h : (k : Int) ∈ items) : Reach N down items k
  | step (i k : Nat) (h : Reach N down items i) (hi : i < N.length) (hk : k < N.length) (e : edge N down i k = true) : Reach N down items k
def isIn (ds : List Bool) (i : Nat) : Bool := ds.getD i false
structure Sound (N : List NL) (down : Bool) (items : List Int) (ds : List Bool) : Prop where
  len : ds.length = N.length
  sound : ∀ k, isIn ds k = true → Reach N down items k
  has : ∀ k : Nat, k < N.length → (k : Int) ∈ items → isIn ds k = true
def ClosedE (N : List NL) (down : Bool) (ds : List Bool) : Prop := ∀ i k, i < N.length → k < N.length → isIn ds i = true → edge N down i k = true → isIn ds k = true
def cnt (ds : List Bool) : Nat := ds.count true
theorem isIn_set {ds : List Bool} {i : Nat} {b : Bool} (h : i < ds.length) (k : Nat) : isIn (ds.set i b) k = if i = k then b else isIn ds k := by
  unfold isIn
  simp only [List.getD_eq_getElem?_getD, List.getElem?_set]
  by_cases hik : i = k
  · subst hik
    rw [if_pos rfl, if_pos rfl, if_pos h]; rfl
  · rw [if_neg hik, if_neg hik]
theorem isIn_lt {ds : List Bool} {k : Nat} (h : isIn ds k = true) : k < ds.length := by
  unfold isIn at h
  rcases Nat.lt_or_ge k ds.length with h1 | h1
  · exact h1
  · rw [List.getD_eq_getElem?_getD, List.getElem?_eq_none h1] at h; cases h
theorem isIn_at {ds : List Bool} {k : Nat} (h : k < ds.length) : isIn ds k = ds[k] := getD_at h
theorem cnt_mono : ∀ {a b : List Bool}, a.length = b.length → (∀ k, isIn a k = true → isIn b k = true) → cnt a ≤ cnt b
  | [], [], _, _ => Nat.le_refl _
  | x :: a, y :: b, hl, h => by
    have ih := cnt_mono (a := a) (b := b) (by simpa using hl) fun k hk => h (k + 1) hk
    have h0 := h 0
    unfold cnt at ih ⊢
    simp only [List.count_cons]
    cases x <;> cases y
    · simpa using ih
    · simp; omega
    · exact absurd (h0 rfl) (by simp [isIn])
    · simpa using ih
theorem cnt_lt : ∀ {a b : List Bool}, a.length = b.length → (∀ k, isIn a k = true → isIn b k = true) → (∃ k, isIn a k = false ∧ isIn b k = true) → cnt a < cnt b
  | [], [], _, _, ⟨k, h1, h2⟩ => by have := isIn_lt h2; simp at this
  | x :: a, y :: b, hl, h, ⟨k, h1, h2⟩ => by
    have hl' : a.length = b.length := by simpa using hl
    have hm : ∀ k, isIn a k = true → isIn b k = true := fun k hk => h (k + 1) hk
    have h0 := h 0
    unfold cnt
    simp only [List.count_cons]
    cases k with
    | zero =>
      have hx : x = false := h1
      have hy : y = true := h2
      subst hx; subst hy
      have := cnt_mono hl' hm
      unfold cnt at this
      simp; omega
    | succ k =>
      have ih := cnt_lt hl' hm ⟨k, h1, h2⟩
      unfold cnt at ih
      cases x <;> cases y
      · simpa using ih
      · simp; omega
      · exact absurd (h0 rfl) (by simp [isIn])
      · simpa using ih
/-- Behind so many rounds. -/
def Prog (N : List NL) (down : Bool) (r : Nat) (ds : List Bool) : Prop := ClosedE N down ds ∨ r ≤ cnt ds
/-- In a round: what it began with, and which pairs were looked at. -/
structure Rnd (N : List NL) (down : Bool) (ds0 ds : List Bool) (done : Nat → Nat → Prop) : Prop where
  len : ds.length = ds0.length
  grow : ∀ k, isIn ds0 k = true → isIn ds k = true
  same : ClosedE N down ds0 → ds = ds0
  did : ∀ i k, i < N.length → k < N.length → done i k → isIn ds0 i = true → edge N down i k = true → isIn ds k = true
theorem Rnd.refl (N : List NL) (down : Bool) (ds : List Bool) : Rnd N down ds ds fun _ _ => False := ⟨rfl, fun _ h => h, fun _ => rfl, fun _ _ _ _ h => h.elim⟩
theorem Rnd.mono {N : List NL} {down : Bool} {ds0 ds : List Bool} {d d' : Nat → Nat → Prop} (h : Rnd N down ds0 ds d) (hd : ∀ i k, i < N.length → k < N.length → d' i k → d i k) : Rnd N down ds0 ds d' :=
  ⟨h.len, h.grow, h.same, fun i k hi hk h1 h2 h3 => h.did i k hi hk (hd i k hi hk h1) h2 h3⟩
theorem Rnd.step {N : List NL} {down : Bool} {ds0 ds : List Bool} {d d' : Nat → Nat → Prop} {a b : Nat} (h : Rnd N down ds0 ds d) (ha : a < N.length) (hb : b < N.length) (hl : ds0.length = N.length) {v : Bool} (hv : v = (isIn ds b || isIn ds a && edge N down a b))
    (hd : ∀ i k, i < N.length → k < N.length → d' i k → d i k ∨ (i = a ∧ k = b) ∨ edge N down i k = false) : Rnd N down ds0 (ds.set b v) d' := by
  have hbl : b < ds.length := by rw [h.len, hl]; exact hb
  have hin := isIn_set (b := v) hbl
  refine ⟨by rw [List.length_set]; exact h.len, fun k hk => ?_, fun hc => ?_, fun i k hi hk h1 h2 h3 => ?_⟩
  · rw [hin]
    split
    · rename_i e
      subst e
      rw [hv, h.grow _ hk]; rfl
    · exact h.grow k hk
  · have hs := h.same hc
    have e : v = isIn ds b := by
      rw [hv, hs]
      cases h1 : isIn ds0 b
      · cases h2 : isIn ds0 a
        · rfl
        · cases h3 : edge N down a b
          · rfl
          · rw [hc a b ha hb h2 h3] at h1; cases h1
      · rfl
    rw [e, isIn_at hbl, List.set_getElem_self]
    exact hs
  · rw [hin]
    rcases hd i k hi hk h1 with h4 | ⟨rfl, rfl⟩ | h4
    · split
      · rename_i e
        subst e
        rw [hv, h.did i _ hi hk h4 h2 h3]; rfl
      · exact h.did i k hi hk h4 h2 h3
    · rw [if_pos rfl, hv, h.grow _ h2, h3]
      simp
    · rw [h4] at h3; cases h3
theorem Sound.step {N : List NL} {down : Bool} {items : List Int} {ds : List Bool} {a b : Nat} (h : Sound N down items ds) (ha : a < N.length) (hb : b < N.length) {v : Bool} (hv : v = (isIn ds b || isIn ds a && edge N down a b)) : Sound N down items (ds.set b v) := by
  have hin := isIn_set (ds := ds) (b := v) (i := b) (by rw [h.len]; exact hb)
  refine ⟨by rw [List.length_set]; exact h.len, fun k hk => ?_, fun k hk hm => ?_⟩
  · rw [hin] at hk
    split at hk
    · rename_i e
      subst e
      rw [hv, Bool.or_eq_true, Bool.and_eq_true] at hk
      rcases hk with hk | ⟨h1, h2⟩
      · exact h.sound _ hk
      · exact .step a _ (h.sound _ h1) ha hb h2
    · exact h.sound k hk
  · rw [hin]
    split
    · rename_i e
      subst e
      rw [hv, h.has _ hk hm]; rfl
    · exact h.has k hk hm
theorem Prog.next {N : List NL} {down : Bool} {ds0 ds : List Bool} {r : Nat} {d : Nat → Nat → Prop} (h : Prog N down r ds0) (hr : Rnd N down ds0 ds d) (hd : ∀ i k, i < N.length → k < N.length → d i k ∨ edge N down i k = false) : Prog N down (r + 1) ds := by
  by_cases hc : ClosedE N down ds0
  · left; rw [hr.same hc]; exact hc
  · rcases h with h | h
    · exact absurd h hc
    · right
      have hex : ∃ k, isIn ds0 k = false ∧ isIn ds k = true := by
        unfold ClosedE at hc
        simp only [Classical.not_forall] at hc
        obtain ⟨i, k, hi, hk, h1, h2, h3⟩ := hc
        refine ⟨k, by simpa using h3, ?_⟩
        rcases hd i k hi hk with h4 | h4
        · exact hr.did i k hi hk h4 h1 h2
        · rw [h4] at h2; cases h2
      have := cnt_lt hr.len.symm hr.grow hex
      omega
theorem cnt_all : ∀ {ds : List Bool}, ds.length ≤ cnt ds → ∀ k, k < ds.length → isIn ds k = true
  | [], _, k, h => absurd h (Nat.not_lt_zero _)
  | x :: ds, hc, k, h => by
    have hle : cnt ds ≤ ds.length := List.count_le_length
    unfold cnt at hc hle
    simp only [List.count_cons, List.length_cons] at hc
    cases x
    · simp at hc; omega
    · cases k with
      | zero => rfl
      | succ k => exact cnt_all (ds := ds) (by unfold cnt; simpa using hc) k (by simpa using h)
/-- All that is reached. -/
def CloN (N : List NL) (down : Bool) (items : List Int) (ds : List Bool) : Prop := ds.length = N.length ∧ ∀ k, k < N.length → (isIn ds k = true ↔ Reach N down items k)
theorem clo_of {N : List NL} {down : Bool} {items : List Int} {ds : List Bool} (hs : Sound N down items ds) (hp : Prog N down N.length ds) : CloN N down items ds := by
  refine ⟨hs.len, fun k hk => ⟨hs.sound k, fun h => ?_⟩⟩
  rcases hp with hp | hp
  · induction h with
    | base k h => exact hs.has k hk h
    | step i k h hi hk e ih => exact hp i k hi hk (ih hi) e
  · exact cnt_all (by rw [hs.len]; exact hp) k (by rw [hs.len]; exact hk)
theorem CloN.eq {N : List NL} {down : Bool} {items : List Int} {a b : List Bool} (h1 : CloN N down items a) (h2 : CloN N down items b) : a = b := by
  apply List.ext_getElem
  · rw [h1.1, h2.1]
  · intro k ha hb
    have e1 := h1.2 k (by rw [← h1.1]; exact ha)
    have e2 := h2.2 k (by rw [← h1.1]; exact ha)
    rw [isIn_at ha] at e1
    rw [isIn_at hb] at e2
    rw [Bool.eq_iff_iff, e1, e2]
/-- The items, marked. -/
def markF (n : Nat) (items : List Int) : List Bool := (List.range n).map fun (k : Nat) => items.contains (k : Int)
def roundF (N : List NL) (down : Bool) (ds : List Bool) : List Bool := (List.range N.length).map fun k => isIn ds k || (List.range N.length).any fun i => isIn ds i && edge N down i k
def cloG (N : List NL) (down : Bool) : Nat → List Bool → List Bool
  | 0, ds => ds
  | f + 1, ds => cloG N down f (roundF N down ds)
def cloF (N : List NL) (down : Bool) (items : List Int) : List Bool := cloG N down N.length (markF N.length items)
theorem isIn_map {n : Nat} {g : Nat → Bool} {k : Nat} (h : k < n) : isIn ((List.range n).map g) k = g k := by
  rw [isIn_at (by simpa using h)]; simp
theorem isIn_map' {n : Nat} {g : Nat → Bool} {k : Nat} (h : isIn ((List.range n).map g) k = true) : k < n ∧ g k = true := by
  have h1 := isIn_lt h
  have h2 : k < n := by simpa using h1
  exact ⟨h2, by rwa [isIn_map h2] at h⟩
theorem mark_sound (N : List NL) (down : Bool) (items : List Int) : Sound N down items (markF N.length items) := by
  refine ⟨by simp [markF], fun k hk => ?_, fun k hk hm => ?_⟩
  · obtain ⟨h1, h2⟩ := isIn_map' hk
    exact .base k (by simpa using h2)
  · unfold markF
    rw [isIn_map hk]; simpa using hm
theorem round_spec {N : List NL} {down : Bool} {items : List Int} {ds : List Bool} (hs : Sound N down items ds) : Sound N down items (roundF N down ds) ∧ Rnd N down ds (roundF N down ds) fun _ _ => True := by
  have hl : (roundF N down ds).length = N.length := by simp [roundF]
  have key : ∀ k, k < N.length → (isIn (roundF N down ds) k = true ↔ isIn ds k = true ∨ ∃ i, i < N.length ∧ isIn ds i = true ∧ edge N down i k = true) := by
    intro k hk
    unfold roundF
    rw [isIn_map hk, Bool.or_eq_true, List.any_eq_true]
    simp only [List.mem_range, Bool.and_eq_true]
  refine ⟨⟨hl, fun k hk => ?_, fun k hk hm => (key k hk).2 (.inl (hs.has k hk hm))⟩, ⟨by rw [hl, hs.len], fun k hk => ?_, fun hc => ?_, fun i k hi hk _ h1 h2 => (key k hk).2 (.inr ⟨i, hi, h1, h2⟩)⟩⟩
  · have h1 : k < N.length := by have := isIn_lt hk; omega
    rcases (key k h1).1 hk with h2 | ⟨i, h2, h3, h4⟩
    · exact hs.sound k h2
    · exact .step i k (hs.sound i h3) h2 h1 h4
  · exact (key k (by have := isIn_lt hk; rw [hs.len] at this; exact this)).2 (.inl hk)
  · apply List.ext_getElem
    · rw [hl, hs.len]
    · intro k h1 h2
      have h3 : k < N.length := by omega
      have e := key k h3
      rw [isIn_at h1] at e
      rw [isIn_at h2] at e
      rw [Bool.eq_iff_iff, e]
      constructor
      · rintro (h | ⟨i, hi, h4, h5⟩)
        · exact h
        · have := hc i k hi h3 h4 h5
          rwa [isIn_at h2] at this
      · exact .inl
theorem cloG_spec {N : List NL} {down : Bool} {items : List Int} : ∀ (f r : Nat) (ds : List Bool), Sound N down items ds → Prog N down r ds → Sound N down items (cloG N down f ds) ∧ Prog N down (r + f) (cloG N down f ds)
  | 0, r, ds, hs, hp => ⟨hs, hp⟩
  | f + 1, r, ds, hs, hp => by
    obtain ⟨h1, h2⟩ := round_spec hs
    have := cloG_spec f (r + 1) _ h1 (hp.next h2 fun _ _ _ _ => .inl trivial)
    rw [cloG]
    rwa [show r + (f + 1) = r + 1 + f by omega]
theorem cloF_clo (N : List NL) (down : Bool) (items : List Int) : CloN N down items (cloF N down items) := by
  obtain ⟨h1, h2⟩ := cloG_spec N.length 0 (markF N.length items) (mark_sound N down items) (.inr (Nat.zero_le _))
  rw [Nat.zero_add] at h2
  exact clo_of h1 h2
def badF (N : List NL) (items : List Int) : Int := if validF N ≠ 0 then 1 else if ¬ InR N.length items then 2 else if (orderF N).2 = false then 10 else 0
def belowF (N : List NL) (items : List Int) : List Int := if badF N items ≠ 0 then [] else (orderF N).1.filter fun x => isIn (cloF N true items) x.toNat
def aboveF (N : List NL) (items : List Int) : List Int := if badF N items ≠ 0 then [] else (orderF N).1.reverse.filter fun x => isIn (cloF N false items) x.toNat
theorem badF_zero {N : List NL} {items : List Int} (h : badF N items = 0) : validF N = 0 ∧ InR N.length items ∧ (orderF N).2 = true := by
  unfold badF at h
  split at h
  · omega
  · split at h
    · omega
    · split at h
      · omega
      · rename_i h1 h2 h3
        exact ⟨by omega, Classical.not_not.1 h2, by simpa using h3⟩
end Go.Proofs.Ytdicjhnhbdanlaa
