/- Orders: circles, plain theory. -/
import Derived.Test.YtiggomgmncaabaaordM
import Derived.Test.YtiggomgmncaabaaordG
namespace Go.Proofs.Ytiggomgmncaabaa
set_option linter.unusedSimpArgs false
set_option linter.unusedVariables false
set_option linter.unnecessarySimpa false
open Go.Abs
set_option maxRecDepth 100000
section
variable {N : List NL} {a : Nat}
theorem Wk.least {b k x y : Nat} (h : Wk N b k x y) : ∃ m j, j ≤ k ∧ Wk N m k x y ∧ Wk N m j x m ∧ Wk N m (k - j) m y := by
  induction h with
  | nil x h h2 => exact ⟨x, 0, Nat.le_refl _, .nil x (Nat.le_refl _) h2, .nil x (Nat.le_refl _) h2, .nil x (Nat.le_refl _) h2⟩
  | cons x y z k h h2 e w ih =>
    obtain ⟨m, j, hj, w1, w2, w3⟩ := ih
    rcases Nat.lt_or_ge m x with hm | hm
    · exact ⟨m, j + 1, by omega, .cons x y z k (by omega) h2 e w1, .cons x y m j (by omega) h2 e w2, by rw [show k + 1 - (j + 1) = k - j by omega]; exact w3⟩
    · have hw : Wk N x (k + 1) x z := .cons x y z k (Nat.le_refl _) h2 e (w1.weak hm)
      exact ⟨x, 0, by omega, hw, .nil x (Nat.le_refl _) h2, hw⟩
theorem closed_min {k x : Nat} (h : Wk N 0 k x x) : ∃ a, Wk N a k a a := by
  obtain ⟨m, j, hj, _, w2, w3⟩ := h.least
  have := w3.trans w2
  rw [Nat.sub_add_cancel hj] at this
  exact ⟨m, this⟩
theorem size_nn (N : List NL) (a : Nat) : 0 ≤ sizeF N a := (sz_spec (N := N) (a := a) (nd N a) 0 (Int.le_refl _)).1
theorem size_none (h : sizeF N a = 0) {k : Nat} (hk : 1 ≤ k) : ¬ Wk N a k a a := by
  intro w
  cases w with
  | nil => omega
  | cons _ y _ k' h1 h2 e w =>
    have hs := w.start
    have h3 := ((sz_spec (N := N) (a := a) (nd N a) 0 (Int.le_refl _)).2.1 h).2 y e (by omega)
    rw [Int.toNat_natCast] at h3
    rcases distF_cases N a a y with ⟨d, h4, _⟩ | ⟨_, h5⟩
    · omega
    · exact h5 k' w
theorem size_le {k : Nat} (w : Wk N a k a a) (hk : 1 ≤ k) : 0 < sizeF N a ∧ sizeF N a ≤ k := by
  have h0 : 0 < sizeF N a := by
    have := size_nn N a
    rcases Int.lt_or_le 0 (sizeF N a) with h | h
    · exact h
    · exact absurd w (size_none (by omega) hk)
  refine ⟨h0, ?_⟩
  cases w with
  | nil => omega
  | cons _ y _ k' h1 h2 e w =>
    have hs := w.start
    have h3 := ((sz_spec (N := N) (a := a) (nd N a) 0 (Int.le_refl _)).2.2 h0).2.2 y e (by omega)
    rw [Int.toNat_natCast] at h3
    rcases distF_cases N a a y with ⟨d, h4, h5⟩ | ⟨_, h5⟩
    · have h6 : d ≤ k' := by
        rcases Nat.lt_or_ge k' d with g | g
        · exact absurd w (h5.2 k' g)
        · exact g
      have := h3 (by omega)
      have e2 : (List.foldl (szS N a) 0 (nd N a)) = sizeF N a := rfl
      omega
    · exact absurd w (h5 k')
theorem size_walk (ha : a < N.length) (h : 0 < sizeF N a) : Wk N a (sizeF N a).toNat a a ∧ ∃ x ∈ nd N a, (a : Int) ≤ x ∧ distF N a a x.toNat + 1 = sizeF N a := by
  rcases ((sz_spec (N := N) (a := a) (nd N a) 0 (Int.le_refl _)).2.2 h).1 with h1 | ⟨x, hx, hax, h1⟩
  · have : sizeF N a = 0 := h1
    omega
  · have h1 : distF N a a x.toNat + 1 = sizeF N a := h1
    refine ⟨?_, x, hx, hax, h1⟩
    rcases distF_cases N a a x.toNat with ⟨d, h4, h5⟩ | ⟨h5, _⟩
    · rw [show (sizeF N a).toNat = d + 1 by omega]
      exact .cons a x.toNat a d (Nat.le_refl _) ha (by rw [Int.toNat_of_nonneg (by omega)]; exact hx) h5.1
    · omega
theorem pathG_len (s : Int) : ∀ (f at_ : Nat) (best : List Int), (pathG N a s f at_ best).length = best.length + f
  | 0, _, _ => rfl
  | f + 1, _, best => by rw [pathG, pathG_len s f, List.length_append, List.length_singleton]; omega
theorem pathF_len {s : Int} (h : 0 < s) : ((pathF N a s).length : Int) = s := by
  rw [pathF, pathG_len, List.length_singleton]; omega
theorem pathF_ne {s : Int} (h : 0 < s) : pathF N a s ≠ [] := by
  intro e
  have := pathF_len (N := N) (a := a) h
  rw [e] at this
  simp at this; omega
def Best (N : List NL) (c : Nat) (best : List Int) : Prop := (best = [] ∧ ∀ a, a < c → sizeF N a = 0) ∨ ∃ a, a < N.length ∧ 0 < sizeF N a ∧ best = pathF N a (sizeF N a) ∧ ∀ b, b < c → 0 < sizeF N b → sizeF N a ≤ sizeF N b
theorem best_fold (N : List NL) : ∀ c, c ≤ N.length → Best N c ((List.range c).foldl (cirS N) [])
  | 0, _ => .inl ⟨rfl, fun a h => by omega⟩
  | c + 1, hc => by
    rw [List.range_succ, List.foldl_append]
    have ih := best_fold N c (by omega)
    obtain ⟨b, hb⟩ : ∃ b, b = (List.range c).foldl (cirS N) [] := ⟨_, rfl⟩
    rw [← hb] at ih ⊢
    show Best N (c + 1) (cirS N b c)
    have hnn := size_nn N c
    unfold cirS
    split
    · rename_i h
      rcases ih with ⟨rfl, h1⟩ | ⟨a, h1, h2, h3, h4⟩
      · have h5 : sizeF N c = 0 := by
          rcases h with h | h
          · exact h
          · exact absurd rfl h.1
        exact .inl ⟨rfl, fun a ha => by
          rcases Nat.lt_or_ge a c with g | g
          · exact h1 a g
          · rw [show a = c by omega]; exact h5⟩
      · refine .inr ⟨a, h1, h2, h3, fun d hd hs => ?_⟩
        rcases Nat.lt_or_ge d c with g | g
        · exact h4 d g hs
        · rw [show d = c by omega] at hs ⊢
          rcases h with h | h
          · omega
          · have := pathF_len (N := N) (a := a) h2
            rw [← h3] at this
            omega
    · rename_i h
      have hpos : 0 < sizeF N c := by
        rcases Int.lt_or_le 0 (sizeF N c) with g | g
        · exact g
        · exact absurd (.inl (by omega)) h
      refine .inr ⟨c, by omega, hpos, rfl, fun d hd hs => ?_⟩
      rcases Nat.lt_or_ge d c with g | g
      · rcases ih with ⟨_, h1⟩ | ⟨a, h1, h2, h3, h4⟩
        · have := h1 d g; omega
        · have h5 := h4 d g hs
          have h6 := pathF_len (N := N) (a := a) h2
          rw [← h3] at h6
          rcases Int.lt_or_le (sizeF N c) (b.length : Int) with h7 | h7
          · omega
          · exact absurd (.inr ⟨by rw [h3]; exact pathF_ne h2, h7⟩) h
      · rw [show d = c by omega]; exact Int.le_refl _
theorem circle_spec (h0 : validF N = 0) : Best N N.length (circleF N) := by
  rw [circleF, if_neg (by omega)]
  exact best_fold N _ (Nat.le_refl _)
theorem circle_walk (h0 : validF N = 0) (h : circleF N ≠ []) : ∃ a, Wk N a (circleF N).length a a := by
  rcases circle_spec h0 with ⟨h1, _⟩ | ⟨a, h1, h2, h3, _⟩
  · exact absurd h1 h
  · have h4 := (size_walk h1 h2).1
    have h5 := pathF_len (N := N) (a := a) h2
    rw [← h3] at h5
    rw [show (sizeF N a).toNat = (circleF N).length by omega] at h4
    exact ⟨a, h4⟩
theorem circle_least (h0 : validF N = 0) {k x : Nat} (hk : 1 ≤ k) (w : Wk N 0 k x x) : circleF N ≠ [] ∧ (circleF N).length ≤ k := by
  obtain ⟨b, wb⟩ := closed_min w
  obtain ⟨g1, g2⟩ := size_le wb hk
  have hb := wb.start.2
  rcases circle_spec h0 with ⟨_, h1⟩ | ⟨a, h1, h2, h3, h4⟩
  · have := h1 b hb; omega
  · have h5 := pathF_len (N := N) (a := a) h2
    rw [← h3] at h5
    have h6 := h4 b hb g1
    refine ⟨by rw [h3]; exact pathF_ne h2, by omega⟩
theorem Wk.rank {r : Nat → Nat} (hr : Rank N r) {b k x y : Nat} (h : Wk N b k x y) : r y + k ≤ r x := by
  induction h with
  | nil => omega
  | cons x y z k h h2 e w ih =>
    have := hr x h2 _ e
    rw [Int.toNat_natCast] at this
    omega
theorem ok_circle (h0 : validF N = 0) : (orderF N).2 = true ↔ circleF N = [] := by
  constructor
  · intro h
    obtain ⟨r, hr⟩ := (ok_iff h0).1 h
    by_cases hc : circleF N = []
    · exact hc
    · obtain ⟨a, w⟩ := circle_walk h0 hc
      have := w.rank hr
      have := List.length_pos_iff.2 hc
      omega
  · intro hc
    rcases Bool.eq_false_or_eq_true (orderF N).2 with h | h
    · exact h
    · exfalso
      obtain ⟨l, hT, ⟨k0, hk0, hk0l⟩, hs⟩ := order_stuck h0 h
      have hstep : ∀ k : Nat, ∃ y : Nat, k < N.length → (k : Int) ∉ l → (y : Int) ∈ nd N k ∧ y < N.length ∧ (y : Int) ∉ l := by
        intro k
        by_cases hk : k < N.length ∧ (k : Int) ∉ l
        · rcases hs k hk.1 with h1 | ⟨x, hx, hxl⟩
          · exact absurd h1 hk.2
          · have := NdR.of h0 k hk.1 x hx
            refine ⟨x.toNat, fun _ _ => ?_⟩
            rw [Int.toNat_of_nonneg this.1]
            exact ⟨hx, by omega, hxl⟩
        · exact ⟨0, fun h1 h2 => absurd ⟨h1, h2⟩ hk⟩
      obtain ⟨f, hf⟩ : ∃ f : Nat → Nat, ∀ k, k < N.length → (k : Int) ∉ l → (f k : Int) ∈ nd N k ∧ f k < N.length ∧ (f k : Int) ∉ l := ⟨fun k => (hstep k).choose, fun k => (hstep k).choose_spec⟩
      obtain ⟨o, ho0, ho⟩ : ∃ o : Nat → Nat, o 0 = k0 ∧ ∀ m, o (m + 1) = f (o m) := ⟨fun m => Nat.rec k0 (fun _ x => f x) m, rfl, fun _ => rfl⟩
      have hin : ∀ m, o m < N.length ∧ (o m : Int) ∉ l := by
        intro m
        induction m with
        | zero => rw [ho0]; exact ⟨hk0, hk0l⟩
        | succ m ih => rw [ho]; exact (hf _ ih.1 ih.2).2
      have hw : ∀ d i, Wk N 0 d (o i) (o (i + d)) := by
        intro d
        induction d with
        | zero => intro i; exact .nil _ (Nat.zero_le _) (hin i).1
        | succ d ih =>
          intro i
          have := ih (i + 1)
          rw [show i + 1 + d = i + (d + 1) by omega] at this
          exact .cons _ (o (i + 1)) _ d (Nat.zero_le _) (hin i).1 (by rw [ho]; exact (hf _ (hin i).1 (hin i).2).1) this
      by_cases hp : ∃ i j, i < j ∧ o i = o j
      · obtain ⟨i, j, hij, e⟩ := hp
        have := hw (j - i) i
        rw [show i + (j - i) = j by omega, ← e] at this
        exact (circle_least h0 (by omega) this).1 hc
      · have hnd : ((List.range (N.length + 1)).map o).Nodup := by
          unfold List.Nodup
          rw [List.pairwise_map]
          exact List.pairwise_lt_range.imp fun {i j} hij e => hp ⟨i, j, hij, e⟩
        have := nodup_len N.length _ hnd fun x hx => by
          obtain ⟨m, _, rfl⟩ := List.mem_map.1 hx
          exact (hin m).1
        simp at this
        omega
/-- Each item needs the next one; the last one needs the first. -/
def Steps (N : List NL) (a : Nat) : Nat → List Int → Prop
  | at_, [] => (a : Int) ∈ nd N at_
  | at_, x :: t => x ∈ nd N at_ ∧ (a : Int) < x ∧ x < (N.length : Int) ∧ Steps N a x.toNat t
theorem pathG_steps (hR : NdR N) (ha : a < N.length) (s : Int) : ∀ (f at_ : Nat) (best : List Int), at_ < N.length → s - best.length = f → (1 ≤ f → Found N a at_ f) → (f = 0 → (a : Int) ∈ nd N at_) → ∃ t, pathG N a s f at_ best = best ++ t ∧ Steps N a at_ t
  | 0, at_, best, hat, hs, h1, h2 => ⟨[], by simp [pathG], h2 rfl⟩
  | f + 1, at_, best, hat, hs, h1, h2 => by
    have hF := h1 (by omega)
    have hd : s - best.length = ((f + 1 : Nat) : Int) := hs
    obtain ⟨x, hx⟩ : ∃ x, (nd N at_).find? (hitB N a ((f + 1 : Nat) : Int)) = some x := by
      obtain ⟨x, h3, h4⟩ := hF
      cases e : (nd N at_).find? (hitB N a ((f + 1 : Nat) : Int)) with
      | some x => exact ⟨x, rfl⟩
      | none => exact absurd h4 (List.find?_eq_none.1 e x h3)
    have hxm := List.mem_of_find?_eq_some hx
    have hxh := List.find?_some hx
    have hxr := hR at_ hat x hxm
    obtain ⟨g1, g2⟩ := hit_iff.1 hxh
    have en : nextX N a at_ (s - best.length) = x.toNat := by rw [hd, nextX, hx]; rfl
    rw [pathG, en, Int.toNat_of_nonneg hxr.1]
    obtain ⟨t, h5, h6⟩ := pathG_steps hR ha s f x.toNat (best ++ [x]) (by omega) (by rw [List.length_append, List.length_singleton]; omega) (fun hf => by
      have := found_next ha hxh (by omega)
      rwa [show ((f + 1 : Nat) : Int) - 1 = (f : Int) by omega] at this) (fun hf => by
      subst hf
      rcases distF_cases N a a x.toNat with ⟨d, h7, h8⟩ | ⟨h7, _⟩
      · have : d = 1 := by omega
        subst this
        cases h8.1 with
        | cons _ y _ _ _ _ e w => cases w with
          | nil => exact e
      · omega)
    refine ⟨x :: t, by rw [h5]; simp, hxm, g1, hxr.2, h6⟩
theorem circle_steps (h0 : validF N = 0) (h : circleF N ≠ []) : ∃ a t, a < N.length ∧ circleF N = (a : Int) :: t ∧ Steps N a a t := by
  rcases circle_spec h0 with ⟨h1, _⟩ | ⟨a, h1, h2, h3, _⟩
  · exact absurd h1 h
  · obtain ⟨t, h4, h5⟩ := pathG_steps (NdR.of h0) h1 (sizeF N a) ((sizeF N a).toNat - 1) a [(a : Int)] h1 (by rw [List.length_singleton]; omega) (fun hf => by
      have := size_found h1 (by omega)
      rwa [show sizeF N a - 1 = (((sizeF N a).toNat - 1 : Nat) : Int) by omega] at this) (fun hf => by
      obtain ⟨x, hx, hax, h6⟩ := (size_walk h1 h2).2
      have hd : distF N a a x.toNat = ((0 : Nat) : Int) := by omega
      have := ((distF_iff 0).1 hd).1
      obtain ⟨y, rfl⟩ := Int.eq_ofNat_of_zero_le (show 0 ≤ x by omega)
      rw [Int.toNat_natCast] at this
      cases this with
      | nil => exact hx)
    exact ⟨a, t, h1, by rw [h3, pathF, h4]; rfl, h5⟩
theorem Steps.at_ : ∀ {at_ : Nat} {t : List Int}, Steps N a at_ t → ∀ (i : Nat) (h : i < t.length + 1), (if h2 : i < t.length then t[i] else (a : Int)) ∈ nd N (((at_ : Int) :: t)[i]'(by simpa using h)).toNat ∧ (0 < i → (a : Int) < ((at_ : Int) :: t)[i]'(by simpa using h) ∧ ((at_ : Int) :: t)[i]'(by simpa using h) < (N.length : Int))
  | at_, [], hS, i, h => by
    have : i = 0 := by simp at h; omega
    subst this
    have hS : (a : Int) ∈ nd N at_ := hS
    refine ⟨by simpa using hS, fun h => by omega⟩
  | at_, x :: t, ⟨h1, h2, h3, h4⟩, i, h => by
    cases i with
    | zero => exact ⟨by simpa using h1, fun h => by omega⟩
    | succ i =>
      have ih := Steps.at_ h4 i (by simpa using h)
      obtain ⟨y, rfl⟩ := Int.eq_ofNat_of_zero_le (show 0 ≤ x by omega)
      rw [Int.toNat_natCast] at ih
      refine ⟨?_, fun _ => ?_⟩
      · simpa using ih.1
      · cases i with
        | zero => exact ⟨by simpa using h2, by simpa using h3⟩
        | succ i => simpa using ih.2 (by omega)
end
end Go.Proofs.Ytiggomgmncaabaa
