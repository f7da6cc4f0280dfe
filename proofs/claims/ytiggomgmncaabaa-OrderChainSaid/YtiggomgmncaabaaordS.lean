/- Orders: layers, and other names; plain theory. -/
import Derived.Test.YtiggomgmncaabaaordP
namespace Go.Proofs.Ytiggomgmncaabaa
set_option linter.unusedSimpArgs false
set_option linter.unusedVariables false
set_option linter.unnecessarySimpa false
open Go.Abs
set_option maxRecDepth 100000
theorem layG_app {N : List NL} : ∀ (l : List Int) (i : Int) (out : List Int), layG N (l ++ [i]) out = (nd N i.toNat).foldl (layS i.toNat) (layG N l out)
  | [], i, out => rfl
  | j :: l, i, out => by
    show layG N (l ++ [i]) _ = _
    rw [layG_app l i]; rfl
theorem lay_fold {i : Nat} : ∀ (L : List Int) (out : List Int), i < out.length → (∀ x ∈ L, x.toNat ≠ i) → (L.foldl (layS i) out).length = out.length ∧ (∀ k, k ≠ i → (L.foldl (layS i) out).getD k 0 = out.getD k 0) ∧ out.getD i 0 ≤ (L.foldl (layS i) out).getD i 0 ∧ (∀ x ∈ L, out.getD x.toNat 0 + 1 ≤ (L.foldl (layS i) out).getD i 0) ∧ ((L.foldl (layS i) out).getD i 0 = out.getD i 0 ∨ ∃ x ∈ L, (L.foldl (layS i) out).getD i 0 = out.getD x.toNat 0 + 1)
  | [], out, _, _ => ⟨rfl, fun _ _ => rfl, Int.le_refl _, fun x hx => (by cases hx), .inl rfl⟩
  | y :: L, out, hi, hL => by
    rw [List.foldl_cons]
    have hy := hL y (List.mem_cons_self ..)
    have e : ∀ k, (layS i out y).getD k 0 = if i = k then max (out.getD i 0) (out.getD y.toNat 0 + 1) else out.getD k 0 := fun k => by
      unfold layS; rw [getD_set hi]
    have ei := e i
    rw [if_pos rfl] at ei
    obtain ⟨h1, h2, h3, h4, h5⟩ := lay_fold L (layS i out y) (by rw [layS_len]; exact hi) fun x hx => hL x (List.mem_cons_of_mem _ hx)
    have ex : ∀ x ∈ L, (layS i out y).getD x.toNat 0 = out.getD x.toNat 0 := fun x hx => by
      rw [e, if_neg fun g => hL x (List.mem_cons_of_mem _ hx) g.symm]
    refine ⟨by rw [h1, layS_len], fun k hk => by rw [h2 k hk, e, if_neg fun g => hk g.symm], by omega, fun x hx => ?_, ?_⟩
    · rcases List.mem_cons.1 hx with rfl | hx
      · omega
      · have := h4 x hx
        rw [ex x hx] at this
        exact this
    · rcases h5 with h5 | ⟨x, hx, h5⟩
      · rw [h5, ei]
        rcases Int.le_total (out.getD i 0) (out.getD y.toNat 0 + 1) with g | g
        · exact .inr ⟨y, List.mem_cons_self .., by omega⟩
        · left; omega
      · exact .inr ⟨x, List.mem_cons_of_mem _ hx, by rw [h5, ex x hx]⟩
structure LayP (N : List NL) (out : List Int) (i : Nat) : Prop where
  up : ∀ x ∈ nd N i, out.getD x.toNat 0 + 1 ≤ out.getD i 0
  eq : out.getD i 0 = 0 ∨ ∃ x ∈ nd N i, out.getD i 0 = out.getD x.toNat 0 + 1
  nn : 0 ≤ out.getD i 0
theorem layG_topo {N : List NL} {l : List Int} (h : Topo N l) : (layG N l (List.replicate N.length 0)).length = N.length ∧ (∀ i : Nat, (i : Int) ∈ l → LayP N (layG N l (List.replicate N.length 0)) i) ∧ ∀ i : Nat, (i : Int) ∉ l → (layG N l (List.replicate N.length 0)).getD i 0 = 0 := by
  induction h with
  | nil =>
    refine ⟨by simp [layG], fun i h => (by cases h), fun i _ => ?_⟩
    rw [layG, List.getD_eq_getElem?_getD, List.getElem?_replicate]
    split <;> rfl
  | snoc l i h hi hn hx hg ih =>
    obtain ⟨h1, h2, h3⟩ := ih
    rw [layG_app, Int.toNat_natCast]
    obtain ⟨out, ho⟩ : ∃ out, out = layG N l (List.replicate N.length 0) := ⟨_, rfl⟩
    rw [← ho] at h1 h2 h3 ⊢
    have hne : ∀ x ∈ l, x.toNat ≠ i := fun x hx e => by
      have := (h.range x hx).1
      exact hn (by rw [← e, Int.toNat_of_nonneg this]; exact hx)
    obtain ⟨g1, g2, g3, g4, g5⟩ := lay_fold (i := i) (nd N i) out (by omega) fun x hxi => hne x (hx x hxi)
    have hi0 := h3 i hn
    refine ⟨by omega, fun j hj => ?_, fun j hj => ?_⟩
    · by_cases hjl : (j : Int) ∈ l
      · have hji : j ≠ i := fun e => hn (e ▸ hjl)
        have hp := h2 j hjl
        have hb : ∀ x ∈ nd N j, ((nd N i).foldl (layS i) out).getD x.toNat 0 = out.getD x.toNat 0 := fun x hxj => g2 _ (hne x (h.before j hjl x hxj).1)
        have ej := g2 j hji
        refine ⟨fun x hxj => by rw [hb x hxj, ej]; exact hp.up x hxj, ?_, by rw [ej]; exact hp.nn⟩
        rcases hp.eq with h5 | ⟨x, hxj, h5⟩
        · left; rw [ej]; exact h5
        · right; exact ⟨x, hxj, by rw [ej, hb x hxj]; exact h5⟩
      · have e : j = i := by
          rcases List.mem_append.1 hj with h5 | h5
          · exact absurd h5 hjl
          · have := List.mem_singleton.1 h5; omega
        subst e
        have hb : ∀ x ∈ nd N j, ((nd N j).foldl (layS j) out).getD x.toNat 0 = out.getD x.toNat 0 := fun x hxj => g2 _ (hne x (hx x hxj))
        refine ⟨fun x hxj => by rw [hb x hxj]; exact g4 x hxj, ?_, by omega⟩
        rcases g5 with h5 | ⟨x, hxj, h5⟩
        · left; omega
        · right; exact ⟨x, hxj, by rw [hb x hxj]; exact h5⟩
    · rw [List.mem_append, List.mem_singleton] at hj
      have hji : j ≠ i := fun e => hj (.inr (by omega))
      rw [g2 j hji]
      exact h3 j fun e => hj (.inl e)
theorem layers_spec {N : List NL} (h : (orderF N).2 = true) : (layersF N).2 = true ∧ (layersF N).1.length = N.length ∧ ∀ i, i < N.length → LayP N (layersF N).1 i := by
  rw [layersF, if_pos h]
  obtain ⟨h1, h2⟩ := order_topo h
  obtain ⟨h3, h4, _⟩ := layG_topo h1
  exact ⟨rfl, h3, fun i hi => h4 i (h1.full h2 i hi)⟩
theorem layers_none {N : List NL} (h : (orderF N).2 = false) : layersF N = ([], false) := by
  rw [layersF, if_neg (by rw [h]; simp)]
/-- Needs go over to needs. -/
def Ren (N M : List NL) (f : Nat → Nat) : Prop := ∀ i, i < N.length → f i < M.length ∧ ∀ x ∈ nd N i, ((f x.toNat : Nat) : Int) ∈ nd M (f i)
theorem Ren.walk {N M : List NL} {f : Nat → Nat} (h : Ren N M f) {k x y : Nat} (w : Wk N 0 k x y) : Wk M 0 k (f x) (f y) := by
  obtain ⟨b, hb⟩ : ∃ b, b = 0 := ⟨0, rfl⟩
  rw [← hb] at w
  induction w with
  | nil x h1 h2 => exact .nil _ (Nat.zero_le _) (h x h2).1
  | cons x y z k h1 h2 e w ih =>
    have := (h x h2).2 _ e
    rw [Int.toNat_natCast] at this
    exact .cons _ (f y) _ k (Nat.zero_le _) (h x h2).1 this ih
theorem Ren.rank {N M : List NL} {f : Nat → Nat} (h : Ren N M f) {r : Nat → Nat} (hr : Rank M r) : Rank N fun i => r (f i) := by
  intro i hi x hx
  have h1 := h i hi
  have := hr (f i) h1.1 _ (h1.2 x hx)
  rwa [Int.toNat_natCast] at this
theorem Ren.ok {N M : List NL} {f : Nat → Nat} (h : Ren N M f) (hN : validF N = 0) (hM : validF M = 0) (ho : (orderF M).2 = true) : (orderF N).2 = true := by
  obtain ⟨r, hr⟩ := (ok_iff hM).1 ho
  exact (ok_iff hN).2 ⟨_, h.rank hr⟩
theorem Ren.circle {N M : List NL} {f : Nat → Nat} (h : Ren N M f) (hN : validF N = 0) (hM : validF M = 0) (hc : circleF N ≠ []) : circleF M ≠ [] ∧ (circleF M).length ≤ (circleF N).length := by
  obtain ⟨a, w⟩ := circle_walk hN hc
  exact circle_least hM (List.length_pos_iff.2 hc) (h.walk (w.weak (Nat.zero_le _)))
theorem Ren.layers {N M : List NL} {f : Nat → Nat} (h : Ren N M f) (hN : validF N = 0) {r : Nat → Nat} (hr : Rank N r) {u v : List Int} (hu : ∀ i, i < N.length → LayP N u i) (hv : ∀ i, i < M.length → LayP M v i) : ∀ (m i : Nat), i < N.length → r i ≤ m → u.getD i 0 ≤ v.getD (f i) 0 := by
  intro m
  induction m with
  | zero =>
    intro i hi hm
    have h1 := h i hi
    have := (hv _ h1.1).nn
    rcases (hu i hi).eq with h2 | ⟨x, hx, h2⟩
    · omega
    · have := hr i hi x hx; omega
  | succ m ih =>
    intro i hi hm
    have h1 := h i hi
    have := (hv _ h1.1).nn
    rcases (hu i hi).eq with h2 | ⟨x, hx, h2⟩
    · omega
    · have h3 := hr i hi x hx
      have h4 := NdR.of hN i hi x hx
      have h5 := ih x.toNat (by omega) (by omega)
      have h6 := (hv _ h1.1).up _ (h1.2 x hx)
      rw [Int.toNat_natCast] at h6
      omega
/-- The items numbered the other way round. -/
structure BackP (N M : List NL) (c : Nat) : Prop where
  len : M.length = N.length
  at_ : ∀ i, i < c → i < N.length → nd M (N.length - 1 - i) = ((nd N i).map fun x => (N.length : Int) - 1 - x).reverse
theorem BackP.okn {N M : List NL} (h : BackP N M N.length) (hN : ∀ p ∈ N, InR N.length p.2 ∧ Inc p.2) : ∀ p ∈ M, InR M.length p.2 ∧ Inc p.2 := by
  intro p hp
  obtain ⟨j, hj, rfl⟩ := List.getElem_of_mem hp
  have hl := h.len
  have h1 := h.at_ (N.length - 1 - j) (by omega) (by omega)
  rw [show N.length - 1 - (N.length - 1 - j) = j by omega, nd_at hj, nd_at (by omega)] at h1
  rw [h1]
  obtain ⟨h2, h3⟩ := hN _ (List.getElem_mem (show N.length - 1 - j < N.length by omega))
  constructor
  · intro k hk
    rw [List.getElem_reverse, List.getElem_map]
    have := h2 (((N[N.length - 1 - j].2).map fun x => (N.length : Int) - 1 - x).length - 1 - k) (by simp at hk ⊢; omega)
    omega
  · intro k hk h0
    have hk2 : k < N[N.length - 1 - j].2.length := by simpa using hk
    rw [List.getElem_reverse, List.getElem_reverse, List.getElem_map, List.getElem_map]
    have := h3 (N[N.length - 1 - j].2.length - 1 - (k - 1)) (by omega) (by omega)
    simp only [List.length_map]
    simp only [show N[N.length - 1 - j].2.length - 1 - (k - 1) - 1 = N[N.length - 1 - j].2.length - 1 - k by omega] at this
    omega
theorem BackP.ren {N M : List NL} (h : BackP N M N.length) (hR : NdR N) : Ren N M fun i => N.length - 1 - i := by
  intro i hi
  have hl := h.len
  refine ⟨by show N.length - 1 - i < M.length; omega, fun x hx => ?_⟩
  show ((N.length - 1 - x.toNat : Nat) : Int) ∈ nd M (N.length - 1 - i)
  rw [h.at_ i hi hi, List.mem_reverse, List.mem_map]
  have := hR i hi x hx
  exact ⟨x, hx, by omega⟩
theorem BackP.ner {N M : List NL} (h : BackP N M N.length) (hR : NdR N) : Ren M N fun i => N.length - 1 - i := by
  intro i hi
  have hl := h.len
  refine ⟨by show N.length - 1 - i < N.length; omega, fun x hx => ?_⟩
  show ((N.length - 1 - x.toNat : Nat) : Int) ∈ nd N (N.length - 1 - i)
  have h1 := h.at_ (N.length - 1 - i) (by omega) (by omega)
  rw [show N.length - 1 - (N.length - 1 - i) = i by omega] at h1
  rw [h1, List.mem_reverse, List.mem_map] at hx
  obtain ⟨y, hy, rfl⟩ := hx
  have := hR _ (by omega) y hy
  rw [show ((N.length - 1 - ((N.length : Int) - 1 - y).toNat : Nat) : Int) = y by omega]
  exact hy
theorem back_spec {N M : List NL} (h : BackP N M N.length) (hN : ∀ p ∈ N, InR N.length p.2 ∧ Inc p.2) (hl : N.length ≤ 24) : (layersF N).2 = (layersF M).2 ∧ (circleF N).length = (circleF M).length ∧ (layersF N).1.length = (layersF M).1.length ∧ ∀ i, i < (layersF N).1.length → (layersF N).1.getD i 0 = (layersF M).1.getD (N.length - 1 - i) 0 := by
  have hlM := h.len
  have v1 : validF N = 0 := validF_zero.2 ⟨hl, hN⟩
  have v2 : validF M = 0 := validF_zero.2 ⟨by omega, h.okn hN⟩
  have hR := NdR.of v1
  have r1 := h.ren hR
  have r2 := h.ner hR
  have hc : (circleF N).length = (circleF M).length := by
    by_cases c1 : circleF N = []
    · by_cases c2 : circleF M = []
      · rw [c1, c2]
      · exact absurd c1 (r2.circle v2 v1 c2).1
    · have h1 := r1.circle v1 v2 c1
      have h2 := r2.circle v2 v1 h1.1
      omega
  rcases Bool.eq_false_or_eq_true (orderF N).2 with ho | ho
  · have ho2 := r2.ok v2 v1 ho
    obtain ⟨a1, a2, a3⟩ := layers_spec ho
    obtain ⟨b1, b2, b3⟩ := layers_spec ho2
    obtain ⟨q1, hq1⟩ := (ok_iff v1).1 ho
    obtain ⟨q2, hq2⟩ := (ok_iff v2).1 ho2
    refine ⟨by rw [a1, b1], hc, by omega, fun i hi => ?_⟩
    have g1 := r1.layers v1 hq1 a3 b3 (q1 i) i (by omega) (Nat.le_refl _)
    have g2 := r2.layers v2 hq2 b3 a3 (q2 (N.length - 1 - i)) (N.length - 1 - i) (by omega) (Nat.le_refl _)
    rw [show N.length - 1 - (N.length - 1 - i) = i by omega] at g2
    omega
  · have ho2 : (orderF M).2 = false := by
      rcases Bool.eq_false_or_eq_true (orderF M).2 with g | g
      · have := r1.ok v1 v2 g
        rw [ho] at this; cases this
      · exact g
    rw [layers_none ho, layers_none ho2]
    exact ⟨rfl, hc, rfl, fun i hi => by simp at hi⟩
end Go.Proofs.Ytiggomgmncaabaa
