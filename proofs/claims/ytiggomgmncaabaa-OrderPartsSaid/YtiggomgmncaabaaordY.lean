/- Orders: two parts; plain theory. -/
import Derived.Test.YtiggomgmncaabaaordQ
namespace Go.Proofs.Ytiggomgmncaabaa
set_option linter.unusedSimpArgs false
set_option linter.unusedVariables false
set_option linter.unnecessarySimpa false
open Go.Abs
set_option maxRecDepth 100000
def sh (m : Nat) (l : List Int) : List Int := l.map fun x => x + (m : Int)
/-- The second part, its items numbered on from the first one's. -/
structure Pt (a b B : List NL) : Prop where
  len : B.length = b.length
  at_ : ∀ i (h : i < b.length) (h2 : i < B.length), B[i].2 = sh a.length b[i].2
section
variable {a b B : List NL}
theorem Pt.nd_r (h : Pt a b B) {i : Nat} (hi : i < b.length) : nd (a ++ B) (a.length + i) = sh a.length (nd b i) := by
  have hl := h.len
  rw [nd_at (by rw [List.length_append]; omega), nd_at hi, List.getElem_append_right (by omega)]
  simp only [Nat.add_sub_cancel_left]
  exact h.at_ i hi (by omega)
theorem Pt.okn (h : Pt a b B) (ha : ∀ p ∈ a, InR a.length p.2 ∧ Inc p.2) (hb : ∀ p ∈ b, InR b.length p.2 ∧ Inc p.2) : ∀ p ∈ a ++ B, InR (a ++ B).length p.2 ∧ Inc p.2 := by
  have hl := h.len
  intro p hp
  rw [List.length_append]
  rcases List.mem_append.1 hp with hp | hp
  · exact ⟨(ha p hp).1.mono (by omega), (ha p hp).2⟩
  · obtain ⟨i, hi, rfl⟩ := List.getElem_of_mem hp
    rw [h.at_ i (by omega) hi]
    obtain ⟨h1, h2⟩ := hb _ (List.getElem_mem (show i < b.length by omega))
    constructor
    · intro k hk
      have hk2 : k < b[i].2.length := by simpa [sh] using hk
      have := h1 k hk2
      simp only [sh, List.getElem_map]
      omega
    · intro k hk h0
      have hk2 : k < b[i].2.length := by simpa [sh] using hk
      have := h2 k hk2 h0
      simp only [sh, List.getElem_map]
      omega
theorem Pt.topo (h : Pt a b B) {oa : List Int} (ha : Topo a oa) (hf : Full a oa) (hR : NdR b) {l : List Int} (hl : Topo b l) : Topo (a ++ B) (oa ++ sh a.length l) := by
  have hBl := h.len
  induction hl with
  | nil => simpa [sh] using ha.app
  | snoc l i hT hi hn hx hg ih =>
    have e : sh a.length (l ++ [(i : Int)]) = sh a.length l ++ [((a.length + i : Nat) : Int)] := by
      unfold sh; rw [List.map_append]; simp; omega
    rw [e, ← List.append_assoc]
    refine .snoc _ _ ih (by rw [List.length_append]; omega) (fun hm => ?_) (fun x hxm => ?_) (fun k hk => ?_)
    · rcases List.mem_append.1 hm with g | g
      · have := ha.range _ g; omega
      · obtain ⟨y, hy, e2⟩ := List.mem_map.1 g
        exact hn ((show y = (i : Int) by omega) ▸ hy)
    · rw [h.nd_r hi] at hxm
      obtain ⟨y, hy, rfl⟩ := List.mem_map.1 hxm
      exact List.mem_append_right _ (List.mem_map.2 ⟨y, hx y hy, rfl⟩)
    · rcases Nat.lt_or_ge k a.length with g | g
      · exact .inl (List.mem_append_left _ (hf k g))
      · obtain ⟨j, rfl⟩ : ∃ j, k = a.length + j := ⟨k - a.length, by omega⟩
        rcases hg j (by omega) with g2 | ⟨x, hx2, hx3⟩
        · exact .inl (List.mem_append_right _ (List.mem_map.2 ⟨(j : Int), g2, by omega⟩))
        · refine .inr ⟨x + (a.length : Int), by rw [h.nd_r (by omega)]; exact List.mem_map.2 ⟨x, hx2, rfl⟩, fun hm => ?_⟩
          rcases List.mem_append.1 hm with g3 | g3
          · have h1 := ha.range _ g3
            have h2 := hR j (by omega) x hx2
            omega
          · obtain ⟨y, hy, e2⟩ := List.mem_map.1 g3
            exact hx3 ((show y = x by omega) ▸ hy)
theorem Pt.order (h : Pt a b B) (ha : ∀ p ∈ a, InR a.length p.2 ∧ Inc p.2) (hb : ∀ p ∈ b, InR b.length p.2 ∧ Inc p.2) (hl : a.length + b.length ≤ 24) : (orderF (a ++ B)).2 = ((orderF a).2 && (orderF b).2) ∧ ((orderF (a ++ B)).2 = true → (orderF (a ++ B)).1 = (orderF a).1 ++ sh a.length (orderF b).1) := by
  have hBl := h.len
  have va : validF a = 0 := validF_zero.2 ⟨by omega, ha⟩
  have vb : validF b = 0 := validF_zero.2 ⟨by omega, hb⟩
  have vc : validF (a ++ B) = 0 := validF_zero.2 ⟨by rw [List.length_append]; omega, h.okn ha hb⟩
  have back : (orderF (a ++ B)).2 = true → (orderF a).2 = true ∧ (orderF b).2 = true := by
    intro g
    obtain ⟨r, hr⟩ := (ok_iff vc).1 g
    refine ⟨(ok_iff va).2 ⟨r, fun i hi x hx => hr i (by rw [List.length_append]; omega) x (by rw [nd_app hi]; exact hx)⟩, (ok_iff vb).2 ⟨fun i => r (a.length + i), fun i hi x hx => ?_⟩⟩
    have h1 := NdR.of vb i hi x hx
    have h2 := hr (a.length + i) (by rw [List.length_append]; omega) (x + (a.length : Int)) (by rw [h.nd_r hi]; exact List.mem_map.2 ⟨x, hx, rfl⟩)
    rw [show (x + (a.length : Int)).toNat = a.length + x.toNat by omega] at h2
    exact h2
  have forth : (orderF a).2 = true → (orderF b).2 = true → orderF (a ++ B) = ((orderF a).1 ++ sh a.length (orderF b).1, true) := by
    intro g1 g2
    obtain ⟨t1, l1⟩ := order_topo g1
    obtain ⟨t2, l2⟩ := order_topo g2
    exact order_eq vc (h.topo t1 (t1.full l1) (NdR.of vb) t2) (by rw [List.length_append, List.length_append]; simp only [sh, List.length_map]; omega)
  constructor
  · rcases Bool.eq_false_or_eq_true (orderF (a ++ B)).2 with g | g
    · obtain ⟨g1, g2⟩ := back g
      rw [g, g1, g2]; rfl
    · rw [g]
      rcases Bool.eq_false_or_eq_true (orderF a).2 with g1 | g1
      · rcases Bool.eq_false_or_eq_true (orderF b).2 with g2 | g2
        · rw [forth g1 g2] at g; cases g
        · rw [g2, Bool.and_false]
      · rw [g1, Bool.false_and]
  · intro g
    obtain ⟨g1, g2⟩ := back g
    rw [forth g1 g2]
end
end Go.Proofs.Ytiggomgmncaabaa
