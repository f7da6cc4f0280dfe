/- Suspend: the ways down and up leave whole states. -/
import Derived.Test.YtdicjhnhbdanlaasusE
namespace Go.Proofs.Ytdicjhnhbdanlaa
set_option linter.unusedSimpArgs false
set_option linter.unusedVariables false
set_option linter.unnecessarySimpa false
open Go.Abs
theorem whl_iff {N : List NL} {s : List Bool} : wholeF N s = true ↔ s.length = N.length ∧ ∀ i, i < N.length → s.getD i false = true → ∀ x ∈ nd N i, s.getD x.toNat false = true := by
  unfold wholeF
  rw [decide_eq_true_iff]
  refine and_congr Iff.rfl ⟨fun h i hi hs x hx => ?_, fun h i hi => ?_⟩
  · have h1 := h i hi
    unfold wholeAt at h1
    rw [hs, Bool.not_true, Bool.false_or, Bool.not_eq_true', List.any_eq_false] at h1
    simpa using h1 x hx
  · unfold wholeAt
    cases hs : s.getD i false with
    | false => rfl
    | true =>
      rw [List.any_eq_false.2]
      · rfl
      · intro x hx
        rw [h i hi hs x hx]; simp
theorem Topo.pw {N : List NL} {l : List Int} (h : Topo N l) : l.Pairwise fun u v => v ∉ nd N u.toNat := by
  induction h with
  | nil => exact List.Pairwise.nil
  | snoc l i h hi hn hx hg ih =>
    rw [List.pairwise_append]
    refine ⟨ih, List.pairwise_singleton .., fun a ha b hb hm => ?_⟩
    rw [List.mem_singleton.1 hb] at hm
    have hr := h.range a ha
    have := (h.before a.toNat (by rw [Int.toNat_of_nonneg hr.1]; exact ha) _ hm).1
    exact hn this
theorem Topo.irr {N : List NL} {l : List Int} (h : Topo N l) {x : Int} (hx : x ∈ l) : x ∉ nd N x.toNat := fun hm => by
  have hr := h.range x hx
  have := (h.before x.toNat (by rw [Int.toNat_of_nonneg hr.1]; exact hx) x hm).2
  rw [Int.toNat_of_nonneg hr.1] at this
  omega
theorem mem_take {α : Type} {l : List α} {k p : Nat} (hp : p < l.length) (h : p < k) : l[p] ∈ l.take k := by
  have h1 : p < (l.take k).length := by rw [List.length_take]; omega
  have := List.getElem_mem h1
  rwa [List.getElem_take] at this
theorem of_mem_take {α : Type} {l : List α} {k : Nat} {x : α} (h : x ∈ l.take k) : ∃ (p : Nat) (hp : p < l.length), p < k ∧ l[p] = x := by
  obtain ⟨p, hp, e⟩ := List.getElem_of_mem h
  rw [List.length_take] at hp
  rw [List.getElem_take] at e
  exact ⟨p, by omega, by omega, e⟩
theorem nodup_filter {l : List Int} {p : Int → Bool} (h : l.Nodup) : (l.filter p).Nodup := List.Pairwise.filter p h
theorem nodup_rev {l : List Int} (h : l.Nodup) : l.reverse.Nodup := List.pairwise_reverse.2 (List.Pairwise.imp (fun h e => h e.symm) h)
theorem way_down {N : List NL} {a wk : List Bool} (ho : (orderF N).2 = true) (ha : wholeF N a = true) (hk : wholeF N wk = true) : Way N a ((orderF N).1.reverse.filter (keepD a wk)) false := by
  obtain ⟨hT, hlen⟩ := order_topo ho
  have hf := hT.full hlen
  obtain ⟨hal, hac⟩ := whl_iff.1 ha
  obtain ⟨hkl, hkc⟩ := whl_iff.1 hk
  have hm : ∀ x, x ∈ (orderF N).1.reverse.filter (keepD a wk) ↔ x ∈ (orderF N).1 ∧ keepD a wk x = true := fun x => by rw [List.mem_filter, List.mem_reverse]
  have hrng : ∀ x ∈ (orderF N).1.reverse.filter (keepD a wk), 0 ≤ x ∧ x < (N.length : Int) := fun x hx => hT.range x ((hm x).1 hx).1
  have hpw : ((orderF N).1.reverse.filter (keepD a wk)).Pairwise fun u v => u ∉ nd N v.toNat := List.Pairwise.filter _ (List.pairwise_reverse.2 hT.pw)
  refine ⟨nodup_filter (nodup_rev hT.nodup), hrng, hal, fun x hx => ?_, fun k _ => ?_⟩
  · have := ((hm x).1 hx).2
    simp [keepD, keepDB] at this
    exact this.1
  · generalize hL : (orderF N).1.reverse.filter (keepD a wk) = L at hm hrng hpw
    have hx0 : ∀ x ∈ L.take k, 0 ≤ x := fun x hx => (hrng x (List.mem_of_mem_take hx)).1
    refine whl_iff.2 ⟨by rw [setAll_len, hal], fun i hi hs x hx => ?_⟩
    have hR := (NdR.of (orderF_ok ho).1) i hi x hx
    rw [setAll_at _ _ _ _ (by omega) hx0] at hs ⊢
    rw [Int.toNat_of_nonneg hR.1]
    by_cases h1 : (i : Int) ∈ L.take k
    · rw [if_pos h1] at hs; cases hs
    · rw [if_neg h1] at hs
      have hax := hac i hi hs x hx
      rw [if_neg]
      · exact hax
      · intro h2
        obtain ⟨p, hp, hpk, e⟩ := of_mem_take h2
        have hxL : x ∈ L := e ▸ List.getElem_mem hp
        have hkx := ((hm x).1 hxL).2
        simp [keepD, keepDB] at hkx
        have hki : keepD a wk (i : Int) = true := by
          simp only [keepD, keepDB, Int.toNat_natCast, hs, Bool.true_and]
          cases h3 : wk.getD i false with
          | false => rfl
          | true =>
            have := hkc i hi h3 x hx
            simp_all
        have hiL : (i : Int) ∈ L := (hm _).2 ⟨hf i hi, hki⟩
        obtain ⟨q, hq, e2⟩ := List.getElem_of_mem hiL
        rcases Nat.lt_trichotomy p q with h3 | h3 | h3
        · have := List.pairwise_iff_getElem.1 hpw p q hp hq h3
          rw [e, e2, Int.toNat_natCast] at this
          exact this hx
        · subst h3
          rw [e] at e2
          subst e2
          exact hT.irr (hf i hi) (by rwa [Int.toNat_natCast])
        · exact h1 (e2 ▸ mem_take hq (by omega))
theorem way_up {N : List NL} {s a : List Bool} (ho : (orderF N).2 = true) (hs : wholeF N s = true) (ha : wholeF N a = true) : Way N s ((orderF N).1.filter (keepU s a)) true := by
  obtain ⟨hT, hlen⟩ := order_topo ho
  have hf := hT.full hlen
  obtain ⟨hal, hac⟩ := whl_iff.1 ha
  obtain ⟨hsl, hsc⟩ := whl_iff.1 hs
  have hm : ∀ x, x ∈ (orderF N).1.filter (keepU s a) ↔ x ∈ (orderF N).1 ∧ keepU s a x = true := fun x => List.mem_filter
  have hrng : ∀ x ∈ (orderF N).1.filter (keepU s a), 0 ≤ x ∧ x < (N.length : Int) := fun x hx => hT.range x ((hm x).1 hx).1
  have hpw : ((orderF N).1.filter (keepU s a)).Pairwise fun u v => v ∉ nd N u.toNat := List.Pairwise.filter _ hT.pw
  refine ⟨nodup_filter hT.nodup, hrng, hsl, fun x hx => ?_, fun k _ => ?_⟩
  · have := ((hm x).1 hx).2
    simp [keepU, keepUB] at this
    simpa using this.1
  · generalize hL : (orderF N).1.filter (keepU s a) = L at hm hrng hpw
    have hx0 : ∀ x ∈ L.take k, 0 ≤ x := fun x hx => (hrng x (List.mem_of_mem_take hx)).1
    refine whl_iff.2 ⟨by rw [setAll_len, hsl], fun i hi hv x hx => ?_⟩
    have hR := (NdR.of (orderF_ok ho).1) i hi x hx
    rw [setAll_at _ _ _ _ (by omega) hx0] at hv ⊢
    rw [Int.toNat_of_nonneg hR.1]
    by_cases h2 : x ∈ L.take k
    · rw [if_pos h2]
    · rw [if_neg h2]
      by_cases h1 : (i : Int) ∈ L.take k
      · obtain ⟨q, hq, hqk, e⟩ := of_mem_take h1
        have hiL : (i : Int) ∈ L := e ▸ List.getElem_mem hq
        have hki := ((hm _).1 hiL).2
        simp [keepU, keepUB] at hki
        have hax := hac i hi (by simpa using hki.2) x hx
        cases h3 : s.getD x.toNat false with
        | true => rfl
        | false =>
          exfalso
          have hxo : x ∈ (orderF N).1 := by
            have := hf x.toNat (by omega)
            rwa [Int.toNat_of_nonneg hR.1] at this
          have hxL : x ∈ L := (hm x).2 ⟨hxo, by simp [keepU, keepUB]; simp_all⟩
          obtain ⟨p, hp, e2⟩ := List.getElem_of_mem hxL
          rcases Nat.lt_trichotomy p q with h4 | h4 | h4
          · exact h2 (e2 ▸ mem_take hp (by omega))
          · subst h4
            rw [e] at e2
            subst e2
            exact hT.irr hxo (by rwa [Int.toNat_natCast])
          · have := List.pairwise_iff_getElem.1 hpw q p hq hp h4
            rw [e, e2, Int.toNat_natCast] at this
            exact this hx
      · rw [if_neg h1] at hv
        exact hsc i hi hv x hx
end Go.Proofs.Ytdicjhnhbdanlaa
