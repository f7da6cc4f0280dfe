/- Orders: layers. -/
import Derived.Test.Ytdicjhnhbdanlaaord4
namespace Go.Proofs.Ytdicjhnhbdanlaa
set_option linter.unusedSimpArgs false
set_option linter.unusedVariables false
set_option linter.unnecessarySimpa false
open Go.Abs
set_option maxRecDepth 100000
theorem orderG_spec {N : List NL} : ∀ {f : Nat} {ds : List Bool} {out o : List Int}, orderG N f ds out = some o → o.length = out.length + f ∧ ((∀ x ∈ out, 0 ≤ x ∧ x < (N.length : Int)) → ∀ x ∈ o, 0 ≤ x ∧ x < (N.length : Int))
  | 0, ds, out, o, h => by
    rw [orderG] at h
    injection h with h
    subst h
    exact ⟨rfl, fun h => h⟩
  | f + 1, ds, out, o, h => by
    rw [orderG] at h
    split at h
    · cases h
    · rename_i hne
      obtain ⟨h1, h2⟩ := orderG_spec h
      refine ⟨by simp at h1; omega, fun h3 => h2 fun x hx => ?_⟩
      rcases List.mem_append.1 hx with hx | hx
      · exact h3 x hx
      · rw [List.mem_singleton.1 hx]
        have := nxt_le N ds
        omega
theorem orderF_ok {N : List NL} (h : (orderF N).2 = true) : validF N = 0 ∧ orderG N N.length (List.replicate N.length false) [] = some (orderF N).1 := by
  unfold orderF orderO at h ⊢
  by_cases hv : validF N = 0
  · rw [if_neg (by omega)] at h ⊢
    refine ⟨hv, ?_⟩
    cases ho : orderG N N.length (List.replicate N.length false) [] with
    | none => rw [ho] at h; cases h
    | some o => rfl
  · rw [if_pos hv] at h; cases h
theorem orderF_range {N : List NL} (h : (orderF N).2 = true) : (orderF N).1.length = N.length ∧ ∀ x ∈ (orderF N).1, 0 ≤ x ∧ x < (N.length : Int) := by
  obtain ⟨_, h1⟩ := orderF_ok h
  obtain ⟨h2, h3⟩ := orderG_spec h1
  exact ⟨by simpa using h2, h3 (by simp)⟩
theorem inc_ge {n : Nat} {l : List Int} (h1 : InR n l) (h2 : Inc l) : ∀ (k : Nat) (h : k < l.length), (k : Int) ≤ l[k]
  | 0, h => (h1 0 h).1
  | k + 1, h => by
    have := inc_ge h1 h2 k (by omega)
    have h3 := h2 (k + 1) h (by omega)
    simp only [Nat.add_sub_cancel] at h3
    omega
theorem inc_len {n : Nat} {l : List Int} (h1 : InR n l) (h2 : Inc l) : l.length ≤ n := by
  rcases Nat.eq_zero_or_pos l.length with h | h
  · omega
  · have h3 := inc_ge h1 h2 (l.length - 1) (by omega)
    have h4 := (h1 (l.length - 1) (by omega)).2
    omega
/-- One need of an item is looked at. -/
def layS (i : Nat) (out : List Int) (x : Int) : List Int := out.set i (max (out.getD i 0) (out.getD x.toNat 0 + 1))
def layG (N : List NL) : List Int → List Int → List Int
  | [], out => out
  | i :: r, out => layG N r ((nd N i.toNat).foldl (layS i.toNat) out)
def layersF (N : List NL) : List Int × Bool := if (orderF N).2 then (layG N (orderF N).1 (List.replicate N.length 0), true) else ([], false)
def Bd (out : List Int) (B : Nat) : Prop := ∀ (k : Nat) (h : k < out.length), 0 ≤ out[k] ∧ out[k] ≤ B
theorem layS_len (i : Nat) (out : List Int) (x : Int) : (layS i out x).length = out.length := by simp [layS]
theorem Bd.mono {out : List Int} {B C : Nat} (h : Bd out B) (hbc : B ≤ C) : Bd out C := fun k hk => by have := h k hk; omega
theorem Bd.step {out : List Int} {B i : Nat} {x : Int} (h : Bd out B) (hi : i < out.length) (hx : x.toNat < out.length) : Bd (layS i out x) (B + 1) := by
  intro k hk
  have hk' : k < out.length := by rwa [layS_len] at hk
  have e : (layS i out x)[k] = if i = k then max out[i] (out[x.toNat] + 1) else out[k] := by
    simp only [layS, List.getElem_set, getD_at hi, getD_at hx]
  rw [e]
  have h1 := h i hi
  have h2 := h x.toNat hx
  have h3 := h k hk'
  split
  · omega
  · omega
theorem foldl_drop {α β : Type} (f : β → α → β) {l : List α} {j : Nat} (h : j < l.length) (b : β) : (l.drop j).foldl f b = (l.drop (j + 1)).foldl f (f b l[j]) := by
  rw [List.drop_eq_getElem_cons h]; rfl
def laScSC0 : Sc := (.one 9 (.take 10 (.take 11 (.take 12 (.one 13 .done)))))
def laScSC1 : Sc := (.take 10 (.one 5 (.take 11 (.take 12 (.one 13 .done)))))
def laSc : Sc := (.take 0 (.take 1 (.take 2 (.take 3 (.take 4 (.take 6 (.take 7 (.take 8 (.two 5 9 laScSC0 laScSC1)))))))))
def lbScSC0 : Sc := (.one 19 (.take 21 (.load 22 (.take 23 (.one 24 (.take 25 (.take 26 (.take 27 (.one 28 .done)))))))))
def lbScSC1 : Sc := (.one 24 (.take 25 (.take 26 (.take 27 (.one 28 .done)))))
def lbScSC2 : Sc := (.take 25 (.one 11 (.take 26 (.take 27 (.one 28 .done)))))
def lbScSC3 : Sc := (.take 21 (.load 22 (.take 23 (.two 11 24 lbScSC1 lbScSC2))))
def lbSc : Sc := (.take 0 (.take 1 (.take 2 (.take 3 (.load 4 (.take 5 (.take 6 (.take 7 (.take 8 (.load 9 (.take 10 (.take 12 (.take 13 (.take 14 (.take 15 (.take 16 (.load 17 (.take 18 (.take 20 (.two 11 19 lbScSC0 lbScSC3))))))))))))))))))))
end Go.Proofs.Ytdicjhnhbdanlaa
