/- What is chosen in a tree of domains. -/
import Derived.Test.YtpkfbdjeldmokaaidleF
namespace Go.Proofs.Ytpkfbdjeldmokaa
set_option linter.unusedSimpArgs false
set_option linter.unusedVariables false
set_option linter.unnecessarySimpa false
open Go.Abs
set_option maxRecDepth 100000
section
variable {d : List Dom} {s : List IL} {p q : List Int}
theorem nestS_other {i k : Nat} {ch : List Int} (h : k ≠ i) : (nestS d s p q i ch).getD k 0 = ch.getD k 0 := by
  unfold nestS
  split
  · simp only [List.getD_eq_getElem?_getD, List.getElem?_set]; rw [if_neg (by omega)]
  · rfl
theorem nestG_len : ∀ (n : Nat) (ch : List Int), (nestG d s p q n ch).length = ch.length
  | 0, _ => rfl
  | n + 1, ch => by rw [nestG, nestG_len n, nestS_len]
theorem nestG_keep : ∀ (n : Nat) (ch : List Int) (k : Nat), n ≤ k → (nestG d s p q n ch).getD k 0 = ch.getD k 0
  | 0, _, _, _ => rfl
  | n + 1, ch, k, h => by rw [nestG, nestG_keep n _ k (by omega), nestS_other (by omega)]
theorem deep_congr {ch ch' : List Int} {a : Nat} (ht : Tree d) (h : ∀ k, a < k → ch.getD k 0 = ch'.getD k 0) : DeepAt d s ch a ↔ DeepAt d s ch' a := by
  constructor
  · intro hd k hk hp
    have := ht k hk
    rw [← h k (by omega)]
    exact hd k hk hp
  · intro hd k hk hp
    have := ht k hk
    rw [h k (by omega)]
    exact hd k hk hp
def bestAt (s : List IL) (p q : List Int) (i : Nat) : Nat := best ((s[i]?.map (·.l)).getD []) (p.getD i 0) (q.getD i 0)
theorem nestG_spec (ht : Tree d) : ∀ (n : Nat) (ch : List Int) (i : Nat), n ≤ ch.length → i < n → (∀ k, k < n → ch.getD k 0 = 0) →
    (nestG d s p q n ch).getD i 0 = if (d[i]?.map (·.always)).getD true = false ∧ DeepAt d s (nestG d s p q n ch) i then (bestAt s p q i : Int) else 0
  | n + 1, ch, i, hn, hi, hz => by
    show (nestG d s p q n (nestS d s p q n ch)).getD i 0 = if _ ∧ DeepAt d s (nestG d s p q n (nestS d s p q n ch)) i then _ else 0
    rcases Nat.lt_or_ge i n with h | h
    · exact nestG_spec ht n _ i (by rw [nestS_len]; omega) h fun k hk => by rw [nestS_other (by omega)]; exact hz k (by omega)
    · obtain rfl : i = n := by omega
      rw [nestG_keep _ _ _ (Nat.le_refl _)]
      have hc : DeepAt d s (nestG d s p q i (nestS d s p q i ch)) i ↔ DeepAt d s ch i := deep_congr ht fun k hk => by rw [nestG_keep _ _ _ (by omega), nestS_other (by omega)]
      by_cases hd : (d[i]?.map (·.always)).getD true = false ∧ DeepAt d s ch i
      · simp only [hc]
        rw [if_pos hd]
        unfold nestS
        rw [if_pos hd]
        simp [show i < ch.length by omega, bestAt]
      · simp only [hc]
        rw [if_neg hd]
        unfold nestS
        rw [if_neg hd]
        exact hz i (by omega)
/-- What is chosen. -/
theorem nestV_spec (ht : Tree d) (e : nestE d s p q = 0) : (nestV d s p q).length = d.length ∧ ∀ i, i < d.length → (nestV d s p q).getD i 0 = if (d[i]?.map (·.always)).getD true = false ∧ DeepAt d s (nestV d s p q) i then (bestAt s p q i : Int) else 0 := by
  have ev : nestV d s p q = nestG d s p q d.length (List.replicate d.length 0) := by rw [nestV, e]; rfl
  rw [ev]
  refine ⟨by rw [nestG_len]; simp, fun i hi => nestG_spec ht _ _ i (by simp) hi fun k hk => ?_⟩
  simp [List.getD_eq_getElem?_getD, hk]
end
theorem made_right {d : List Dom} {s : List IL} (ht : Tree d) (h16 : d.length ≤ 16) (hm : MadeL s) (hl : s.length = d.length) : IRight d s :=
  ⟨domOk_zero.2 ⟨h16, ht⟩, hl, fun k hk => made_ok (hm k hk).1 (hm k hk).2.1 (hm k hk).2.2⟩
end Go.Proofs.Ytpkfbdjeldmokaa
