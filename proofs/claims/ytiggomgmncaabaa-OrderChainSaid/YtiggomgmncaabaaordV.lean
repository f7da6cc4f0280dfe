/- Orders: below and above; plain theory. -/
import Derived.Test.YtiggomgmncaabaaordU
namespace Go.Proofs.Ytiggomgmncaabaa
set_option linter.unusedSimpArgs false
set_option linter.unusedVariables false
set_option linter.unnecessarySimpa false
open Go.Abs
set_option maxRecDepth 100000
theorem Reach.lt {N : List NL} {d : Bool} {items : List Int} (hi : ∀ x ∈ items, x < (N.length : Int)) {k : Nat} (h : Reach N d items k) : k < N.length := by
  induction h with
  | base k h => have := hi _ h; omega
  | step i k h h1 h2 e ih => exact h2
theorem edge_flip (N : List NL) (d : Bool) (i k : Nat) : edge N d i k = edge N (!d) k i := by
  cases d <;> rfl
theorem Reach.front {N : List NL} {d : Bool} {i k y : Nat} (hi : i < N.length) (hk : k < N.length) (e : edge N d i k = true) (h : Reach N d [(k : Int)] y) : Reach N d [(i : Int)] y := by
  induction h with
  | base y h =>
    have : y = k := by have := List.mem_singleton.1 h; omega
    subst this
    exact .step i y (.base i (by simp)) hi hk e
  | step j y h h1 h2 e2 ih => exact .step j y ih h1 h2 e2
theorem Reach.flip {N : List NL} {d : Bool} {x y : Nat} (h : Reach N d [(x : Int)] y) : Reach N (!d) [(y : Int)] x := by
  induction h with
  | base k h =>
    have : k = x := by have := List.mem_singleton.1 h; omega
    subst this
    exact .base k (by simp)
  | step i k h h1 h2 e ih =>
    rw [edge_flip] at e
    exact ih.front h2 h1 e
/-- What is below x, in the order; what is above y, the other way round. -/
structure DU (N : List NL) (x y : Nat) (down up : List Int) : Prop where
  rd : RespP N down
  ru : RespP N up.reverse
  iff : down.contains (y : Int) = up.contains (x : Int)
  self1 : down.contains (x : Int) = true
  self2 : up.contains (y : Int) = true
  dn : ∀ i, i < N.length → ∀ k ∈ nd N i, down.contains (i : Int) = true → down.contains k = true
  upw : ∀ i, i < N.length → ∀ k ∈ nd N i, up.contains k = true → up.contains (i : Int) = true
theorem du_of {N : List NL} (hok : (orderF N).2 = true) {x y : Nat} (hx : x < N.length) (hy : y < N.length) : badF N [(x : Int)] = 0 ∧ badF N [(y : Int)] = 0 ∧ DU N x y (belowF N [(x : Int)]) (aboveF N [(y : Int)]) := by
  have h0 := (orderF_ok hok).1
  have hR := NdR.of h0
  obtain ⟨hT, hl⟩ := order_topo hok
  have hF := hT.full hl
  have hin : ∀ z : Nat, z < N.length → InR N.length [(z : Int)] := by
    intro z hz k hk
    have : k = 0 := by simp at hk; omega
    subst this
    simp; omega
  have hb : ∀ z : Nat, z < N.length → badF N [(z : Int)] = 0 := by
    intro z hz
    rw [badF, if_neg (by omega), if_neg (by simpa using hin z hz), if_neg (by rw [hok]; simp)]
  have hbx := hb x hx
  have hby := hb y hy
  refine ⟨hbx, hby, ?_⟩
  have e1 : belowF N [(x : Int)] = (orderF N).1.filter fun z => isIn (cloF N true [(x : Int)]) z.toNat := by rw [belowF, if_neg (by omega)]
  have e2 : (aboveF N [(y : Int)]).reverse = (orderF N).1.filter fun z => isIn (cloF N false [(y : Int)]) z.toNat := by
    rw [aboveF, if_neg (by omega), ← List.filter_reverse, List.reverse_reverse]
  have m1 : ∀ z : Nat, z < N.length → ((z : Int) ∈ belowF N [(x : Int)] ↔ Reach N true [(x : Int)] z) := by
    intro z hz
    rw [e1, List.mem_filter, Int.toNat_natCast, (cloF_clo N true [(x : Int)]).2 z hz]
    exact ⟨fun h => h.2, fun h => ⟨hF z hz, h⟩⟩
  have m2 : ∀ z : Nat, z < N.length → ((z : Int) ∈ aboveF N [(y : Int)] ↔ Reach N false [(y : Int)] z) := by
    intro z hz
    rw [← List.mem_reverse, e2, List.mem_filter, Int.toNat_natCast, (cloF_clo N false [(y : Int)]).2 z hz]
    exact ⟨fun h => h.2, fun h => ⟨hF z hz, h⟩⟩
  have rs : ∀ p : Int → Bool, RespP N ((orderF N).1.filter p) := fun p => resp_of h0 (fun z hz => hT.range z (List.mem_filter.1 hz).1) (hT.pw.1.filter p) fun z hz => hT.pw.2 z (List.mem_filter.1 hz).1
  refine ⟨by rw [e1]; exact rs _, by rw [e2]; exact rs _, ?_, ?_, ?_, fun i hi k hk h => ?_, fun i hi k hk h => ?_⟩
  · rw [Bool.eq_iff_iff, List.contains_iff_mem, List.contains_iff_mem, m1 y hy, m2 x hx]
    exact ⟨fun h => h.flip, fun h => h.flip⟩
  · rw [List.contains_iff_mem, m1 x hx]; exact .base x (by simp)
  · rw [List.contains_iff_mem, m2 y hy]; exact .base y (by simp)
  · have hr := hR i hi k hk
    obtain ⟨q, rfl⟩ := Int.eq_ofNat_of_zero_le hr.1
    rw [List.contains_iff_mem] at h ⊢
    rw [m1 i hi] at h
    rw [m1 q (by omega)]
    exact .step i q h hi (by omega) (by simpa [edge] using hk)
  · have hr := hR i hi k hk
    obtain ⟨q, rfl⟩ := Int.eq_ofNat_of_zero_le hr.1
    rw [List.contains_iff_mem] at h ⊢
    rw [m2 q (by omega)] at h
    rw [m2 i hi]
    exact .step q i h (by omega) hi (by simpa [edge] using hk)
end Go.Proofs.Ytiggomgmncaabaa
