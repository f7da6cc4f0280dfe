/- Registers: laws of bits. -/
import Derived.Test.YtdaggbjphopohaaregA
namespace Go.Proofs.Ytdaggbjphopohaa
set_option linter.unusedSimpArgs false
set_option linter.unusedVariables false
set_option linter.unnecessarySimpa false
open Go.Abs
set_option maxRecDepth 100000
theorem shl_bit (v s i : Nat) : (v * 2 ^ s).testBit i = (decide (s ≤ i) && v.testBit (i - s)) := by
  rw [Nat.mul_comm, Nat.testBit_two_pow_mul]
theorem val_bit {v w i : Nat} (h : v < 2 ^ w) (hi : w ≤ i) : v.testBit i = false := Nat.testBit_lt_two_pow (Nat.lt_of_lt_of_le h (two_pow_le hi))
theorem x_bit {x i : Nat} (h : x < 4294967296) (hi : 32 ≤ i) : x.testBit i = false := val_bit (w := 32) (by omega) hi
theorem putN_bit {f : Fld} (hs : f.Shaped) {x v : Nat} (hx : x < 4294967296) (hv : v < 2 ^ f.width.toNat) (i : Nat) :
    (putN f x v).testBit i = if f.shift.toNat ≤ i ∧ i < f.shift.toNat + f.width.toNat then v.testBit (i - f.shift.toNat) else x.testBit i := by
  obtain ⟨h1, h2, h3, h4, h5⟩ := id hs
  unfold putN
  rw [Nat.testBit_or, Nat.testBit_and, Nat.testBit_xor, maskN_bit hs, shl_bit, show 4294967295 = 2 ^ 32 - 1 by omega, Nat.testBit_two_pow_sub_one]
  by_cases h : f.shift.toNat ≤ i ∧ i < f.shift.toNat + f.width.toNat
  · rw [if_pos h]
    have : i < 32 := by omega
    simp [h.1, h.2, this]
  · rw [if_neg h]
    by_cases hi : i < 32
    · by_cases h6 : f.shift.toNat ≤ i
      · have : v.testBit (i - f.shift.toNat) = false := val_bit hv (by omega)
        rw [this, decide_eq_false h]; simp [hi]
      · rw [decide_eq_false h, decide_eq_false h6]; simp [hi]
    · rw [x_bit hx (by omega)]
      by_cases h6 : f.shift.toNat ≤ i
      · have : v.testBit (i - f.shift.toNat) = false := val_bit hv (by omega)
        simp [this]
      · simp [h6]
theorem getN_bit {f : Fld} (hs : f.Shaped) (x j : Nat) : (getN f x).testBit j = (x.testBit (j + f.shift.toNat) && decide (j < f.width.toNat)) := by
  unfold getN
  rw [Nat.testBit_div_two_pow, Nat.testBit_and, maskN_bit hs]
  congr 1
  exact decide_eq_decide.2 ⟨fun h => by omega, fun h => by omega⟩
theorem getN_small {f : Fld} (hs : f.Shaped) (x : Nat) : getN f x < 2 ^ f.width.toNat := by
  refine Nat.lt_pow_two_of_testBit _ fun i hi => ?_
  rw [getN_bit hs]
  simp; omega
theorem get_put {f : Fld} (hs : f.Shaped) {x v : Nat} (hx : x < 4294967296) (hv : v < 2 ^ f.width.toNat) : getN f (putN f x v) = v := by
  apply Nat.eq_of_testBit_eq
  intro i
  rw [getN_bit hs, putN_bit hs hx hv]
  by_cases h : i < f.width.toNat
  · rw [if_pos (by omega)]; simp [h]
  · have := val_bit hv (show f.width.toNat ≤ i by omega)
    simp [h, this]
theorem put_get {f : Fld} (hs : f.Shaped) {x : Nat} (hx : x < 4294967296) : putN f x (getN f x) = x := by
  apply Nat.eq_of_testBit_eq
  intro i
  rw [putN_bit hs hx (getN_small hs x)]
  split
  · rw [getN_bit hs, show i - f.shift.toNat + f.shift.toNat = i by omega]
    simp; omega
  · rfl
theorem put_put {f : Fld} (hs : f.Shaped) {x v w : Nat} (hx : x < 4294967296) (hv : v < 2 ^ f.width.toNat) (hw : w < 2 ^ f.width.toNat) : putN f (putN f x v) w = putN f x w := by
  apply Nat.eq_of_testBit_eq
  intro i
  rw [putN_bit hs (putN_lt hs hx hv) hw, putN_bit hs hx hw, putN_bit hs hx hv]
  split <;> rfl
/-- Two fields without a common bit. -/
def Fld.Apart (f g : Fld) : Prop := f.shift + f.width ≤ g.shift ∨ g.shift + g.width ≤ f.shift
theorem Fld.Apart.symm {f g : Fld} (h : f.Apart g) : g.Apart f := Or.symm h
theorem put_comm {f g : Fld} (hf : f.Shaped) (hg : g.Shaped) (ha : f.Apart g) {x v w : Nat} (hx : x < 4294967296) (hv : v < 2 ^ f.width.toNat) (hw : w < 2 ^ g.width.toNat) : putN f (putN g x w) v = putN g (putN f x v) w := by
  have hf' := id hf
  have hg' := id hg
  obtain ⟨h1, h2, h3, h4, h5⟩ := hf'
  obtain ⟨k1, k2, k3, k4, k5⟩ := hg'
  unfold Fld.Apart at ha
  apply Nat.eq_of_testBit_eq
  intro i
  rw [putN_bit hf (putN_lt hg hx hw) hv, putN_bit hg (putN_lt hf hx hv) hw, putN_bit hf hx hv, putN_bit hg hx hw]
  split
  · rw [if_neg (by omega)]
  · rfl
theorem get_other {f g : Fld} (hf : f.Shaped) (hg : g.Shaped) (ha : f.Apart g) {x w : Nat} (hx : x < 4294967296) (hw : w < 2 ^ g.width.toNat) : getN f (putN g x w) = getN f x := by
  obtain ⟨h1, h2, h3, h4, h5⟩ := id hf
  obtain ⟨k1, k2, k3, k4, k5⟩ := id hg
  unfold Fld.Apart at ha
  apply Nat.eq_of_testBit_eq
  intro i
  rw [getN_bit hf, getN_bit hf, putN_bit hg hx hw]
  by_cases h : i < f.width.toNat
  · rw [if_neg (by omega)]
  · simp [h]
theorem put_or {f : Fld} (hs : f.Shaped) {x v : Nat} (hx : x < 4294967296) (hv : v < 2 ^ f.width.toNat) : putN f x v ||| maskN f = x ||| maskN f := by
  apply Nat.eq_of_testBit_eq
  intro i
  rw [Nat.testBit_or, Nat.testBit_or, putN_bit hs hx hv, maskN_bit hs]
  by_cases h : f.shift.toNat ≤ i ∧ i < f.shift.toNat + f.width.toNat
  · rw [decide_eq_true h]; simp
  · rw [if_neg h]
/-- What the maker of slots makes. -/
def MadeS (l : List Slot) (n : Int) : Prop :=
  (∀ (i : Nat) (h : i < l.length), 1 ≤ l[i].kind ∧ l[i].unit = i ∧ l[i].fld.Right n) ∧
  ∀ (i j : Nat) (hi : i < l.length) (hj : j < l.length), i < j → 32 * l[i].reg + l[i].shift + l[i].width ≤ 32 * l[j].reg + l[j].shift
theorem MadeS.ok {l : List Slot} {n : Int} (h : MadeS l n) (hn : 0 ≤ n ∧ n ≤ 32) (hl : l.length ≤ 120) : slotsE l n = 0 := by
  unfold slotsE
  rw [if_neg (by omega), if_neg (by omega), firstE_zero]
  intro k hk
  obtain ⟨h1, h2, h3⟩ := h.1 k hk
  rw [slotE_at hk, if_neg (by rintro (h | h | h); omega; omega; exact h h3), if_neg, if_neg]
  · intro hne
    apply hne
    refine tk_and.2 fun j hj hjk hr => ?_
    refine (mask_apart (h.1 j hj).2.2.2.2 h3.2.2).2 (.inl ?_)
    have := h.2 j k hj hk hjk
    show l[j].shift + l[j].width ≤ l[k].shift
    omega
  · rw [List.any_eq_true]
    rintro ⟨x, hx, he⟩
    obtain ⟨j, hj, rfl⟩ := List.mem_take_iff_getElem.1 hx
    have := (h.1 j (by omega)).2.1
    simp at he
    omega
theorem MadeS.find {l : List Slot} {n : Int} (h : MadeS l n) {i : Nat} (hi : i < l.length) : l.find? (fun s => s.kind == l[i].kind && s.unit == l[i].unit) = some l[i] := by
  have hd : l = l.take i ++ l[i] :: l.drop (i + 1) := by rw [← List.drop_eq_getElem_cons hi, List.take_append_drop]
  have : (l.take i ++ l[i] :: l.drop (i + 1)).find? (fun s => s.kind == l[i].kind && s.unit == l[i].unit) = some l[i] := by
    rw [List.find?_append, List.find?_eq_none.2, List.find?_cons_of_pos (by simp)]
    · rfl
    · intro x hx
      obtain ⟨j, hj, rfl⟩ := List.mem_take_iff_getElem.1 hx
      have h1 := (h.1 j (by omega)).2.1
      have h2 := (h.1 i hi).2.1
      simp; omega
  rwa [← hd] at this
theorem MadeS.apart {l : List Slot} {n : Int} (h : MadeS l n) {i j : Nat} (hi : i < l.length) (hj : j < l.length) (hne : i ≠ j) (hr : l[i].reg = l[j].reg) : l[i].fld.Apart l[j].fld := by
  rcases Nat.lt_or_ge i j with h1 | h1
  · have := h.2 i j hi hj h1
    left; show l[i].shift + l[i].width ≤ l[j].shift; omega
  · have := h.2 j i hj hi (by omega)
    right; show l[j].shift + l[j].width ≤ l[i].shift; omega
end Go.Proofs.Ytdaggbjphopohaa
