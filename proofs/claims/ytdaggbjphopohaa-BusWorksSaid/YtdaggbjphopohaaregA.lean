/- Registers: the chapter's example; fields that stand apart. -/
import Derived.Test.Ytdaggbjphopohaareg9
namespace Go.Proofs.Ytdaggbjphopohaa
set_option linter.unusedSimpArgs false
set_option linter.unusedVariables false
set_option linter.unnecessarySimpa false
open Go.Abs
set_option maxRecDepth 100000
theorem maskN_bit {f : Fld} (hs : f.Shaped) (i : Nat) : (maskN f).testBit i = decide (f.shift.toNat ≤ i ∧ i < f.shift.toNat + f.width.toNat) := by
  unfold maskN
  rw [Nat.mul_comm, Nat.testBit_two_pow_mul, Nat.testBit_two_pow_sub_one]
  by_cases h : f.shift.toNat ≤ i
  · simp [h]; omega
  · simp [h]
theorem mask_apart {x y : Fld} (hx : x.Shaped) (hy : y.Shaped) : maskN x &&& maskN y = 0 ↔ x.shift + x.width ≤ y.shift ∨ y.shift + y.width ≤ x.shift := by
  obtain ⟨x1, x2, x3, x4, x5⟩ := id hx
  obtain ⟨y1, y2, y3, y4, y5⟩ := id hy
  constructor
  · intro h
    have hb := fun i => congrArg (fun n => n.testBit i) h
    simp only [Nat.testBit_and, maskN_bit hx, maskN_bit hy, Nat.zero_testBit] at hb
    have h1 := hb (max x.shift.toNat y.shift.toNat)
    rw [Bool.and_eq_false_iff] at h1
    rcases h1 with h1 | h1
    · have := of_decide_eq_false h1; omega
    · have := of_decide_eq_false h1; omega
  · intro h
    apply Nat.eq_of_testBit_eq
    intro i
    rw [Nat.testBit_and, maskN_bit hx, maskN_bit hy, Nat.zero_testBit, Bool.and_eq_false_iff]
    by_cases h1 : x.shift.toNat ≤ i ∧ i < x.shift.toNat + x.width.toNat
    · right; exact decide_eq_false (by omega)
    · left; exact decide_eq_false h1
theorem two_slots {sx wx sy wy : Int} (hx : Fld.Shaped ⟨0, sx, wx⟩) (hy : Fld.Shaped ⟨0, sy, wy⟩) :
    slotsE [⟨1, 0, 0, sx, wx⟩, ⟨1, 1, 0, sy, wy⟩] 1 = (if sx + wx ≤ sy ∨ sy + wy ≤ sx then 0 else 40) ∧ slotsE [⟨1, 0, 0, sx, wx⟩, ⟨1, 1, 1, sy, wy⟩] 2 = 0 := by
  have hx' : ∀ r, Fld.Shaped ⟨r, sx, wx⟩ := fun _ => hx
  have hy' : ∀ r, Fld.Shaped ⟨r, sy, wy⟩ := fun _ => hy
  have ha := mask_apart hx hy
  constructor
  · have a0 : slotE [⟨1, 0, 0, sx, wx⟩, ⟨1, 1, 0, sy, wy⟩] 1 0 = 0 := by
      rw [slotE_at (by simp)]
      rw [if_neg (by rintro (h | h | h); simp at h; simp at h; exact h ⟨by simp [Slot.fld], by simp [Slot.fld], hx⟩), if_neg (by simp), if_neg (by simp [tk])]
    have a1 : slotE [⟨1, 0, 0, sx, wx⟩, ⟨1, 1, 0, sy, wy⟩] 1 1 = if sx + wx ≤ sy ∨ sy + wy ≤ sx then 0 else 40 := by
      rw [slotE_at (by simp)]
      rw [if_neg (by rintro (h | h | h); simp at h; simp at h; exact h ⟨by simp [Slot.fld], by simp [Slot.fld], hy⟩), if_neg (by simp)]
      have et : tk [⟨1, 0, 0, sx, wx⟩, ⟨1, 1, 0, sy, wy⟩] 0 1 = maskN ⟨0, sx, wx⟩ := by
        rw [tk_succ (by simp)]; simp [tk, Slot.fld]
      show (if tk _ 0 1 &&& maskN ⟨0, sy, wy⟩ ≠ 0 then (40 : Int) else 0) = _
      rw [et]
      by_cases h : sx + wx ≤ sy ∨ sy + wy ≤ sx
      · rw [if_neg (by rw [ha.2 h]; simp), if_pos h]
      · rw [if_pos fun h2 => h (ha.1 h2), if_neg h]
    unfold slotsE
    rw [if_neg (by omega), if_neg (by simp)]
    show firstE _ 2 = _
    simp only [firstE, a0, a1]; simp
  · have a0 : slotE [⟨1, 0, 0, sx, wx⟩, ⟨1, 1, 1, sy, wy⟩] 2 0 = 0 := by
      rw [slotE_at (by simp)]
      rw [if_neg (by rintro (h | h | h); simp at h; simp at h; exact h ⟨by simp [Slot.fld], by simp [Slot.fld], hx⟩), if_neg (by simp), if_neg (by simp [tk])]
    have a1 : slotE [⟨1, 0, 0, sx, wx⟩, ⟨1, 1, 1, sy, wy⟩] 2 1 = 0 := by
      rw [slotE_at (by simp)]
      rw [if_neg (by rintro (h | h | h); simp at h; simp at h; exact h ⟨by simp [Slot.fld], by simp [Slot.fld], hy' _⟩), if_neg (by simp)]
      have et : tk [⟨1, 0, 0, sx, wx⟩, ⟨1, 1, 1, sy, wy⟩] 1 1 = 0 := by
        rw [tk_succ (by simp)]; simp [tk]
      show (if tk _ 1 1 &&& maskN ⟨1, sy, wy⟩ ≠ 0 then (40 : Int) else 0) = _
      rw [et, if_neg (by simp)]
    unfold slotsE
    rw [if_neg (by omega), if_neg (by simp)]
    show firstE _ 2 = _
    simp only [firstE, a0, a1]; simp
end Go.Proofs.Ytdaggbjphopohaa
