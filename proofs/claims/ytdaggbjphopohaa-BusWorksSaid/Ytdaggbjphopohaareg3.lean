/- Slots of registers: the checks. -/
import Derived.Test.Ytdaggbjphopohaareg2
namespace Go.Proofs.Ytdaggbjphopohaa
set_option linter.unusedSimpArgs false
set_option linter.unusedVariables false
set_option linter.unnecessarySimpa false
open Go.Abs
set_option maxRecDepth 100000
/-- The first number that is not 0 among the first n. -/
def firstE (f : Nat → Int) : Nat → Int
  | 0 => 0
  | n + 1 => if firstE f n ≠ 0 then firstE f n else f n
theorem firstE_stop {f : Nat → Int} {c : Nat} (h : firstE f c = 0) (hf : f c ≠ 0) : ∀ n, c < n → firstE f n = f c
  | n + 1, hn => by
    unfold firstE
    rcases Nat.lt_or_ge c n with h1 | h1
    · rw [firstE_stop h hf n h1, if_pos hf]
    · obtain rfl : c = n := by omega
      rw [if_neg (by simpa using h)]
theorem firstE_next {f : Nat → Int} {c : Nat} (h : firstE f c = 0) (hf : f c = 0) : firstE f (c + 1) = 0 := by
  unfold firstE
  rw [if_neg (by simpa using h), hf]
theorem firstE_zero {f : Nat → Int} : ∀ {n : Nat}, firstE f n = 0 ↔ ∀ k, k < n → f k = 0
  | 0 => by simp [firstE]
  | n + 1 => by
    unfold firstE
    split
    · rename_i h
      constructor
      · intro h1; exact absurd h1 h
      · intro h1; exact absurd (firstE_zero.2 fun k hk => h1 k (by omega)) h
    · rename_i h
      have h' : firstE f n = 0 := by omega
      constructor
      · intro h1 k hk
        rcases Nat.lt_or_ge k n with h2 | h2
        · exact firstE_zero.1 h' k h2
        · obtain rfl : k = n := by omega
          exact h1
      · intro h1; exact h1 n (by omega)
/-- The bits taken in a register by the first n slots. -/
def tk (l : List Slot) (r : Int) : Nat → Nat
  | 0 => 0
  | n + 1 => match l[n]? with
    | some s => if s.reg = r then tk l r n ||| maskN s.fld else tk l r n
    | none => tk l r n
theorem tk_succ {l : List Slot} {r : Int} {n : Nat} (h : n < l.length) : tk l r (n + 1) = if l[n].reg = r then tk l r n ||| maskN l[n].fld else tk l r n := by
  conv => lhs; unfold tk
  simp [h]
/-- The error of one slot. -/
def slotE (l : List Slot) (n : Int) (i : Nat) : Int := match l[i]? with
  | some s => if s.kind < 0 ∨ s.unit < 0 ∨ ¬ s.fld.Right n then 2 else if ((l.take i).any fun x => x.kind == s.kind && x.unit == s.unit) = true then 5 else if tk l s.reg i &&& maskN s.fld ≠ 0 then 40 else 0
  | none => 0
theorem slotE_at {l : List Slot} {n : Int} {i : Nat} (h : i < l.length) : slotE l n i = if l[i].kind < 0 ∨ l[i].unit < 0 ∨ ¬ l[i].fld.Right n then 2 else if ((l.take i).any fun x => x.kind == l[i].kind && x.unit == l[i].unit) = true then 5 else if tk l l[i].reg i &&& maskN l[i].fld ≠ 0 then 40 else 0 := by
  unfold slotE
  simp [h]
def slotsE (l : List Slot) (n : Int) : Int := if n < 0 ∨ 32 < n then 2 else if 120 < l.length then 3 else firstE (slotE l n) l.length
/-- What is taken of all registers. -/
def takenL (l : List Slot) (n c : Nat) : List Nat := (List.range n).map fun (r : Nat) => tk l (r : Int) c
theorem takenL_len {l : List Slot} {n c : Nat} : (takenL l n c).length = n := by simp [takenL]
theorem takenL_at {l : List Slot} {n c r : Nat} (h : r < n) : (takenL l n c)[r]'(by rw [takenL_len]; exact h) = tk l r c := by simp [takenL]
theorem takenL_zero {l : List Slot} {n : Nat} : takenL l n 0 = List.replicate n 0 := by
  apply List.ext_getElem
  · simp [takenL]
  · intro i h1 h2; simp [takenL, tk]
theorem takenL_next {l : List Slot} {n c r : Nat} (h : c < l.length) (hr : l[c].reg = (r : Int)) (hn : r < n) : (takenL l n c).set r (tk l r c ||| maskN l[c].fld) = takenL l n (c + 1) := by
  apply List.ext_getElem
  · simp [takenL]
  · intro i h1 h2
    rw [List.getElem_set]
    simp only [takenL, List.getElem_map, List.getElem_range]
    rw [tk_succ h, hr]
    split
    · subst_vars; simp
    · rw [if_neg (by omega)]
theorem tk_lt {l : List Slot} {r : Int} : ∀ {n : Nat}, (∀ k (h : k < l.length), k < n → l[k].fld.Shaped) → tk l r n < 4294967296
  | 0, _ => by simp [tk]
  | n + 1, h => by
    have ih := tk_lt (l := l) (r := r) (n := n) fun k hk h2 => h k hk (by omega)
    unfold tk
    split
    · rename_i s hs
      obtain ⟨hn, rfl⟩ := List.getElem?_eq_some_iff.1 hs
      split
      · have := maskN_lt (h n hn (by omega))
        exact Nat.or_lt_two_pow (n := 32) (by omega) (by omega)
      · exact ih
    · exact ih
theorem and32 {a b : Nat} (ha : a < 4294967296) : IntKind.u32.wrap ((BitVec.ofInt IntKind.u32.bits (a : Int) &&& BitVec.ofInt IntKind.u32.bits (b : Int)).toNat : Int) = ((a &&& b : Nat) : Int) := by
  show IntKind.u32.wrap ((BitVec.ofInt 32 (a : Int) &&& BitVec.ofInt 32 (b : Int)).toNat : Int) = _
  have h1 : BitVec.ofInt 32 (a : Int) = BitVec.ofNat 32 a := by rw [BitVec.ofInt_natCast]
  have h2 : BitVec.ofInt 32 (b : Int) = BitVec.ofNat 32 b := by rw [BitVec.ofInt_natCast]
  rw [h1, h2, BitVec.toNat_and, BitVec.toNat_ofNat, BitVec.toNat_ofNat, IntKind.wrap_u32, ← Nat.and_mod_two_pow]
  have : a &&& b ≤ a := Nat.and_le_left
  rw [Nat.mod_eq_of_lt (by omega)]
  omega
theorem or32 {a b : Nat} (ha : a < 4294967296) (hb : b < 4294967296) : IntKind.u32.wrap ((BitVec.ofInt IntKind.u32.bits (a : Int) ||| BitVec.ofInt IntKind.u32.bits (b : Int)).toNat : Int) = ((a ||| b : Nat) : Int) := by
  show IntKind.u32.wrap ((BitVec.ofInt 32 (a : Int) ||| BitVec.ofInt 32 (b : Int)).toNat : Int) = _
  have h1 : BitVec.ofInt 32 (a : Int) = BitVec.ofNat 32 a := by rw [BitVec.ofInt_natCast]
  have h2 : BitVec.ofInt 32 (b : Int) = BitVec.ofNat 32 b := by rw [BitVec.ofInt_natCast]
  rw [h1, h2, BitVec.toNat_or, BitVec.toNat_ofNat, BitVec.toNat_ofNat, IntKind.wrap_u32, Nat.mod_eq_of_lt ha, Nat.mod_eq_of_lt hb]
  have : a ||| b < 2 ^ 32 := Nat.or_lt_two_pow (by omega) (by omega)
  omega
end Go.Proofs.Ytdaggbjphopohaa
