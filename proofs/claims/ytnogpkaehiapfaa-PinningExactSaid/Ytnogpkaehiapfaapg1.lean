/- Pinning: masks of pins. -/
import Derived.Test.Ytnogpkaehiapfaapin5
namespace Go.Proofs.Ytnogpkaehiapfaa
set_option linter.unusedSimpArgs false
set_option linter.unusedVariables false
set_option linter.unnecessarySimpa false
open Go.Abs
theorem bv64 {a : Nat} (ha : a < 18446744073709551616) : (BitVec.ofInt IntKind.u64.bits (a : Int)) = BitVec.ofNat 64 a := by
  show BitVec.ofInt 64 (a : Int) = _
  rw [BitVec.ofInt_natCast]
theorem and64u {a b : Nat} (ha : a < 18446744073709551616) (hb : b < 18446744073709551616) : IntKind.u64.wrap ((BitVec.ofInt IntKind.u64.bits (a : Int) &&& BitVec.ofInt IntKind.u64.bits (b : Int)).toNat : Int) = ((a &&& b : Nat) : Int) := by
  rw [bv64 ha, bv64 hb]
  have h1 : (BitVec.ofNat 64 a &&& BitVec.ofNat 64 b).toNat = a &&& b := by
    rw [BitVec.toNat_and, BitVec.toNat_ofNat, BitVec.toNat_ofNat, Nat.mod_eq_of_lt ha, Nat.mod_eq_of_lt hb]
  have h2 : a &&& b < 18446744073709551616 := Nat.lt_of_le_of_lt Nat.and_le_left ha
  show IntKind.u64.wrap (((BitVec.ofNat 64 a &&& BitVec.ofNat 64 b).toNat : Nat) : Int) = _
  rw [h1, IntKind.wrap_u64]; omega
theorem or64u {a b : Nat} (ha : a < 18446744073709551616) (hb : b < 18446744073709551616) : IntKind.u64.wrap ((BitVec.ofInt IntKind.u64.bits (a : Int) ||| BitVec.ofInt IntKind.u64.bits (b : Int)).toNat : Int) = ((a ||| b : Nat) : Int) := by
  rw [bv64 ha, bv64 hb]
  have h1 : (BitVec.ofNat 64 a ||| BitVec.ofNat 64 b).toNat = a ||| b := by
    rw [BitVec.toNat_or, BitVec.toNat_ofNat, BitVec.toNat_ofNat, Nat.mod_eq_of_lt ha, Nat.mod_eq_of_lt hb]
  have h2 : a ||| b < 18446744073709551616 := Nat.or_lt_two_pow (n := 64) ha hb
  show IntKind.u64.wrap (((BitVec.ofNat 64 a ||| BitVec.ofNat 64 b).toNat : Nat) : Int) = _
  rw [h1, IntKind.wrap_u64]; omega
/-- The pins as bits. -/
def maskN (ps : List Int) : Nat := ps.foldl (fun t x => t ||| 2 ^ x.toNat) 0
theorem maskN_snoc (ps : List Int) (x : Int) : maskN (ps ++ [x]) = maskN ps ||| 2 ^ x.toNat := by unfold maskN; rw [List.foldl_append]; rfl
theorem mask_fold (ps : List Int) : ∀ t i, (ps.foldl (fun t (x : Int) => t ||| 2 ^ x.toNat) t).testBit i = (t.testBit i || ps.any fun x => decide (x.toNat = i)) := by
  induction ps with
  | nil => intro t i; simp
  | cons x r ih =>
    intro t i
    rw [List.foldl_cons, ih, Nat.testBit_or, Nat.testBit_two_pow, List.any_cons, Bool.or_assoc]
theorem mask_bit {ps : List Int} (h : ∀ x ∈ ps, 0 ≤ x) (i : Nat) : (maskN ps).testBit i = decide ((i : Int) ∈ ps) := by
  unfold maskN
  rw [mask_fold, Nat.zero_testBit, Bool.false_or, Bool.eq_iff_iff, List.any_eq_true, decide_eq_true_iff]
  constructor
  · rintro ⟨x, hx, e⟩
    have e := of_decide_eq_true e
    have := h x hx
    have : x = (i : Int) := by omega
    rw [← this]; exact hx
  · intro hm
    exact ⟨_, hm, decide_eq_true (by omega)⟩
theorem maskN_lt {ps : List Int} (h : ∀ x ∈ ps, 0 ≤ x ∧ x < 64) : maskN ps < 18446744073709551616 := by
  have key : ∀ (l : List Int) (t : Nat), (∀ x ∈ l, 0 ≤ x ∧ x < 64) → t < 2 ^ 64 → l.foldl (fun t (x : Int) => t ||| 2 ^ x.toNat) t < 2 ^ 64 := by
    intro l
    induction l with
    | nil => intro t _ ht; exact ht
    | cons x r ih =>
      intro t hl ht
      rw [List.foldl_cons]
      refine ih _ (fun y hy => hl y (List.mem_cons_of_mem _ hy)) (Nat.or_lt_two_pow ht ?_)
      have := hl x List.mem_cons_self
      exact Nat.pow_lt_pow_right (by omega) (by omega)
  exact key ps 0 h (by omega)
/-- The pins of a group. -/
def pinsOf (gs : List Grp) (v : Int) : List Int := (gs.getD v.toNat default).pins
def takenN (gs : List Grp) (us : List Int) : Nat := us.foldl (fun t g => t ||| maskN (pinsOf gs g)) 0
theorem takenN_snoc (gs : List Grp) (us : List Int) (g : Int) : takenN gs (us ++ [g]) = takenN gs us ||| maskN (pinsOf gs g) := by unfold takenN; rw [List.foldl_append]; rfl
theorem taken_fold (gs : List Grp) (us : List Int) : ∀ t i, (us.foldl (fun t g => t ||| maskN (pinsOf gs g)) t).testBit i = (t.testBit i || us.any fun g => (maskN (pinsOf gs g)).testBit i) := by
  induction us with
  | nil => intro t i; simp
  | cons x r ih =>
    intro t i
    rw [List.foldl_cons, ih, Nat.testBit_or, List.any_cons, Bool.or_assoc]
theorem takenN_bit (gs : List Grp) (us : List Int) (i : Nat) : (takenN gs us).testBit i = us.any fun g => (maskN (pinsOf gs g)).testBit i := by
  unfold takenN
  rw [taken_fold, Nat.zero_testBit, Bool.false_or]
theorem pins_rng {p : Pin} (hP : VP p) {g : Int} (h0 : 0 ≤ g) (h1 : g < p.gs.length) : ∀ x ∈ pinsOf p.gs g, 0 ≤ x ∧ x < 64 := fun x hx => by
  have hl : g.toNat < p.gs.length := by omega
  have hg := hP.ok _ (List.getElem_mem hl)
  rw [← gs_getD hl] at hg
  have := hg.rng x hx
  have := hP.n
  omega
theorem takenN_lt {p : Pin} (hP : VP p) {us : List Int} (h : ∀ g ∈ us, 0 ≤ g ∧ g < p.gs.length) : takenN p.gs us < 18446744073709551616 := by
  have key : ∀ (l : List Int) (t : Nat), (∀ g ∈ l, 0 ≤ g ∧ g < p.gs.length) → t < 2 ^ 64 → l.foldl (fun t g => t ||| maskN (pinsOf p.gs g)) t < 2 ^ 64 := by
    intro l
    induction l with
    | nil => intro t _ ht; exact ht
    | cons x r ih =>
      intro t hl ht
      rw [List.foldl_cons]
      have hx := hl x List.mem_cons_self
      exact ih _ (fun y hy => hl y (List.mem_cons_of_mem _ hy)) (Nat.or_lt_two_pow ht (maskN_lt (pins_rng hP hx.1 hx.2)))
  exact key us 0 h (by omega)
/-- A group that has no pin in common with others. -/
def freeG_ (gs : List Grp) (us : List Int) (g : Int) : Bool := decide (∀ u ∈ us, ∀ x ∈ pinsOf gs u, x ∉ pinsOf gs g)
theorem taken_and {p : Pin} (hP : VP p) {us : List Int} (h : ∀ g ∈ us, 0 ≤ g ∧ g < p.gs.length) {g : Int} (h0 : 0 ≤ g) (h1 : g < p.gs.length) : decide (takenN p.gs us &&& maskN (pinsOf p.gs g) = 0) = freeG_ p.gs us g := by
  unfold freeG_
  refine decide_eq_decide.2 ⟨fun he u hu x hx hx2 => ?_, fun hall => ?_⟩
  · have hx0 := pins_rng hP h0 h1 x hx2
    have hb : (takenN p.gs us &&& maskN (pinsOf p.gs g)).testBit x.toNat = true := by
      rw [Nat.testBit_and, takenN_bit, mask_bit (fun y hy => (pins_rng hP h0 h1 y hy).1), Bool.and_eq_true, List.any_eq_true]
      refine ⟨⟨u, hu, ?_⟩, decide_eq_true (by rw [Int.toNat_of_nonneg hx0.1]; exact hx2)⟩
      rw [mask_bit (fun y hy => (pins_rng hP (h u hu).1 (h u hu).2 y hy).1)]
      exact decide_eq_true (by rw [Int.toNat_of_nonneg hx0.1]; exact hx)
    rw [he, Nat.zero_testBit] at hb
    cases hb
  · refine Nat.eq_of_testBit_eq fun i => ?_
    rw [Nat.zero_testBit, Nat.testBit_and, takenN_bit, mask_bit (fun y hy => (pins_rng hP h0 h1 y hy).1)]
    cases hc : (us.any fun g => (maskN (pinsOf p.gs g)).testBit i) && decide ((i : Int) ∈ pinsOf p.gs g) with
    | false => rfl
    | true =>
      rw [Bool.and_eq_true, List.any_eq_true] at hc
      obtain ⟨⟨u, hu, hb⟩, hi⟩ := hc
      rw [mask_bit (fun y hy => (pins_rng hP (h u hu).1 (h u hu).2 y hy).1)] at hb
      exact absurd (of_decide_eq_true hi) (hall u hu _ (of_decide_eq_true hb))
end Go.Proofs.Ytnogpkaehiapfaa
