/- Fields of registers: what is right, and their bits. -/
import Derived.Test.Ytdaggbjphopohaaboard3
namespace Go.Proofs.Ytdaggbjphopohaa
set_option linter.unusedSimpArgs false
set_option linter.unusedVariables false
set_option linter.unnecessarySimpa false
open Go.Abs
set_option maxRecDepth 100000
/-- Numbers of 32 bits. -/
def pU (n : Nat) : PV := .v (.int .u32 n)
structure Fld where
  reg : Int
  shift : Int
  width : Int
def Fld.pv (f : Fld) : PV := .agg [.v (.int .i64 f.reg), .v (.int .i64 f.shift), .v (.int .i64 f.width)]
def Fld.Shaped (f : Fld) : Prop := 0 ≤ f.shift ∧ f.shift ≤ 31 ∧ 1 ≤ f.width ∧ f.width ≤ 16 ∧ f.shift + f.width ≤ 32
instance (f : Fld) : Decidable f.Shaped := by unfold Fld.Shaped; infer_instance
def Fld.Right (f : Fld) (n : Int) : Prop := 0 ≤ f.reg ∧ f.reg < n ∧ f.Shaped
instance (f : Fld) (n : Int) : Decidable (f.Right n) := by unfold Fld.Right; infer_instance
def maskN (f : Fld) : Nat := (2 ^ f.width.toNat - 1) * 2 ^ f.shift.toNat
theorem two_pow_le {a b : Nat} (h : a ≤ b) : 2 ^ a ≤ 2 ^ b := Nat.pow_le_pow_right (by omega) h
theorem pow_facts {w s : Nat} (h1 : 1 ≤ w) (h2 : w ≤ 16) (h3 : s + w ≤ 32) : 1 < 2 ^ w ∧ 2 ^ w ≤ 65536 ∧ (2 ^ w - 1) * 2 ^ s + 2 ^ s ≤ 4294967296 ∧ 0 < 2 ^ s ∧ 2 ^ s ≤ 4294967296 := by
  have a : 2 ^ 1 ≤ 2 ^ w := two_pow_le h1
  have b : 2 ^ w ≤ 2 ^ 16 := two_pow_le h2
  have c : 2 ^ (s + w) ≤ 2 ^ 32 := two_pow_le h3
  have d : 2 ^ s ≤ 2 ^ 32 := two_pow_le (by omega)
  have e : 0 < 2 ^ s := Nat.pos_of_ne_zero (by simp)
  refine ⟨by omega, by omega, ?_, e, by omega⟩
  rw [Nat.pow_add] at c
  have : (2 ^ w - 1) * 2 ^ s + 2 ^ s = 2 ^ s * 2 ^ w := by
    rw [Nat.sub_mul, Nat.one_mul, Nat.mul_comm]
    have : 2 ^ s ≤ 2 ^ s * 2 ^ w := Nat.le_mul_of_pos_right _ (by omega)
    omega
  omega
theorem maskN_lt {f : Fld} (h : f.Shaped) : maskN f + 2 ^ f.shift.toNat ≤ 4294967296 ∧ 0 < 2 ^ f.shift.toNat := by
  obtain ⟨h1, h2, h3, h4, h5⟩ := h
  have := pow_facts (w := f.width.toNat) (s := f.shift.toNat) (by omega) (by omega) (by omega)
  exact ⟨this.2.2.1, this.2.2.2.1⟩
theorem shaped_call (f : Fld) : ACall Try.prog 62 [.p f.pv] [] fun r H => r = .p (pB (decide f.Shaped)) ∧ H = [] := by
  refine acall_enter Try.func62 rfl rfl tabOK rfl ?_
  have no : ¬ f.Shaped → false = decide f.Shaped := fun h => (decide_eq_false h).symm
  have yes : f.Shaped → true = decide f.Shaped := fun h => (decide_eq_true h).symm
  (conv => whnf); repeat' ((first | ((first | apply LenA.map | apply NilA.map | apply NilA.mk); intro _) | apply CondA.plain | ((first | apply NW.as | apply ValA.as); with_reducible assumption) | ((first | apply NW.i64 | apply NW.u32 | apply NW.u64 | apply NW.u8 | apply InA.nat | apply InA.map | apply AppA.snoc (f := pI) (a := _) rfl | apply AppA.one (f := pI) (a := _) rfl | apply AppA.map | apply AppA.nil | apply CutA.lo | apply CutA.hi); (first | omega | (simp only [lenS] at *; omega) | grind)) | ((first | (apply RemA.as; assumption) | apply RemA.self); (first | omega | (simp only [lenS] at *; omega) | grind)) | (apply ValA.as; assumption) | apply ValA.self | (apply NW.as; assumption) | (apply SzA.map; (intro _; rfl)) | with_reducible apply br_pt | with_reducible apply br_pf | with_reducible apply br_mt | with_reducible apply br_mf | apply Both.mk | ((first | apply br_T | apply br_F | apply br_mT | apply br_mF); assumption) | ((first | apply br_lss | apply br_leq | apply br_gtr | apply br_geq | apply br_dec | apply br_beq | apply br_bne | apply br_beqB | apply br_bneB | apply br_not | apply br_m | apply br_intro) <;> intro h0 <;> first | (exfalso; first | omega | exact tf h0 (by assumption) | exact tf (by assumption) h0 | exact h0 (by assumption) | exact h0 rfl | exact of_decide_eq_false h0 rfl) | skip) | refine ArrA.mk _ rfl rfl ?_ | (apply IdxA.lit; omega; exact rfl) | ((first | apply IdxA.of_nat | (apply IdxA.of_map; (first | omega | (simp only [lenS] at *; omega) | grind))); rotate_left; (first | omega | (simp only [lenS] at *; omega) | grind)) | apply IsL.set (f := pI) (a := _) rfl | apply IsL.rep (f := pI) (a := _) rfl | apply IsL.lit (f := pI) [] rfl | apply IsL.lit (f := pI) [_] rfl | apply IsL.lit (f := pI) [_, _] rfl | apply IsL.lit (f := pI) [_, _, _] rfl | apply IsL.lit (f := pI) [_, _, _, _] rfl | (apply And.intro; (first | with_reducible rfl | (show (_ : AV) = _; rfl) | (first | omega | (simp only [lenS] at *; omega) | grind))) | (apply DrawA.quiet (by kernel_rfl) (by kernel_rfl); (conv => whnf); fail_if_success (show False))) <;> (conv => whnf))
  all_goals
    (refine RetK.p ?_ <;> repeat' (first | exact trivial | refine And.intro ?_ ?_ | with_reducible rfl | (refine pIEq ?_; (first | omega | (simp only [lenS] at *; omega) | grind)) | (refine bufMap ?_) | (refine bufNil ?_) | (refine bufEq ?_) | rfl); all_goals try first | refine pBEq ?_ | refine pIEq ?_)
    first
      | exact decide_eq_decide.2 ⟨fun h => ⟨by omega, by omega, by omega, by omega, h⟩, fun h => h.2.2.2.2⟩
      | exact no fun h => by have := h.1; have := h.2.1; have := h.2.2.1; have := h.2.2.2.1; have := h.2.2.2.2; omega
      | exact yes ⟨by omega, by omega, by omega, by omega, by omega⟩
theorem rshaped_call (f : Fld) : ACall Try.prog 65 [.p f.pv] [] fun r H => r = .p (pB (decide f.Shaped)) ∧ H = [] := by
  refine acall_enter Try.func65 rfl rfl tabOK rfl ?_
  have no : ¬ f.Shaped → false = decide f.Shaped := fun h => (decide_eq_false h).symm
  have yes : f.Shaped → true = decide f.Shaped := fun h => (decide_eq_true h).symm
  (conv => whnf); repeat' ((first | ((first | apply LenA.map | apply NilA.map | apply NilA.mk); intro _) | apply CondA.plain | ((first | apply NW.as | apply ValA.as); with_reducible assumption) | ((first | apply NW.i64 | apply NW.u32 | apply NW.u64 | apply NW.u8 | apply InA.nat | apply InA.map | apply AppA.snoc (f := pI) (a := _) rfl | apply AppA.one (f := pI) (a := _) rfl | apply AppA.map | apply AppA.nil | apply CutA.lo | apply CutA.hi); (first | omega | (simp only [lenS] at *; omega) | grind)) | ((first | (apply RemA.as; assumption) | apply RemA.self); (first | omega | (simp only [lenS] at *; omega) | grind)) | (apply ValA.as; assumption) | apply ValA.self | (apply NW.as; assumption) | (apply SzA.map; (intro _; rfl)) | with_reducible apply br_pt | with_reducible apply br_pf | with_reducible apply br_mt | with_reducible apply br_mf | apply Both.mk | ((first | apply br_T | apply br_F | apply br_mT | apply br_mF); assumption) | ((first | apply br_lss | apply br_leq | apply br_gtr | apply br_geq | apply br_dec | apply br_beq | apply br_bne | apply br_beqB | apply br_bneB | apply br_not | apply br_m | apply br_intro) <;> intro h0 <;> first | (exfalso; first | omega | exact tf h0 (by assumption) | exact tf (by assumption) h0 | exact h0 (by assumption) | exact h0 rfl | exact of_decide_eq_false h0 rfl) | skip) | refine ArrA.mk _ rfl rfl ?_ | (apply IdxA.lit; omega; exact rfl) | ((first | apply IdxA.of_nat | (apply IdxA.of_map; (first | omega | (simp only [lenS] at *; omega) | grind))); rotate_left; (first | omega | (simp only [lenS] at *; omega) | grind)) | apply IsL.set (f := pI) (a := _) rfl | apply IsL.rep (f := pI) (a := _) rfl | apply IsL.lit (f := pI) [] rfl | apply IsL.lit (f := pI) [_] rfl | apply IsL.lit (f := pI) [_, _] rfl | apply IsL.lit (f := pI) [_, _, _] rfl | apply IsL.lit (f := pI) [_, _, _, _] rfl | (apply And.intro; (first | with_reducible rfl | (show (_ : AV) = _; rfl) | (first | omega | (simp only [lenS] at *; omega) | grind))) | (apply DrawA.quiet (by kernel_rfl) (by kernel_rfl); (conv => whnf); fail_if_success (show False))) <;> (conv => whnf))
  all_goals
    (refine RetK.p ?_ <;> repeat' (first | exact trivial | refine And.intro ?_ ?_ | with_reducible rfl | (refine pIEq ?_; (first | omega | (simp only [lenS] at *; omega) | grind)) | (refine bufMap ?_) | (refine bufNil ?_) | (refine bufEq ?_) | rfl); all_goals try first | refine pBEq ?_ | refine pIEq ?_)
    first
      | exact decide_eq_decide.2 ⟨fun h => ⟨by omega, by omega, by omega, by omega, h⟩, fun h => h.2.2.2.2⟩
      | exact no fun h => by have := h.1; have := h.2.1; have := h.2.2.1; have := h.2.2.2.1; have := h.2.2.2.2; omega
      | exact yes ⟨by omega, by omega, by omega, by omega, by omega⟩
theorem right_call (f : Fld) (n : Int) : ACall Try.prog 53 [.p f.pv, .p (pI n)] [] fun r H => r = .p (pB (decide (f.Right n))) ∧ H = [] := by
  refine acall_enter Try.func53 rfl rfl tabOK rfl ?_
  have no : ¬ f.Right n → false = decide (f.Right n) := fun h => (decide_eq_false h).symm
  (conv => whnf); repeat' ((first | ((first | apply LenA.map | apply NilA.map | apply NilA.mk); intro _) | apply CondA.plain | ((first | apply NW.as | apply ValA.as); with_reducible assumption) | ((first | apply NW.i64 | apply NW.u32 | apply NW.u64 | apply NW.u8 | apply InA.nat | apply InA.map | apply AppA.snoc (f := pI) (a := _) rfl | apply AppA.one (f := pI) (a := _) rfl | apply AppA.map | apply AppA.nil | apply CutA.lo | apply CutA.hi); (first | omega | (simp only [lenS] at *; omega) | grind)) | ((first | (apply RemA.as; assumption) | apply RemA.self); (first | omega | (simp only [lenS] at *; omega) | grind)) | (apply ValA.as; assumption) | apply ValA.self | (apply NW.as; assumption) | (apply SzA.map; (intro _; rfl)) | with_reducible apply br_pt | with_reducible apply br_pf | with_reducible apply br_mt | with_reducible apply br_mf | apply Both.mk | ((first | apply br_T | apply br_F | apply br_mT | apply br_mF); assumption) | ((first | apply br_lss | apply br_leq | apply br_gtr | apply br_geq | apply br_dec | apply br_beq | apply br_bne | apply br_beqB | apply br_bneB | apply br_not | apply br_m | apply br_intro) <;> intro h0 <;> first | (exfalso; first | omega | exact tf h0 (by assumption) | exact tf (by assumption) h0 | exact h0 (by assumption) | exact h0 rfl | exact of_decide_eq_false h0 rfl) | skip) | refine ArrA.mk _ rfl rfl ?_ | (apply IdxA.lit; omega; exact rfl) | ((first | apply IdxA.of_nat | (apply IdxA.of_map; (first | omega | (simp only [lenS] at *; omega) | grind))); rotate_left; (first | omega | (simp only [lenS] at *; omega) | grind)) | apply IsL.set (f := pI) (a := _) rfl | apply IsL.rep (f := pI) (a := _) rfl | apply IsL.lit (f := pI) [] rfl | apply IsL.lit (f := pI) [_] rfl | apply IsL.lit (f := pI) [_, _] rfl | apply IsL.lit (f := pI) [_, _, _] rfl | apply IsL.lit (f := pI) [_, _, _, _] rfl | (apply And.intro; (first | with_reducible rfl | (show (_ : AV) = _; rfl) | (first | omega | (simp only [lenS] at *; omega) | grind))) | (apply DrawA.quiet (by kernel_rfl) (by kernel_rfl); (conv => whnf); fail_if_success (show False)) | (refine CallA.scalar (shaped_call f) ?_)) <;> (conv => whnf))
  all_goals
    (refine RetK.p ?_ <;> repeat' (first | exact trivial | refine And.intro ?_ ?_ | with_reducible rfl | (refine pIEq ?_; (first | omega | (simp only [lenS] at *; omega) | grind)) | (refine bufMap ?_) | (refine bufNil ?_) | (refine bufEq ?_) | rfl); all_goals try first | refine pBEq ?_ | refine pIEq ?_)
    first
      | exact no fun h => by have := h.1; have := h.2.1; omega
      | (have e1 : decide (f.Right n) = decide f.Shaped := decide_eq_decide.2 ⟨fun h => h.2.2, fun h => ⟨by omega, by omega, h⟩⟩
         rw [e1]; rfl)
theorem rright_call (f : Fld) (n : Int) : ACall Try.prog 56 [.p f.pv, .p (pI n)] [] fun r H => r = .p (pB (decide (f.Right n))) ∧ H = [] := by
  refine acall_enter Try.func56 rfl rfl tabOK rfl ?_
  have no : ¬ f.Right n → false = decide (f.Right n) := fun h => (decide_eq_false h).symm
  (conv => whnf); repeat' ((first | ((first | apply LenA.map | apply NilA.map | apply NilA.mk); intro _) | apply CondA.plain | ((first | apply NW.as | apply ValA.as); with_reducible assumption) | ((first | apply NW.i64 | apply NW.u32 | apply NW.u64 | apply NW.u8 | apply InA.nat | apply InA.map | apply AppA.snoc (f := pI) (a := _) rfl | apply AppA.one (f := pI) (a := _) rfl | apply AppA.map | apply AppA.nil | apply CutA.lo | apply CutA.hi); (first | omega | (simp only [lenS] at *; omega) | grind)) | ((first | (apply RemA.as; assumption) | apply RemA.self); (first | omega | (simp only [lenS] at *; omega) | grind)) | (apply ValA.as; assumption) | apply ValA.self | (apply NW.as; assumption) | (apply SzA.map; (intro _; rfl)) | with_reducible apply br_pt | with_reducible apply br_pf | with_reducible apply br_mt | with_reducible apply br_mf | apply Both.mk | ((first | apply br_T | apply br_F | apply br_mT | apply br_mF); assumption) | ((first | apply br_lss | apply br_leq | apply br_gtr | apply br_geq | apply br_dec | apply br_beq | apply br_bne | apply br_beqB | apply br_bneB | apply br_not | apply br_m | apply br_intro) <;> intro h0 <;> first | (exfalso; first | omega | exact tf h0 (by assumption) | exact tf (by assumption) h0 | exact h0 (by assumption) | exact h0 rfl | exact of_decide_eq_false h0 rfl) | skip) | refine ArrA.mk _ rfl rfl ?_ | (apply IdxA.lit; omega; exact rfl) | ((first | apply IdxA.of_nat | (apply IdxA.of_map; (first | omega | (simp only [lenS] at *; omega) | grind))); rotate_left; (first | omega | (simp only [lenS] at *; omega) | grind)) | apply IsL.set (f := pI) (a := _) rfl | apply IsL.rep (f := pI) (a := _) rfl | apply IsL.lit (f := pI) [] rfl | apply IsL.lit (f := pI) [_] rfl | apply IsL.lit (f := pI) [_, _] rfl | apply IsL.lit (f := pI) [_, _, _] rfl | apply IsL.lit (f := pI) [_, _, _, _] rfl | (apply And.intro; (first | with_reducible rfl | (show (_ : AV) = _; rfl) | (first | omega | (simp only [lenS] at *; omega) | grind))) | (apply DrawA.quiet (by kernel_rfl) (by kernel_rfl); (conv => whnf); fail_if_success (show False)) | (refine CallA.scalar (rshaped_call f) ?_)) <;> (conv => whnf))
  all_goals
    (refine RetK.p ?_ <;> repeat' (first | exact trivial | refine And.intro ?_ ?_ | with_reducible rfl | (refine pIEq ?_; (first | omega | (simp only [lenS] at *; omega) | grind)) | (refine bufMap ?_) | (refine bufNil ?_) | (refine bufEq ?_) | rfl); all_goals try first | refine pBEq ?_ | refine pIEq ?_)
    first
      | exact no fun h => by have := h.1; have := h.2.1; omega
      | (have e1 : decide (f.Right n) = decide f.Shaped := decide_eq_decide.2 ⟨fun h => h.2.2, fun h => ⟨by omega, by omega, h⟩⟩
         rw [e1]; rfl)
theorem bits_call (f : Fld) (hs : f.Shaped) : ACall Try.prog 54 [.p f.pv] [] fun r H => r = .p (pU (maskN f)) ∧ H = [] := by
  refine acall_enter Try.func54 rfl rfl tabOK rfl ?_
  obtain ⟨reg, shift, width⟩ := f
  obtain ⟨h1, h2, h3, h4, h5⟩ := hs
  simp only at h1 h2 h3 h4 h5
  obtain ⟨s, rfl⟩ := Int.eq_ofNat_of_zero_le h1
  obtain ⟨w, rfl⟩ := Int.eq_ofNat_of_zero_le (show 0 ≤ width by omega)
  have hp := pow_facts (w := w) (s := s) (by omega) (by omega) (by omega)
  obtain ⟨p, ep⟩ : ∃ p, p = 2 ^ w := ⟨_, rfl⟩
  obtain ⟨m, em⟩ : ∃ m, m = (2 ^ w - 1) * 2 ^ s := ⟨_, rfl⟩
  rw [← em, ← ep] at hp
  have e1 : IntKind.u32.wrap (1 * 2 ^ (min (w : Int).toNat IntKind.u32.bits)) = (p : Int) := by
    show IntKind.u32.wrap (1 * 2 ^ (min w 32)) = _
    rw [show min w 32 = w by omega, Int.one_mul, IntKind.wrap_u32, ep]
    have : ((2 ^ w : Nat) : Int) = 2 ^ w := by simp
    omega
  have e2 : IntKind.u32.wrap (((p : Int) - 1) * 2 ^ (min (s : Int).toNat IntKind.u32.bits)) = (m : Int) := by
    show IntKind.u32.wrap (((p : Int) - 1) * 2 ^ (min s 32)) = _
    rw [show min s 32 = s by omega, IntKind.wrap_u32]
    have : ((m : Nat) : Int) = ((p : Int) - 1) * 2 ^ s := by
      rw [em, ep, Int.natCast_mul, Int.natCast_sub (by omega)]; simp
    omega
  (conv => whnf); repeat' ((first | ((first | apply LenA.map | apply NilA.map | apply NilA.mk); intro _) | apply CondA.plain | ((first | apply NW.as | apply ValA.as); with_reducible assumption) | ((first | apply NW.i64 | apply NW.u32 | apply NW.u64 | apply NW.u8 | apply InA.nat | apply InA.map | apply AppA.snoc (f := pI) (a := _) rfl | apply AppA.one (f := pI) (a := _) rfl | apply AppA.map | apply AppA.nil | apply CutA.lo | apply CutA.hi); (first | omega | (simp only [lenS] at *; omega) | grind)) | ((first | (apply RemA.as; assumption) | apply RemA.self); (first | omega | (simp only [lenS] at *; omega) | grind)) | (apply ValA.as; assumption) | apply ValA.self | (apply NW.as; assumption) | (apply SzA.map; (intro _; rfl)) | with_reducible apply br_pt | with_reducible apply br_pf | with_reducible apply br_mt | with_reducible apply br_mf | apply Both.mk | ((first | apply br_T | apply br_F | apply br_mT | apply br_mF); assumption) | ((first | apply br_lss | apply br_leq | apply br_gtr | apply br_geq | apply br_dec | apply br_beq | apply br_bne | apply br_beqB | apply br_bneB | apply br_not | apply br_m | apply br_intro) <;> intro h0 <;> first | (exfalso; first | omega | exact tf h0 (by assumption) | exact tf (by assumption) h0 | exact h0 (by assumption) | exact h0 rfl | exact of_decide_eq_false h0 rfl) | skip) | refine ArrA.mk _ rfl rfl ?_ | (apply IdxA.lit; omega; exact rfl) | ((first | apply IdxA.of_nat | (apply IdxA.of_map; (first | omega | (simp only [lenS] at *; omega) | grind))); rotate_left; (first | omega | (simp only [lenS] at *; omega) | grind)) | apply IsL.set (f := pI) (a := _) rfl | apply IsL.rep (f := pI) (a := _) rfl | apply IsL.lit (f := pI) [] rfl | apply IsL.lit (f := pI) [_] rfl | apply IsL.lit (f := pI) [_, _] rfl | apply IsL.lit (f := pI) [_, _, _] rfl | apply IsL.lit (f := pI) [_, _, _, _] rfl | (apply And.intro; (first | with_reducible rfl | (show (_ : AV) = _; rfl) | (first | omega | (simp only [lenS] at *; omega) | grind))) | (apply DrawA.quiet (by kernel_rfl) (by kernel_rfl); (conv => whnf); fail_if_success (show False))) <;> (conv => whnf))
  (refine RetK.p ?_ <;> repeat' (first | exact trivial | refine And.intro ?_ ?_ | with_reducible rfl | (refine pIEq ?_; (first | omega | (simp only [lenS] at *; omega) | grind)) | (refine bufMap ?_) | (refine bufNil ?_) | (refine bufEq ?_) | rfl); all_goals try first | refine pBEq ?_ | refine pIEq ?_)
  rw [em]; rfl
def mask (f : Fld) : Nat := if f.Shaped then maskN f else 0
theorem mask_lt (f : Fld) : mask f < 4294967296 := by
  unfold mask
  split
  · have := maskN_lt (by assumption); omega
  · omega
theorem rMask_call (f : Fld) : ACall Try.prog 57 [.p f.pv] [] fun r H => r = .p (pI (mask f)) ∧ H = [] := by
  refine acall_enter Try.func57 rfl rfl tabOK rfl ?_
  (conv => whnf); repeat' ((first | ((first | apply LenA.map | apply NilA.map | apply NilA.mk); intro _) | apply CondA.plain | ((first | apply NW.as | apply ValA.as); with_reducible assumption) | ((first | apply NW.i64 | apply NW.u32 | apply NW.u64 | apply NW.u8 | apply InA.nat | apply InA.map | apply AppA.snoc (f := pI) (a := _) rfl | apply AppA.one (f := pI) (a := _) rfl | apply AppA.map | apply AppA.nil | apply CutA.lo | apply CutA.hi); (first | omega | (simp only [lenS] at *; omega) | grind)) | ((first | (apply RemA.as; assumption) | apply RemA.self); (first | omega | (simp only [lenS] at *; omega) | grind)) | (apply ValA.as; assumption) | apply ValA.self | (apply NW.as; assumption) | (apply SzA.map; (intro _; rfl)) | with_reducible apply br_pt | with_reducible apply br_pf | with_reducible apply br_mt | with_reducible apply br_mf | apply Both.mk | ((first | apply br_T | apply br_F | apply br_mT | apply br_mF); assumption) | ((first | apply br_lss | apply br_leq | apply br_gtr | apply br_geq | apply br_dec | apply br_beq | apply br_bne | apply br_beqB | apply br_bneB | apply br_not | apply br_m | apply br_intro) <;> intro h0 <;> first | (exfalso; first | omega | exact tf h0 (by assumption) | exact tf (by assumption) h0 | exact h0 (by assumption) | exact h0 rfl | exact of_decide_eq_false h0 rfl) | skip) | refine ArrA.mk _ rfl rfl ?_ | (apply IdxA.lit; omega; exact rfl) | ((first | apply IdxA.of_nat | (apply IdxA.of_map; (first | omega | (simp only [lenS] at *; omega) | grind))); rotate_left; (first | omega | (simp only [lenS] at *; omega) | grind)) | apply IsL.set (f := pI) (a := _) rfl | apply IsL.rep (f := pI) (a := _) rfl | apply IsL.lit (f := pI) [] rfl | apply IsL.lit (f := pI) [_] rfl | apply IsL.lit (f := pI) [_, _] rfl | apply IsL.lit (f := pI) [_, _, _] rfl | apply IsL.lit (f := pI) [_, _, _, _] rfl | (apply And.intro; (first | with_reducible rfl | (show (_ : AV) = _; rfl) | (first | omega | (simp only [lenS] at *; omega) | grind))) | (apply DrawA.quiet (by kernel_rfl) (by kernel_rfl); (conv => whnf); fail_if_success (show False)) | (refine CallA.scalar (rshaped_call f) ?_)) <;> (conv => whnf))
  · (refine RetK.p ?_ <;> repeat' (first | exact trivial | refine And.intro ?_ ?_ | with_reducible rfl | (refine pIEq ?_; (first | omega | (simp only [lenS] at *; omega) | grind)) | (refine bufMap ?_) | (refine bufNil ?_) | (refine bufEq ?_) | rfl); all_goals try first | refine pBEq ?_ | refine pIEq ?_)
    unfold mask; rw [if_neg (by first | exact of_decide_eq_false (by assumption) | assumption)]; rfl
  · have hs : f.Shaped := by first | assumption | (apply of_decide_eq_true; assumption)
    have hm : mask f = maskN f := by unfold mask; rw [if_pos hs]
    rw [hm]
    clear hm
    obtain ⟨reg, shift, width⟩ := f
    obtain ⟨h1, h2, h3, h4, h5⟩ := hs
    simp only at h1 h2 h3 h4 h5
    obtain ⟨s, rfl⟩ := Int.eq_ofNat_of_zero_le h1
    obtain ⟨w, rfl⟩ := Int.eq_ofNat_of_zero_le (show 0 ≤ width by omega)
    have hp := pow_facts (w := w) (s := s) (by omega) (by omega) (by omega)
    obtain ⟨p, ep⟩ : ∃ p, p = 2 ^ w := ⟨_, rfl⟩
    obtain ⟨m, em⟩ : ∃ m, m = (2 ^ w - 1) * 2 ^ s := ⟨_, rfl⟩
    rw [← em, ← ep] at hp
    have e1 : IntKind.i64.wrap (1 * 2 ^ (min (w : Int).toNat IntKind.i64.bits)) = (p : Int) := by
      show IntKind.i64.wrap (1 * 2 ^ (min w 64)) = _
      rw [show min w 64 = w by omega, Int.one_mul, IntKind.wrap_i64, ep]
      have : ((2 ^ w : Nat) : Int) = 2 ^ w := by simp
      omega
    have e2 : IntKind.i64.wrap (((p : Int) - 1) * 2 ^ (min (s : Int).toNat IntKind.i64.bits)) = (m : Int) := by
      show IntKind.i64.wrap (((p : Int) - 1) * 2 ^ (min s 64)) = _
      rw [show min s 64 = s by omega, IntKind.wrap_i64]
      have : ((m : Nat) : Int) = ((p : Int) - 1) * 2 ^ s := by
        rw [em, ep, Int.natCast_mul, Int.natCast_sub (by omega)]; simp
      omega
    (conv => whnf); repeat' ((first | ((first | apply LenA.map | apply NilA.map | apply NilA.mk); intro _) | apply CondA.plain | ((first | apply NW.as | apply ValA.as); with_reducible assumption) | ((first | apply NW.i64 | apply NW.u32 | apply NW.u64 | apply NW.u8 | apply InA.nat | apply InA.map | apply AppA.snoc (f := pI) (a := _) rfl | apply AppA.one (f := pI) (a := _) rfl | apply AppA.map | apply AppA.nil | apply CutA.lo | apply CutA.hi); (first | omega | (simp only [lenS] at *; omega) | grind)) | ((first | (apply RemA.as; assumption) | apply RemA.self); (first | omega | (simp only [lenS] at *; omega) | grind)) | (apply ValA.as; assumption) | apply ValA.self | (apply NW.as; assumption) | (apply SzA.map; (intro _; rfl)) | with_reducible apply br_pt | with_reducible apply br_pf | with_reducible apply br_mt | with_reducible apply br_mf | apply Both.mk | ((first | apply br_T | apply br_F | apply br_mT | apply br_mF); assumption) | ((first | apply br_lss | apply br_leq | apply br_gtr | apply br_geq | apply br_dec | apply br_beq | apply br_bne | apply br_beqB | apply br_bneB | apply br_not | apply br_m | apply br_intro) <;> intro h0 <;> first | (exfalso; first | omega | exact tf h0 (by assumption) | exact tf (by assumption) h0 | exact h0 (by assumption) | exact h0 rfl | exact of_decide_eq_false h0 rfl) | skip) | refine ArrA.mk _ rfl rfl ?_ | (apply IdxA.lit; omega; exact rfl) | ((first | apply IdxA.of_nat | (apply IdxA.of_map; (first | omega | (simp only [lenS] at *; omega) | grind))); rotate_left; (first | omega | (simp only [lenS] at *; omega) | grind)) | apply IsL.set (f := pI) (a := _) rfl | apply IsL.rep (f := pI) (a := _) rfl | apply IsL.lit (f := pI) [] rfl | apply IsL.lit (f := pI) [_] rfl | apply IsL.lit (f := pI) [_, _] rfl | apply IsL.lit (f := pI) [_, _, _] rfl | apply IsL.lit (f := pI) [_, _, _, _] rfl | (apply And.intro; (first | with_reducible rfl | (show (_ : AV) = _; rfl) | (first | omega | (simp only [lenS] at *; omega) | grind))) | (apply DrawA.quiet (by kernel_rfl) (by kernel_rfl); (conv => whnf); fail_if_success (show False))) <;> (conv => whnf))
    (refine RetK.p ?_ <;> repeat' (first | exact trivial | refine And.intro ?_ ?_ | with_reducible rfl | (refine pIEq ?_; (first | omega | (simp only [lenS] at *; omega) | grind)) | (refine bufMap ?_) | (refine bufNil ?_) | (refine bufEq ?_) | rfl); all_goals try first | refine pBEq ?_ | refine pIEq ?_)
    rw [em]; rfl
end Go.Proofs.Ytdaggbjphopohaa
