/- Numbers in the fields of registers. -/
import Derived.Test.Ytdaggbjphopohaareg5
import Derived.Test.Ytdaggbjphopohaawr
namespace Go.Proofs.Ytdaggbjphopohaa
set_option linter.unusedSimpArgs false
set_option linter.unusedVariables false
set_option linter.unnecessarySimpa false
open Go.Abs
set_option maxRecDepth 100000
def getN (f : Fld) (x : Nat) : Nat := (x &&& maskN f) / 2 ^ f.shift.toNat
def putN (f : Fld) (x v : Nat) : Nat := (x &&& (4294967295 ^^^ maskN f)) ||| (v * 2 ^ f.shift.toNat)
theorem and_lt {a b n : Nat} (h : a < n) : a &&& b < n := Nat.lt_of_le_of_lt Nat.and_le_left h
theorem shl_lt {s w v : Nat} (h3 : s + w ≤ 32) (hv : v < 2 ^ w) : v * 2 ^ s < 4294967296 := by
  have c : 2 ^ (s + w) ≤ 2 ^ 32 := two_pow_le h3
  have : v * 2 ^ s < 2 ^ w * 2 ^ s := Nat.mul_lt_mul_of_lt_of_le hv (Nat.le_refl _) (Nat.pos_of_ne_zero (by simp))
  rw [Nat.pow_add, Nat.mul_comm] at c
  omega
theorem putN_lt {f : Fld} {x v : Nat} (hs : f.Shaped) (hx : x < 4294967296) (hv : v < 2 ^ f.width.toNat) : putN f x v < 4294967296 := by
  obtain ⟨h1, h2, h3, h4, h5⟩ := hs
  exact Nat.or_lt_two_pow (n := 32) (and_lt hx) (shl_lt (by omega) hv)
theorem not32 {b : Nat} (hb : b < 4294967296) : 4294967295 - b = 4294967295 ^^^ b := by
  apply Nat.eq_of_testBit_eq
  intro i
  rw [show 4294967295 - b = 2 ^ 32 - (b + 1) by omega, Nat.testBit_two_pow_sub_succ (by omega), Nat.testBit_xor, show 4294967295 = 2 ^ 32 - 1 by omega, Nat.testBit_two_pow_sub_one]
  by_cases hi : i < 32
  · simp [hi]
  · have : b.testBit i = false := Nat.testBit_lt_two_pow (Nat.lt_of_lt_of_le hb (two_pow_le (a := 32) (by omega)))
    simp [hi, this]
theorem andNot32 {a b : Nat} (ha : a < 4294967296) (hb : b < 4294967296) : IntKind.u32.wrap ((BitVec.ofInt IntKind.u32.bits (a : Int) &&& ~~~(BitVec.ofInt IntKind.u32.bits (b : Int))).toNat : Int) = ((a &&& (4294967295 ^^^ b) : Nat) : Int) := by
  show IntKind.u32.wrap ((BitVec.ofInt 32 (a : Int) &&& ~~~(BitVec.ofInt 32 (b : Int))).toNat : Int) = _
  have h1 : BitVec.ofInt 32 (a : Int) = BitVec.ofNat 32 a := by rw [BitVec.ofInt_natCast]
  have h2 : BitVec.ofInt 32 (b : Int) = BitVec.ofNat 32 b := by rw [BitVec.ofInt_natCast]
  rw [h1, h2, BitVec.toNat_and, BitVec.toNat_not, BitVec.toNat_ofNat, BitVec.toNat_ofNat, IntKind.wrap_u32, Nat.mod_eq_of_lt ha, Nat.mod_eq_of_lt hb, ← not32 hb]
  rw [show 2 ^ 32 - 1 - b = 4294967295 - b by omega]
  have : a &&& (4294967295 - b) ≤ a := Nat.and_le_left
  omega
theorem xor64 {b : Nat} (hb : b < 4294967296) : IntKind.i64.wrap ((BitVec.ofInt IntKind.i64.bits 4294967295 ^^^ BitVec.ofInt IntKind.i64.bits (b : Int)).toNat : Int) = ((4294967295 ^^^ b : Nat) : Int) := by
  have h0 : (4294967295 : Int) = ((4294967295 : Nat) : Int) := by omega
  rw [h0]
  show IntKind.i64.wrap ((BitVec.ofInt 64 ((4294967295 : Nat) : Int) ^^^ BitVec.ofInt 64 (b : Int)).toNat : Int) = _
  have h1 : BitVec.ofInt 64 ((4294967295 : Nat) : Int) = BitVec.ofNat 64 4294967295 := by rw [BitVec.ofInt_natCast]
  have h2 : BitVec.ofInt 64 (b : Int) = BitVec.ofNat 64 b := by rw [BitVec.ofInt_natCast]
  rw [h1, h2, BitVec.toNat_xor, BitVec.toNat_ofNat, BitVec.toNat_ofNat, IntKind.wrap_i64, Nat.mod_eq_of_lt (show b < 2 ^ 64 by omega), Nat.mod_eq_of_lt (show 4294967295 < 2 ^ 64 by omega)]
  have : 4294967295 ^^^ b < 2 ^ 32 := Nat.xor_lt_two_pow (by omega) (by omega)
  omega
theorem put_call (f : Fld) (x v : Nat) (hs : f.Shaped) (hx : x < 4294967296) (hv : v < 2 ^ f.width.toNat) : ACall Try.prog 52 [.p (pI x), .p f.pv, .p (pI v)] [] fun r H => r = .p (pI (putN f x v)) ∧ H = [] := by
  refine acall_enter Try.func52 rfl rfl tabOK rfl ?_
  have hml := maskN_lt hs
  have hp : x &&& (4294967295 ^^^ maskN f) ||| v * 2 ^ f.shift.toNat < 4294967296 := putN_lt hs hx hv
  obtain ⟨h1, h2, h3, h4, h5⟩ := id hs
  have hv2 : v < 65536 := Nat.lt_of_lt_of_le hv (two_pow_le (b := 16) (by omega))
  have hsl := shl_lt (s := f.shift.toNat) (w := f.width.toNat) (by omega) hv
  have e1 := andNot32 (a := x) (b := maskN f) hx (by omega)
  have e2 : IntKind.u32.wrap ((v : Int) * 2 ^ (min f.shift.toNat IntKind.u32.bits)) = ((v * 2 ^ f.shift.toNat : Nat) : Int) := by
    show IntKind.u32.wrap ((v : Int) * 2 ^ (min f.shift.toNat 32)) = _
    rw [show min f.shift.toNat 32 = f.shift.toNat by omega, IntKind.wrap_u32]
    have : ((v * 2 ^ f.shift.toNat : Nat) : Int) = (v : Int) * 2 ^ f.shift.toNat := by simp
    omega
  have e3 := or32 (a := x &&& (4294967295 ^^^ maskN f)) (b := v * 2 ^ f.shift.toNat) (and_lt hx) hsl
  (conv => whnf); repeat' ((first | ((first | apply LenA.map | apply NilA.map | apply NilA.mk); intro _) | apply CondA.plain | ((first | apply NW.as | apply ValA.as); with_reducible assumption) | ((first | apply NW.i64 | apply NW.u32 | apply NW.u64 | apply NW.u8 | apply InA.nat | apply InA.map | apply AppA.snoc (f := pI) (a := _) rfl | apply AppA.one (f := pI) (a := _) rfl | apply AppA.map | apply AppA.nil | apply CutA.lo | apply CutA.hi); (first | omega | (simp only [lenS] at *; omega) | grind)) | ((first | (apply RemA.as; assumption) | apply RemA.self); (first | omega | (simp only [lenS] at *; omega) | grind)) | (apply ValA.as; assumption) | apply ValA.self | (apply NW.as; assumption) | (apply SzA.map; (intro _; rfl)) | with_reducible apply br_pt | with_reducible apply br_pf | with_reducible apply br_mt | with_reducible apply br_mf | apply Both.mk | ((first | apply br_T | apply br_F | apply br_mT | apply br_mF); assumption) | ((first | apply br_lss | apply br_leq | apply br_gtr | apply br_geq | apply br_dec | apply br_beq | apply br_bne | apply br_beqB | apply br_bneB | apply br_not | apply br_m | apply br_intro) <;> intro h0 <;> first | (exfalso; first | omega | exact tf h0 (by assumption) | exact tf (by assumption) h0 | exact h0 (by assumption) | exact h0 rfl | exact of_decide_eq_false h0 rfl) | skip) | refine ArrA.mk _ rfl rfl ?_ | (apply IdxA.lit; omega; exact rfl) | ((first | apply IdxA.of_nat | (apply IdxA.of_map; (first | omega | (simp only [lenS] at *; omega) | grind))); rotate_left; (first | omega | (simp only [lenS] at *; omega) | grind)) | apply IsL.set (f := pI) (a := _) rfl | apply IsL.rep (f := pI) (a := _) rfl | apply IsL.lit (f := pI) [] rfl | apply IsL.lit (f := pI) [_] rfl | apply IsL.lit (f := pI) [_, _] rfl | apply IsL.lit (f := pI) [_, _, _] rfl | apply IsL.lit (f := pI) [_, _, _, _] rfl | (apply And.intro; (first | with_reducible rfl | (show (_ : AV) = _; rfl) | (first | omega | (simp only [lenS] at *; omega) | grind)))) <;> (conv => whnf))
  apply DrawA.quiet (by kernel_rfl) (by kernel_rfl)
  (conv => whnf); repeat' ((first | ((first | apply LenA.map | apply NilA.map | apply NilA.mk); intro _) | apply CondA.plain | ((first | apply NW.as | apply ValA.as); with_reducible assumption) | ((first | apply NW.i64 | apply NW.u32 | apply NW.u64 | apply NW.u8 | apply InA.nat | apply InA.map | apply AppA.snoc (f := pI) (a := _) rfl | apply AppA.one (f := pI) (a := _) rfl | apply AppA.map | apply AppA.nil | apply CutA.lo | apply CutA.hi); (first | omega | (simp only [lenS] at *; omega) | grind)) | ((first | (apply RemA.as; assumption) | apply RemA.self); (first | omega | (simp only [lenS] at *; omega) | grind)) | (apply ValA.as; assumption) | apply ValA.self | (apply NW.as; assumption) | (apply SzA.map; (intro _; rfl)) | with_reducible apply br_pt | with_reducible apply br_pf | with_reducible apply br_mt | with_reducible apply br_mf | apply Both.mk | ((first | apply br_T | apply br_F | apply br_mT | apply br_mF); assumption) | ((first | apply br_lss | apply br_leq | apply br_gtr | apply br_geq | apply br_dec | apply br_beq | apply br_bne | apply br_beqB | apply br_bneB | apply br_not | apply br_m | apply br_intro) <;> intro h0 <;> first | (exfalso; first | omega | exact tf h0 (by assumption) | exact tf (by assumption) h0 | exact h0 (by assumption) | exact h0 rfl | exact of_decide_eq_false h0 rfl) | skip) | refine ArrA.mk _ rfl rfl ?_ | (apply IdxA.lit; omega; exact rfl) | ((first | apply IdxA.of_nat | (apply IdxA.of_map; (first | omega | (simp only [lenS] at *; omega) | grind))); rotate_left; (first | omega | (simp only [lenS] at *; omega) | grind)) | apply IsL.set (f := pI) (a := _) rfl | apply IsL.rep (f := pI) (a := _) rfl | apply IsL.lit (f := pI) [] rfl | apply IsL.lit (f := pI) [_] rfl | apply IsL.lit (f := pI) [_, _] rfl | apply IsL.lit (f := pI) [_, _, _] rfl | apply IsL.lit (f := pI) [_, _, _, _] rfl | (apply And.intro; (first | with_reducible rfl | (show (_ : AV) = _; rfl) | (first | omega | (simp only [lenS] at *; omega) | grind))) | (refine CallQ.mk' (bits_call f hs) ?_)) <;> (conv => whnf))
  (refine RetK.p ?_ <;> repeat' (first | exact trivial | refine And.intro ?_ ?_ | with_reducible rfl | (refine pIEq ?_; (first | omega | (simp only [lenS] at *; omega) | grind)) | (refine bufMap ?_) | (refine bufNil ?_) | (refine bufEq ?_) | rfl); all_goals try first | refine pBEq ?_ | refine pIEq ?_)
/-- What is read of a field, and the error. -/
def getE (rs : List Int) (f : Fld) : Int := if f.Right rs.length ∧ Words rs then 0 else 2
def getV (rs : List Int) (f : Fld) : Nat := if getE rs f ≠ 0 then 0 else getN f (rs.getD f.reg.toNat 0).toNat
theorem getN_lt (f : Fld) {x : Nat} (hx : x < 4294967296) : getN f x < 4294967296 :=
  Nat.lt_of_le_of_lt (Nat.div_le_self _ _) (and_lt hx)
theorem fdiv_pow (a s : Nat) : Int.fdiv (a : Int) (2 ^ s) = ((a / 2 ^ s : Nat) : Int) := by
  have e : (2 : Int) ^ s = ((2 ^ s : Nat) : Int) := by simp
  rw [e, Int.natCast_ediv, Int.fdiv_eq_ediv_of_nonneg _ (Int.natCast_nonneg _)]
theorem word_at {rs : List Int} (h : Words rs) {i : Int} (h0 : 0 ≤ i) (h1 : i < rs.length) : ∃ x : Nat, x < 4294967296 ∧ rs[i.toNat]'(by omega) = x ∧ (rs.getD i.toNat 0).toNat = x := by
  have := h i.toNat (by omega)
  refine ⟨(rs[i.toNat]'(by omega)).toNat, by omega, by omega, ?_⟩
  rw [List.getD_eq_getElem?_getD, List.getElem?_eq_getElem (by omega)]
  rfl
theorem Get_call (nl : Bool) (rs : List Int) (f : Fld) : ACall Try.prog 40 [.p (.list nl (rs.map pI)), .p f.pv] [] fun r H => r = .tup [.p (pI (getV rs f)), .p (pI (getE rs f))] ∧ H = [] := by
  refine acall_enter Try.func40 rfl rfl tabOK rfl ?_
  (conv => whnf); repeat' ((first | ((first | apply LenA.map | apply NilA.map | apply NilA.mk); intro _) | apply CondA.plain | ((first | apply NW.as | apply ValA.as); with_reducible assumption) | ((first | apply NW.i64 | apply NW.u32 | apply NW.u64 | apply NW.u8 | apply InA.nat | apply InA.map | apply AppA.snoc (f := pI) (a := _) rfl | apply AppA.one (f := pI) (a := _) rfl | apply AppA.map | apply AppA.nil | apply CutA.lo | apply CutA.hi); (first | omega | (simp only [lenS] at *; omega) | grind)) | ((first | (apply RemA.as; assumption) | apply RemA.self); (first | omega | (simp only [lenS] at *; omega) | grind)) | (apply ValA.as; assumption) | apply ValA.self | (apply NW.as; assumption) | (apply SzA.map; (intro _; rfl)) | with_reducible apply br_pt | with_reducible apply br_pf | with_reducible apply br_mt | with_reducible apply br_mf | apply Both.mk | ((first | apply br_T | apply br_F | apply br_mT | apply br_mF); assumption) | ((first | apply br_lss | apply br_leq | apply br_gtr | apply br_geq | apply br_dec | apply br_beq | apply br_bne | apply br_beqB | apply br_bneB | apply br_not | apply br_m | apply br_intro) <;> intro h0 <;> first | (exfalso; first | omega | exact tf h0 (by assumption) | exact tf (by assumption) h0 | exact h0 (by assumption) | exact h0 rfl | exact of_decide_eq_false h0 rfl) | skip) | refine ArrA.mk _ rfl rfl ?_ | (apply IdxA.lit; omega; exact rfl) | ((first | apply IdxA.of_nat | (apply IdxA.of_map; (first | omega | (simp only [lenS] at *; omega) | grind))); rotate_left; (first | omega | (simp only [lenS] at *; omega) | grind)) | apply IsL.set (f := pI) (a := _) rfl | apply IsL.rep (f := pI) (a := _) rfl | apply IsL.lit (f := pI) [] rfl | apply IsL.lit (f := pI) [_] rfl | apply IsL.lit (f := pI) [_, _] rfl | apply IsL.lit (f := pI) [_, _, _] rfl | apply IsL.lit (f := pI) [_, _, _, _] rfl | (apply And.intro; (first | with_reducible rfl | (show (_ : AV) = _; rfl) | (first | omega | (simp only [lenS] at *; omega) | grind))) | (refine CallA.scalar (right_call f _) ?_) | (refine CallA.scalar (words_call nl rs) ?_)) <;> (conv => whnf))
  iterate 2
    · (refine' RetK.auto (.tup [.p (pI (0 : Nat)), .p (pI 2)]) ([]) rfl rfl rfl rfl _ _ _ <;> repeat' (first | exact trivial | refine And.intro ?_ ?_ | with_reducible rfl | (refine pIEq ?_; (first | omega | (simp only [lenS] at *; omega) | grind)) | (refine bufMap ?_) | (refine bufNil ?_) | (refine bufEq ?_) | rfl))
      have e : getE rs f = 2 := by unfold getE; rw [if_neg fun h => by first | exact h0 h.1 | exact h0 h.2 | exact of_decide_eq_false h0 h.1 | exact of_decide_eq_false h0 h.2]
      rw [getV, e]; rfl
  · have hW : Words rs := by first | exact h0 | exact of_decide_eq_true h0
    have hR : f.Right rs.length := by first | assumption | (apply of_decide_eq_true; assumption)
    obtain ⟨r1, r2, hs⟩ := id hR
    obtain ⟨x, hx, ex, ed⟩ := word_at hW r1 r2
    have e : getE rs f = 0 := by unfold getE; rw [if_pos ⟨hR, hW⟩]
    have ev : getV rs f = (x &&& maskN f) / 2 ^ f.shift.toNat := by rw [getV, e, ← ed]; rfl
    have hml := maskN_lt hs
    have hg : (x &&& maskN f) / 2 ^ f.shift.toNat < 4294967296 := getN_lt f hx
    have e1 := and32 (a := x) (b := maskN f) hx
    have e2 : Int.fdiv ((x &&& maskN f : Nat) : Int) (2 ^ (min f.shift.toNat IntKind.u32.bits)) = (((x &&& maskN f) / 2 ^ f.shift.toNat : Nat) : Int) := by
      show Int.fdiv ((x &&& maskN f : Nat) : Int) (2 ^ (min f.shift.toNat 32)) = _
      rw [show min f.shift.toNat 32 = f.shift.toNat by have := hs.2.1; omega, fdiv_pow]
    have hs0 := hs.1
    have hs1 := hs.2.1
    rw [ev, e]
    generalize (x &&& maskN f) / 2 ^ f.shift.toNat = z at e2 hg ⊢
    apply DrawA.quiet (by kernel_rfl) (by kernel_rfl)
    (conv => whnf); repeat' ((first | ((first | apply LenA.map | apply NilA.map | apply NilA.mk); intro _) | apply CondA.plain | ((first | apply NW.as | apply ValA.as); with_reducible assumption) | ((first | apply NW.i64 | apply NW.u32 | apply NW.u64 | apply NW.u8 | apply InA.nat | apply InA.map | apply AppA.snoc (f := pI) (a := _) rfl | apply AppA.one (f := pI) (a := _) rfl | apply AppA.map | apply AppA.nil | apply CutA.lo | apply CutA.hi); (first | omega | (simp only [lenS] at *; omega) | grind)) | ((first | (apply RemA.as; assumption) | apply RemA.self); (first | omega | (simp only [lenS] at *; omega) | grind)) | (apply ValA.as; assumption) | apply ValA.self | (apply NW.as; assumption) | (apply SzA.map; (intro _; rfl)) | with_reducible apply br_pt | with_reducible apply br_pf | with_reducible apply br_mt | with_reducible apply br_mf | apply Both.mk | ((first | apply br_T | apply br_F | apply br_mT | apply br_mF); assumption) | ((first | apply br_lss | apply br_leq | apply br_gtr | apply br_geq | apply br_dec | apply br_beq | apply br_bne | apply br_beqB | apply br_bneB | apply br_not | apply br_m | apply br_intro) <;> intro h0 <;> first | (exfalso; first | omega | exact tf h0 (by assumption) | exact tf (by assumption) h0 | exact h0 (by assumption) | exact h0 rfl | exact of_decide_eq_false h0 rfl) | skip) | refine ArrA.mk _ rfl rfl ?_ | (apply IdxA.lit; omega; exact rfl) | ((first | apply IdxA.of_nat | (apply IdxA.of_map; (first | omega | (simp only [lenS] at *; omega) | grind))); rotate_left; (first | omega | (simp only [lenS] at *; omega) | grind)) | apply IsL.set (f := pI) (a := _) rfl | apply IsL.rep (f := pI) (a := _) rfl | apply IsL.lit (f := pI) [] rfl | apply IsL.lit (f := pI) [_] rfl | apply IsL.lit (f := pI) [_, _] rfl | apply IsL.lit (f := pI) [_, _, _] rfl | apply IsL.lit (f := pI) [_, _, _, _] rfl | (apply And.intro; (first | with_reducible rfl | (show (_ : AV) = _; rfl) | (first | omega | (simp only [lenS] at *; omega) | grind))) | (refine CallQ.mk' (bits_call f hs) ?_) | ((rw [ex]; conv => whnf))) <;> (conv => whnf))
    (refine' RetK.auto (.tup [.p (pI z), .p (pI 0)]) ([]) rfl rfl rfl rfl _ _ _ <;> repeat' (first | exact trivial | refine And.intro ?_ ?_ | with_reducible rfl | (refine pIEq ?_; (first | omega | (simp only [lenS] at *; omega) | grind)) | (refine bufMap ?_) | (refine bufNil ?_) | (refine bufEq ?_) | rfl))
theorem rGet_call (nl : Bool) (rs : List Int) (f : Fld) : ACall Try.prog 47 [.p (.list nl (rs.map pI)), .p f.pv] [] fun r H => r = .tup [.p (pI (getV rs f)), .p (pI (getE rs f))] ∧ H = [] := by
  refine acall_enter Try.func47 rfl rfl tabOK rfl ?_
  (conv => whnf); repeat' ((first | ((first | apply LenA.map | apply NilA.map | apply NilA.mk); intro _) | apply CondA.plain | ((first | apply NW.as | apply ValA.as); with_reducible assumption) | ((first | apply NW.i64 | apply NW.u32 | apply NW.u64 | apply NW.u8 | apply InA.nat | apply InA.map | apply AppA.snoc (f := pI) (a := _) rfl | apply AppA.one (f := pI) (a := _) rfl | apply AppA.map | apply AppA.nil | apply CutA.lo | apply CutA.hi); (first | omega | (simp only [lenS] at *; omega) | grind)) | ((first | (apply RemA.as; assumption) | apply RemA.self); (first | omega | (simp only [lenS] at *; omega) | grind)) | (apply ValA.as; assumption) | apply ValA.self | (apply NW.as; assumption) | (apply SzA.map; (intro _; rfl)) | with_reducible apply br_pt | with_reducible apply br_pf | with_reducible apply br_mt | with_reducible apply br_mf | apply Both.mk | ((first | apply br_T | apply br_F | apply br_mT | apply br_mF); assumption) | ((first | apply br_lss | apply br_leq | apply br_gtr | apply br_geq | apply br_dec | apply br_beq | apply br_bne | apply br_beqB | apply br_bneB | apply br_not | apply br_m | apply br_intro) <;> intro h0 <;> first | (exfalso; first | omega | exact tf h0 (by assumption) | exact tf (by assumption) h0 | exact h0 (by assumption) | exact h0 rfl | exact of_decide_eq_false h0 rfl) | skip) | refine ArrA.mk _ rfl rfl ?_ | (apply IdxA.lit; omega; exact rfl) | ((first | apply IdxA.of_nat | (apply IdxA.of_map; (first | omega | (simp only [lenS] at *; omega) | grind))); rotate_left; (first | omega | (simp only [lenS] at *; omega) | grind)) | apply IsL.set (f := pI) (a := _) rfl | apply IsL.rep (f := pI) (a := _) rfl | apply IsL.lit (f := pI) [] rfl | apply IsL.lit (f := pI) [_] rfl | apply IsL.lit (f := pI) [_, _] rfl | apply IsL.lit (f := pI) [_, _, _] rfl | apply IsL.lit (f := pI) [_, _, _, _] rfl | (apply And.intro; (first | with_reducible rfl | (show (_ : AV) = _; rfl) | (first | omega | (simp only [lenS] at *; omega) | grind))) | (refine CallA.scalar (rright_call f _) ?_) | (refine CallA.scalar (rWords_call nl rs) ?_)) <;> (conv => whnf))
  iterate 2
    · (refine' RetK.auto (.tup [.p (pI (0 : Nat)), .p (pI 2)]) ([]) rfl rfl rfl rfl _ _ _ <;> repeat' (first | exact trivial | refine And.intro ?_ ?_ | with_reducible rfl | (refine pIEq ?_; (first | omega | (simp only [lenS] at *; omega) | grind)) | (refine bufMap ?_) | (refine bufNil ?_) | (refine bufEq ?_) | rfl))
      have e : getE rs f = 2 := by unfold getE; rw [if_neg fun h => by first | exact h0 h.1 | exact h0 h.2 | exact of_decide_eq_false h0 h.1 | exact of_decide_eq_false h0 h.2]
      rw [getV, e]; rfl
  · have hW : Words rs := by first | exact h0 | exact of_decide_eq_true h0
    have hR : f.Right rs.length := by first | assumption | (apply of_decide_eq_true; assumption)
    obtain ⟨r1, r2, hs⟩ := id hR
    obtain ⟨x, hx, ex, ed⟩ := word_at hW r1 r2
    have e : getE rs f = 0 := by unfold getE; rw [if_pos ⟨hR, hW⟩]
    have ev : getV rs f = (x &&& maskN f) / 2 ^ f.shift.toNat := by rw [getV, e, ← ed]; rfl
    have hml := maskN_lt hs
    have hand : x &&& maskN f < 4294967296 := and_lt hx
    have hg : (x &&& maskN f) / 2 ^ f.shift.toNat < 4294967296 := getN_lt f hx
    have hmk : mask f = maskN f := if_pos hs
    have e1 := and64 (a := x) (b := mask f) (by omega)
    rw [hmk, ← ex] at e1
    have e2 : Int.fdiv ((x &&& maskN f : Nat) : Int) (2 ^ (min f.shift.toNat IntKind.i64.bits)) = (((x &&& maskN f) / 2 ^ f.shift.toNat : Nat) : Int) := by
      show Int.fdiv ((x &&& maskN f : Nat) : Int) (2 ^ (min f.shift.toNat 64)) = _
      rw [show min f.shift.toNat 64 = f.shift.toNat by have := hs.2.1; omega, fdiv_pow]
    have hs0 := hs.1
    have hs1 := hs.2.1
    rw [ev, e]
    generalize (x &&& maskN f) / 2 ^ f.shift.toNat = z at e2 hg ⊢
    apply DrawA.quiet (by kernel_rfl) (by kernel_rfl)
    (conv => whnf); repeat' ((first | ((first | apply LenA.map | apply NilA.map | apply NilA.mk); intro _) | apply CondA.plain | ((first | apply NW.as | apply ValA.as); with_reducible assumption) | ((first | apply NW.i64 | apply NW.u32 | apply NW.u64 | apply NW.u8 | apply InA.nat | apply InA.map | apply AppA.snoc (f := pI) (a := _) rfl | apply AppA.one (f := pI) (a := _) rfl | apply AppA.map | apply AppA.nil | apply CutA.lo | apply CutA.hi); (first | omega | (simp only [lenS] at *; omega) | grind)) | ((first | (apply RemA.as; assumption) | apply RemA.self); (first | omega | (simp only [lenS] at *; omega) | grind)) | (apply ValA.as; assumption) | apply ValA.self | (apply NW.as; assumption) | (apply SzA.map; (intro _; rfl)) | with_reducible apply br_pt | with_reducible apply br_pf | with_reducible apply br_mt | with_reducible apply br_mf | apply Both.mk | ((first | apply br_T | apply br_F | apply br_mT | apply br_mF); assumption) | ((first | apply br_lss | apply br_leq | apply br_gtr | apply br_geq | apply br_dec | apply br_beq | apply br_bne | apply br_beqB | apply br_bneB | apply br_not | apply br_m | apply br_intro) <;> intro h0 <;> first | (exfalso; first | omega | exact tf h0 (by assumption) | exact tf (by assumption) h0 | exact h0 (by assumption) | exact h0 rfl | exact of_decide_eq_false h0 rfl) | skip) | refine ArrA.mk _ rfl rfl ?_ | (apply IdxA.lit; omega; exact rfl) | ((first | apply IdxA.of_nat | (apply IdxA.of_map; (first | omega | (simp only [lenS] at *; omega) | grind))); rotate_left; (first | omega | (simp only [lenS] at *; omega) | grind)) | apply IsL.set (f := pI) (a := _) rfl | apply IsL.rep (f := pI) (a := _) rfl | apply IsL.lit (f := pI) [] rfl | apply IsL.lit (f := pI) [_] rfl | apply IsL.lit (f := pI) [_, _] rfl | apply IsL.lit (f := pI) [_, _, _] rfl | apply IsL.lit (f := pI) [_, _, _, _] rfl | (apply And.intro; (first | with_reducible rfl | (show (_ : AV) = _; rfl) | (first | omega | (simp only [lenS] at *; omega) | grind))) | ((refine CallQ.mk' (rMask_call f) ?_; rw [hmk]; conv => whnf))) <;> (conv => whnf))
    (refine' RetK.auto (.tup [.p (pI z), .p (pI 0)]) ([]) rfl rfl rfl rfl _ _ _ <;> repeat' (first | exact trivial | refine And.intro ?_ ?_ | with_reducible rfl | (refine pIEq ?_; (first | omega | (simp only [lenS] at *; omega) | grind)) | (refine bufMap ?_) | (refine bufNil ?_) | (refine bufEq ?_) | rfl))
end Go.Proofs.Ytdaggbjphopohaa
