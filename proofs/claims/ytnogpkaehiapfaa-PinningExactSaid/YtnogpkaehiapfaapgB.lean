/- Pinning: the chapter's example. -/
import Derived.Test.Ytnogpkaehiapfaapg8
import Derived.Test.Ytnogpkaehiapfaapg9
import Derived.Test.YtnogpkaehiapfaapgA
namespace Go.Proofs.Ytnogpkaehiapfaa
set_option linter.unusedSimpArgs false
set_option linter.unusedVariables false
set_option linter.unnecessarySimpa false
open Go.Abs
set_option maxRecDepth 100000
def nUart : ByteArray := ⟨#[117, 97, 114, 116]⟩
def nSpi : ByteArray := ⟨#[115, 112, 105]⟩
def onePn : Pin := ⟨4, false, [⟨⟨#[97]⟩, false, [0, 1], false, [nUart]⟩, ⟨⟨#[98]⟩, false, [1, 2], false, [nSpi]⟩, ⟨⟨#[99]⟩, false, [3], false, [nSpi]⟩]⟩
/-- Kept for later: a goal of a walk's step. -/
theorem park_pgB {P : Prop} (x : P) (_ : x = x) : P := x
/-- One step of a walk. -/
theorem go_pgB {P : Prop} (h : P := by
  (first | ((first | apply LenA.map | apply NilA.map | apply NilA.mk); intro _) | ((first | apply NW.as | apply ValA.as); with_reducible assumption) | ((first | apply NW.i64 | apply NW.u32 | apply NW.u64 | apply NW.u8 | apply InA.nat | apply InA.map | apply AppA.snoc (f := pI) (a := _) rfl | apply AppA.one (f := pI) (a := _) rfl | apply AppA.snoc (f := pB) (a := _) rfl | apply AppA.one (f := pB) (a := _) rfl | apply AppA.snoc (f := pS) (a := _) rfl | apply AppA.one (f := pS) (a := _) rfl | apply AppA.map | apply AppA.nil | apply CutA.lo | apply CutA.hi); (first | omega | (simp only [lenS] at *; omega) | grind)) | ((first | (apply RemA.as; assumption) | apply RemA.self); (first | omega | (simp only [lenS] at *; omega) | grind)) | (apply ValA.as; assumption) | apply ValA.self | (apply NW.as; assumption) | (apply SzA.map; (intro _; rfl)) | with_reducible apply br_pt | with_reducible apply br_pf | with_reducible apply br_mt | with_reducible apply br_mf | apply Both.mk | ((first | apply br_T | apply br_F | apply br_mT | apply br_mF); assumption) | ((first | apply br_lss | apply br_leq | apply br_gtr | apply br_geq | apply br_dec | apply br_beq | apply br_bne | apply br_beqB | apply br_bneB | apply br_not | apply br_m | apply br_intro) <;> intro h0 <;> first | (exfalso; first | omega | exact tf h0 (by assumption) | exact tf (by assumption) h0 | exact h0 (by assumption) | exact h0 rfl | exact of_decide_eq_false h0 rfl) | skip) | refine ArrA.mk _ rfl rfl ?_ | (apply IdxA.lit; omega; exact rfl) | ((first | apply IdxA.of_nat | (apply IdxA.of_map; (first | omega | (simp only [lenS] at *; omega) | grind))); rotate_left; (first | omega | (simp only [lenS] at *; omega) | grind)) | apply AppC.own | apply CutO.part | apply IsL.set (f := pI) (a := _) rfl | apply IsL.rep (f := pI) (a := _) rfl | apply IsL.set (f := pB) (a := _) rfl | apply IsL.rep (f := pB) (a := _) rfl | apply IsL.set (f := pS) (a := _) rfl | apply IsL.rep (f := pS) (a := _) rfl | apply IsL.lit (f := pI) [] rfl | apply IsL.lit (f := pI) [_] rfl | apply IsL.lit (f := pB) [] rfl | apply IsL.lit (f := pB) [_] rfl | apply IsL.lit (f := pS) [] rfl | apply IsL.lit (f := pS) [_] rfl | (apply And.intro; (first | with_reducible rfl | (show (_ : AV) = _; rfl) | (first | omega | (simp only [lenS] at *; omega) | grind)))) <;> (solve_by_elim (newGoals := .nonDependentOnly) (symm := false) (exfalso := false) (transparency := .reducible) only [rfl, park_pgB])) : P := h
set_option maxHeartbeats 4000000 in
theorem one_call : ACall Try.prog 35 [] [] fun r H => r = .p onePn.pv ∧ H = [] := by
  refine acall_enter Try.func35 rfl rfl tabOK rfl ?_
  (conv => whnf); repeat' ((first | (refine IsL.lit (f := pI) [0, 1] rfl ?_) | (refine IsL.lit (f := pS) [nUart] rfl ?_) | (refine IsL.lit (f := pI) [1, 2] rfl ?_) | (refine IsL.lit (f := pS) [nSpi] rfl ?_) | (refine IsL.lit (f := pI) [3] rfl ?_) | (refine IsL.lit (f := Grp.pv) onePn.gs rfl ?_) | apply CondA.plain | refine' go_pgB | (apply DrawA.quiet (by kernel_rfl) (by kernel_rfl); (conv => whnf); fail_if_success (show False))) <;> (conv => whnf))
  (refine RetK.frz _ _ _ [7] ?_; refine' RetK.auto (.p onePn.pv) ([]) rfl rfl rfl rfl _ _ _ <;> repeat' (first | exact trivial | refine And.intro ?_ ?_ | with_reducible rfl | (refine pIEq ?_; (first | omega | (simp only [lenS] at *; omega) | grind)) | (refine bufMap ?_) | (refine bufNil ?_) | (refine bufEq ?_) | rfl))
theorem sane_vals : asgF onePn [nUart, nUart] [] = ([], 9) ∧ refF onePn [nUart, nUart] [] = ([0, 1], 0) ∧ asgF onePn [nSpi, nUart] [] = ([2, 0], 0) ∧ coreF onePn [nSpi, nUart, nUart] = ([1, 2], 0) ∧ checkF onePn [nUart, nUart] [] [0, 1] = true ∧ checkF onePn [nUart, nUart] [] [1, 0] = true ∧ checkF onePn [nUart, nUart] [] [0] = false := by decide +kernel
set_option maxHeartbeats 8000000 in
theorem sane23_call : ACall Try.prog 9 [] [] fun r H => r = .p (pB true) ∧ H = [] := by
  refine acall_enter Try.func9 rfl rfl tabOK rfl ?_
  obtain ⟨a1, a2, a3, a4, a5, a6, a7⟩ := sane_vals
  have i2 : decide (([2, 0] : List Int) = [2, 0]) = true := by decide
  have i3 : decide (([1, 2] : List Int) = [1, 2]) = true := by decide
  (conv => whnf); repeat' ((first | (refine IsL.lit (f := pS) [nUart, nUart] rfl ?_) | apply CondA.plain | refine' go_pgB | (apply DrawA.quiet (by kernel_rfl) (by kernel_rfl); (conv => whnf); fail_if_success (show False)) | ((refine CallA.loc [] [] rfl rfl (one_call.mono ?_); rintro _ _ ⟨rfl, rfl⟩))) <;> (conv => whnf))
  refine CallA.loc [] [0] rfl rfl ((Assign_call onePn false true [nUart, nUart] []).mono ?_)
  rw [a1]
  rintro _ _ ⟨⟨n1, rfl⟩, rfl⟩
  (conv => whnf); repeat' ((first | apply CondA.plain | refine' go_pgB | (apply DrawA.quiet (by kernel_rfl) (by kernel_rfl); (conv => whnf); fail_if_success (show False)) | ((refine CallA.loc [] [] rfl rfl (one_call.mono ?_); rintro _ _ ⟨rfl, rfl⟩))) <;> (conv => whnf))
  refine CallA.loc [] [0] rfl rfl ((Refute_call onePn false true [nUart, nUart] []).mono ?_)
  rw [a2]
  rintro _ _ ⟨⟨n2, rfl⟩, rfl⟩
  (conv => whnf); repeat' ((first | (refine IsL.lit (f := pS) [nSpi, nUart] rfl ?_) | apply CondA.plain | refine' go_pgB | (apply DrawA.quiet (by kernel_rfl) (by kernel_rfl); (conv => whnf); fail_if_success (show False)) | ((refine CallA.loc [] [] rfl rfl (one_call.mono ?_); rintro _ _ ⟨rfl, rfl⟩))) <;> (conv => whnf))
  refine CallA.loc [] [1] rfl rfl ((Assign_call onePn false true [nSpi, nUart] []).mono ?_)
  rw [a3]
  rintro _ _ ⟨⟨n3, rfl⟩, rfl⟩
  (conv => whnf); repeat' ((first | (refine IsL.lit (f := pS) [nSpi, nUart, nUart] rfl ?_) | apply CondA.plain | refine' go_pgB | (apply DrawA.quiet (by kernel_rfl) (by kernel_rfl); (conv => whnf); fail_if_success (show False)) | ((refine CallA.loc [] [] rfl rfl (one_call.mono ?_); rintro _ _ ⟨rfl, rfl⟩))) <;> (conv => whnf))
  refine CallA.loc [] [2] rfl rfl ((Core_call onePn false [nSpi, nUart, nUart]).mono ?_)
  rw [a4]
  rintro _ _ ⟨⟨n4, rfl⟩, rfl⟩
  (conv => whnf); repeat' ((first | (refine IsL.lit (f := pI) [0, 1] rfl ?_) | (refine IsL.lit (f := pI) [1, 0] rfl ?_) | (refine IsL.lit (f := pI) [0] rfl ?_) | (refine IsL.lit (f := pI) [2, 0] rfl ?_) | (refine IsL.lit (f := pI) [1, 2] rfl ?_) | apply CondA.plain | refine' go_pgB | (apply DrawA.quiet (by kernel_rfl) (by kernel_rfl); (conv => whnf); fail_if_success (show False)) | ((refine CallA.loc [] [] rfl rfl (one_call.mono ?_); rintro _ _ ⟨rfl, rfl⟩)) | ((refine CallA.scalar (Check_call onePn _ true _ [nUart, nUart] [] [0, 1]) ?_; rw [a5])) | ((refine CallA.scalar (Check_call onePn _ true _ [nUart, nUart] [] [1, 0]) ?_; rw [a6])) | ((refine CallA.scalar (Check_call onePn _ true _ [nUart, nUart] [] [0]) ?_; rw [a7])) | ((refine CallA.scalar (Ints_call _ _ [2, 0] [2, 0]) ?_; rw [i2])) | ((refine CallA.scalar (Ints_call _ _ [1, 2] [1, 2]) ?_; rw [i3]))) <;> (conv => whnf))
  (refine RetK.p ?_ <;> repeat' (first | exact trivial | refine And.intro ?_ ?_ | with_reducible rfl | (refine pIEq ?_; (first | omega | (simp only [lenS] at *; omega) | grind)) | (refine bufMap ?_) | (refine bufNil ?_) | (refine bufEq ?_) | rfl); all_goals try first | refine pBEq ?_ | refine pIEq ?_)
end Go.Proofs.Ytnogpkaehiapfaa
