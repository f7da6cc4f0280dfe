/- The makers of small inputs: Pick, Bools. -/
import Derived.Test.Ytcemickjholnaaaboard2
namespace Go.Proofs.Ytcemickjholnaaa
set_option linter.unusedSimpArgs false
set_option linter.unusedVariables false
set_option linter.unnecessarySimpa false
open Go.Abs
set_option maxRecDepth 100000
/-- Kept for later: a goal of a walk's step. -/
theorem park_board3 {P : Prop} (x : P) (_ : x = x) : P := x
/-- One step of a walk. -/
theorem go_board3 {P : Prop} (h : P := by
  (first | ((first | apply LenA.map | apply NilA.map | apply NilA.mk); intro _) | ((first | apply NW.as | apply ValA.as); with_reducible assumption) | ((first | apply NW.i64 | apply NW.u32 | apply NW.u64 | apply NW.u8 | apply InA.nat | apply InA.map | apply AppA.snoc (f := pI) (a := _) rfl | apply AppA.one (f := pI) (a := _) rfl | apply AppA.snoc (f := pB) (a := _) rfl | apply AppA.one (f := pB) (a := _) rfl | apply AppA.map | apply AppA.nil | apply CutA.lo | apply CutA.hi); (first | omega | (simp only [lenS] at *; omega) | grind)) | ((first | (apply RemA.as; assumption) | apply RemA.self); (first | omega | (simp only [lenS] at *; omega) | grind)) | (apply ValA.as; assumption) | apply ValA.self | (apply NW.as; assumption) | (apply SzA.map; (intro _; rfl)) | with_reducible apply br_pt | with_reducible apply br_pf | with_reducible apply br_mt | with_reducible apply br_mf | apply Both.mk | ((first | apply br_T | apply br_F | apply br_mT | apply br_mF); assumption) | ((first | apply br_lss | apply br_leq | apply br_gtr | apply br_geq | apply br_dec | apply br_beq | apply br_bne | apply br_beqB | apply br_bneB | apply br_not | apply br_m | apply br_intro) <;> intro h0 <;> first | (exfalso; first | omega | exact tf h0 (by assumption) | exact tf (by assumption) h0 | exact h0 (by assumption) | exact h0 rfl | exact of_decide_eq_false h0 rfl) | skip) | refine ArrA.mk _ rfl rfl ?_ | (apply IdxA.lit; omega; exact rfl) | ((first | apply IdxA.of_nat | (apply IdxA.of_map; (first | omega | (simp only [lenS] at *; omega) | grind))); rotate_left; (first | omega | (simp only [lenS] at *; omega) | grind)) | apply AppC.own | apply CutO.part | apply IsL.set (f := pI) (a := _) rfl | apply IsL.rep (f := pI) (a := _) rfl | apply IsL.set (f := pB) (a := _) rfl | apply IsL.rep (f := pB) (a := _) rfl | apply IsL.lit (f := pI) [] rfl | apply IsL.lit (f := pI) [_] rfl | apply IsL.lit (f := pB) [] rfl | apply IsL.lit (f := pB) [_] rfl | (apply And.intro; (first | with_reducible rfl | (show (_ : AV) = _; rfl) | (first | omega | (simp only [lenS] at *; omega) | grind)))) <;> (solve_by_elim (newGoals := .nonDependentOnly) (symm := false) (exfalso := false) (transparency := .reducible) only [rfl, park_board3])) : P := h
theorem Pick_call (nl nl2 : Bool) (ts : List Int) (i : Nat) (h : i ≤ ts.length) (xs : List Int) (h0 : 0 < xs.length) (h1 : xs.length ≤ 1000000) :
    ACall Try.prog 39 [.ptr 0 0, .p (.list nl2 (xs.map pI))] (src nl ts i) fun r H => ∃ v i', v ∈ xs ∧ i' ≤ ts.length ∧ r = .p (pI v) ∧ H = src nl ts i' := by
  refine acall_enter Try.func39 rfl rfl tabOK rfl ?_
  (conv => whnf); repeat' ((first | apply CondA.plain | refine' go_board3 | (apply DrawA.quiet (by kernel_rfl) (by kernel_rfl); (conv => whnf); fail_if_success (show False))) <;> (conv => whnf))
  refine CallA.loc [0] [] rfl rfl ((N_call nl ts i h _ (by omega)).mono ?_)
  rintro r H ⟨v, i', hv, hv2, hi', rfl, rfl⟩
  (conv => whnf); repeat' ((first | apply CondA.plain | refine' go_board3 | (apply DrawA.quiet (by kernel_rfl) (by kernel_rfl); (conv => whnf); fail_if_success (show False))) <;> (conv => whnf))
  (refine' RetK.auto (.p (pI (xs[v.toNat]'(by omega)))) (src nl ts i') rfl rfl rfl rfl _ _ _ <;> repeat' (first | exact trivial | refine And.intro ?_ ?_ | with_reducible rfl | (refine pIEq ?_; (first | omega | (simp only [lenS] at *; omega) | grind)) | (refine bufMap ?_) | (refine bufNil ?_) | (refine bufEq ?_) | rfl))
  exact ⟨_, i', List.getElem_mem _, hi', rfl, rfl⟩
end Go.Proofs.Ytcemickjholnaaa
