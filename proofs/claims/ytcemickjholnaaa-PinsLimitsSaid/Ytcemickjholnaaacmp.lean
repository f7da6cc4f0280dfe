/- Comparing lists. -/
import Derived.Test.Ytcemickjholnaaaboard3
namespace Go.Proofs.Ytcemickjholnaaa
set_option linter.unusedSimpArgs false
set_option linter.unusedVariables false
set_option linter.unnecessarySimpa false
open Go.Abs
set_option maxRecDepth 100000
theorem list_ne {α : Type} [DecidableEq α] {xs ys : List α} {k : Nat} (h : k < xs.length) (h' : k < ys.length) (hn : xs[k] ≠ ys[k]) : false = decide (xs = ys) :=
  (decide_eq_false fun e => hn (by subst e; rfl)).symm
theorem list_ne_len {α : Type} [DecidableEq α] {xs ys : List α} (h : (xs.length : Int) ≠ ys.length) : false = decide (xs = ys) :=
  (decide_eq_false fun e => h (by subst e; rfl)).symm
theorem take_next {α : Type} {xs ys : List α} {c : Nat} (h : c < xs.length) (h' : c < ys.length) (hn : xs.take c = ys.take c) (he : xs[c] = ys[c]) : xs.take (c + 1) = ys.take (c + 1) := by
  rw [List.take_succ_eq_append_getElem h, List.take_succ_eq_append_getElem h', hn, he]
theorem take_all {α : Type} [DecidableEq α] {xs ys : List α} {c : Nat} (h : xs.length ≤ c) (h' : ys.length ≤ c) (hn : xs.take c = ys.take c) : true = decide (xs = ys) := by
  rw [List.take_of_length_le h, List.take_of_length_le h'] at hn
  rw [decide_eq_true hn]
/-- Kept for later: a goal of a walk's step. -/
theorem park_cmp {P : Prop} (x : P) (_ : x = x) : P := x
/-- One step of a walk. -/
theorem go_cmp {P : Prop} (h : P := by
  (first | ((first | apply LenA.map | apply NilA.map | apply NilA.mk); intro _) | ((first | apply NW.as | apply ValA.as); with_reducible assumption) | ((first | apply NW.i64 | apply NW.u32 | apply NW.u64 | apply NW.u8 | apply InA.nat | apply InA.map | apply AppA.snoc (f := pI) (a := _) rfl | apply AppA.one (f := pI) (a := _) rfl | apply AppA.snoc (f := pB) (a := _) rfl | apply AppA.one (f := pB) (a := _) rfl | apply AppA.map | apply AppA.nil | apply CutA.lo | apply CutA.hi); (first | omega | (simp only [lenS] at *; omega) | grind)) | ((first | (apply RemA.as; assumption) | apply RemA.self); (first | omega | (simp only [lenS] at *; omega) | grind)) | (apply ValA.as; assumption) | apply ValA.self | (apply NW.as; assumption) | (apply SzA.map; (intro _; rfl)) | with_reducible apply br_pt | with_reducible apply br_pf | with_reducible apply br_mt | with_reducible apply br_mf | apply Both.mk | ((first | apply br_T | apply br_F | apply br_mT | apply br_mF); assumption) | ((first | apply br_lss | apply br_leq | apply br_gtr | apply br_geq | apply br_dec | apply br_beq | apply br_bne | apply br_beqB | apply br_bneB | apply br_not | apply br_m | apply br_intro) <;> intro h0 <;> first | (exfalso; first | omega | exact tf h0 (by assumption) | exact tf (by assumption) h0 | exact h0 (by assumption) | exact h0 rfl | exact of_decide_eq_false h0 rfl) | skip) | refine ArrA.mk _ rfl rfl ?_ | (apply IdxA.lit; omega; exact rfl) | ((first | apply IdxA.of_nat | (apply IdxA.of_map; (first | omega | (simp only [lenS] at *; omega) | grind))); rotate_left; (first | omega | (simp only [lenS] at *; omega) | grind)) | apply AppC.own | apply CutO.part | apply IsL.set (f := pI) (a := _) rfl | apply IsL.rep (f := pI) (a := _) rfl | apply IsL.set (f := pB) (a := _) rfl | apply IsL.rep (f := pB) (a := _) rfl | apply IsL.lit (f := pI) [] rfl | apply IsL.lit (f := pI) [_] rfl | apply IsL.lit (f := pI) [_, _] rfl | apply IsL.lit (f := pI) [_, _, _] rfl | apply IsL.lit (f := pI) [_, _, _, _] rfl | apply IsL.lit (f := pB) [] rfl | apply IsL.lit (f := pB) [_] rfl | apply IsL.lit (f := pB) [_, _] rfl | apply IsL.lit (f := pB) [_, _, _] rfl | apply IsL.lit (f := pB) [_, _, _, _] rfl | (apply And.intro; (first | with_reducible rfl | (show (_ : AV) = _; rfl) | (first | omega | (simp only [lenS] at *; omega) | grind)))) <;> (solve_by_elim (newGoals := .nonDependentOnly) (symm := false) (exfalso := false) (transparency := .reducible) only [rfl, park_cmp])) : P := h
theorem Ints_call (nl nl2 : Bool) (xs ys : List Int) : ACall Try.prog 22 [.p (.list nl (xs.map pI)), .p (.list nl2 (ys.map pI))] [] fun r H => r = .p (pB (decide (xs = ys))) ∧ H = [] := by
  refine acall_enter Try.func22 rfl rfl tabOK rfl ?_
  (conv => whnf); repeat' ((first | apply CondA.plain | refine' go_cmp | (apply DrawA.quiet (by kernel_rfl) (by kernel_rfl); (conv => whnf); fail_if_success (show False))) <;> (conv => whnf))
  · (refine RetK.p ?_ <;> repeat' (first | exact trivial | refine And.intro ?_ ?_ | with_reducible rfl | (refine pIEq ?_; (first | omega | (simp only [lenS] at *; omega) | grind)) | (refine bufMap ?_) | (refine bufNil ?_) | (refine bufEq ?_) | rfl); all_goals try first | refine pBEq ?_ | refine pIEq ?_)
    exact list_ne_len (by assumption)
  · refine loop_rule (fun (c : Nat) => ⟨[(0, .p (.list nl (xs.map pI))), (1, .p (.list nl2 (ys.map pI))), (5, .p (pI c))], []⟩) (fun (c : Nat) => c ≤ xs.length ∧ xs.take c = ys.take c) (fun (c : Nat) => xs.length - c) 0 ?_ ?_ ?_; (refine SubA.auto rfl rfl rfl rfl ?_ ?_ <;> repeat' (first | exact trivial | refine And.intro ?_ ?_ | with_reducible rfl | (refine pIEq ?_; (first | omega | (simp only [lenS] at *; omega) | grind)) | (refine bufMap ?_) | (refine bufNil ?_) | (refine bufEq ?_) | rfl))
    · exact ⟨by omega, rfl⟩
    rintro c ⟨hc, hn⟩
    (conv => whnf); repeat' ((first | apply CondA.plain | refine' go_cmp | (apply DrawA.quiet (by kernel_rfl) (by kernel_rfl); (conv => whnf); fail_if_success (show False))) <;> (conv => whnf))
    · (refine RetK.p ?_ <;> repeat' (first | exact trivial | refine And.intro ?_ ?_ | with_reducible rfl | (refine pIEq ?_; (first | omega | (simp only [lenS] at *; omega) | grind)) | (refine bufMap ?_) | (refine bufNil ?_) | (refine bufEq ?_) | rfl); all_goals try first | refine pBEq ?_ | refine pIEq ?_)
      exact list_ne (k := c) (by omega) (by omega) h0
    · (refine' ⟨c + 1, _, _, _⟩; rotate_right; (refine SubA.auto rfl rfl rfl rfl ?_ ?_ <;> repeat' (first | exact trivial | refine And.intro ?_ ?_ | with_reducible rfl | (refine pIEq ?_; (first | omega | (simp only [lenS] at *; omega) | grind)) | (refine bufMap ?_) | (refine bufNil ?_) | (refine bufEq ?_) | rfl)); rotate_right; (first | omega | (simp only []; omega) | (simp; omega) | (first | omega | (simp only [lenS] at *; omega) | grind)))
      exact ⟨by omega, take_next (by omega) (by omega) hn h0⟩
    · (refine RetK.p ?_ <;> repeat' (first | exact trivial | refine And.intro ?_ ?_ | with_reducible rfl | (refine pIEq ?_; (first | omega | (simp only [lenS] at *; omega) | grind)) | (refine bufMap ?_) | (refine bufNil ?_) | (refine bufEq ?_) | rfl); all_goals try first | refine pBEq ?_ | refine pIEq ?_)
      exact take_all (by omega) (by omega) hn
end Go.Proofs.Ytcemickjholnaaa
