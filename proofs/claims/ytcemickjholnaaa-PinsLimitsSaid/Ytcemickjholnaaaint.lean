/- Slices of numbers: index, contains, clone. -/
import Derived.Test.Ytcemickjholnaaaboard2
namespace Go.Proofs.Ytcemickjholnaaa
set_option linter.unusedSimpArgs false
set_option linter.unusedVariables false
set_option linter.unnecessarySimpa false
open Go.Abs
set_option maxRecDepth 100000
theorem idxOf_eq {xs : List Int} {c : Nat} (h : c < xs.length) (hn : xs[c] ∉ xs.take c) : xs.idxOf xs[c] = c := by
  have e : xs = xs.take c ++ xs[c] :: xs.drop (c + 1) := by rw [← List.drop_eq_getElem_cons h, List.take_append_drop]
  generalize xs[c] = x at e hn
  rw [e, List.idxOf_append, if_neg hn]
  simp
  omega
/-- Kept for later: a goal of a walk's step. -/
theorem park_int {P : Prop} (x : P) (_ : x = x) : P := x
/-- One step of a walk. -/
theorem go_int {P : Prop} (h : P := by
  (first | ((first | apply LenA.map | apply NilA.map | apply NilA.mk); intro _) | ((first | apply NW.as | apply ValA.as); with_reducible assumption) | ((first | apply NW.i64 | apply NW.u32 | apply NW.u64 | apply NW.u8 | apply InA.nat | apply InA.map | apply AppA.snoc (f := pI) (a := _) rfl | apply AppA.one (f := pI) (a := _) rfl | apply AppA.map | apply AppA.nil | apply CutA.lo | apply CutA.hi); (first | omega | (simp only [lenS] at *; omega) | grind)) | ((first | (apply RemA.as; assumption) | apply RemA.self); (first | omega | (simp only [lenS] at *; omega) | grind)) | (apply ValA.as; assumption) | apply ValA.self | (apply NW.as; assumption) | (apply SzA.map; (intro _; rfl)) | with_reducible apply br_pt | with_reducible apply br_pf | with_reducible apply br_mt | with_reducible apply br_mf | apply Both.mk | ((first | apply br_T | apply br_F | apply br_mT | apply br_mF); assumption) | ((first | apply br_lss | apply br_leq | apply br_gtr | apply br_geq | apply br_dec | apply br_beq | apply br_bne | apply br_beqB | apply br_bneB | apply br_not | apply br_m | apply br_intro) <;> intro h0 <;> first | (exfalso; first | omega | exact tf h0 (by assumption) | exact tf (by assumption) h0 | exact h0 (by assumption) | exact h0 rfl | exact of_decide_eq_false h0 rfl) | skip) | refine ArrA.mk _ rfl rfl ?_ | (apply IdxA.lit; omega; exact rfl) | ((first | apply IdxA.of_nat | (apply IdxA.of_map; (first | omega | (simp only [lenS] at *; omega) | grind))); rotate_left; (first | omega | (simp only [lenS] at *; omega) | grind)) | apply AppC.own | apply CutO.part | apply IsL.set (f := pI) (a := _) rfl | apply IsL.rep (f := pI) (a := _) rfl | apply IsL.lit (f := pI) [] rfl | apply IsL.lit (f := pI) [_] rfl | (apply And.intro; (first | with_reducible rfl | (show (_ : AV) = _; rfl) | (first | omega | (simp only [lenS] at *; omega) | grind)))) <;> (solve_by_elim (newGoals := .nonDependentOnly) (symm := false) (exfalso := false) (transparency := .reducible) only [rfl, park_int])) : P := h
theorem Index_call (nl : Bool) (xs : List Int) (x : Int) : ACall Try.prog 47 [.p (.list nl (xs.map pI)), .p (pI x)] [] fun r H => r = .p (pI (if xs.contains x then (xs.idxOf x : Int) else -1)) ∧ H = [] := by
  refine acall_enter Try.func47 rfl rfl tabOK rfl ?_
  (conv => whnf); repeat' ((first | apply CondA.plain | refine' go_int | (apply DrawA.quiet (by kernel_rfl) (by kernel_rfl); (conv => whnf); fail_if_success (show False))) <;> (conv => whnf))
  refine loop_rule (fun (c : Nat) => ⟨[(0, .p (.list nl (xs.map pI))), (1, .p (pI x)), (7, .p (pI xs.length)), (8, .p (pI c))], []⟩) (fun (c : Nat) => c ≤ xs.length ∧ x ∉ xs.take c) (fun (c : Nat) => xs.length - c) 0 ?_ ?_ ?_; (refine SubA.auto rfl rfl rfl rfl ?_ ?_ <;> repeat' (first | exact trivial | refine And.intro ?_ ?_ | with_reducible rfl | (refine pIEq ?_; (first | omega | (simp only [lenS] at *; omega) | grind)) | (refine bufMap ?_) | (refine bufNil ?_) | (refine bufEq ?_) | rfl))
  · simp
  rintro c ⟨hc, hn⟩
  have ht := fun h => mem_take_succ (xs := xs) (c := c) h x
  have hx := fun h => idxOf_eq (xs := xs) (c := c) h
  (conv => whnf); repeat' ((first | apply CondA.plain | refine' go_int | (apply DrawA.quiet (by kernel_rfl) (by kernel_rfl); (conv => whnf); fail_if_success (show False))) <;> (conv => whnf))
  · (refine RetK.p ?_ <;> repeat' (first | exact trivial | refine And.intro ?_ ?_ | with_reducible rfl | (refine pIEq ?_; (first | omega | (simp only [lenS] at *; omega) | grind)) | (refine bufMap ?_) | (refine bufNil ?_) | (refine bufEq ?_) | rfl); all_goals try first | refine pBEq ?_ | refine pIEq ?_)
    grind
  · (refine' ⟨c + 1, _, _, _⟩; rotate_right; (refine SubA.auto rfl rfl rfl rfl ?_ ?_ <;> repeat' (first | exact trivial | refine And.intro ?_ ?_ | with_reducible rfl | (refine pIEq ?_; (first | omega | (simp only [lenS] at *; omega) | grind)) | (refine bufMap ?_) | (refine bufNil ?_) | (refine bufEq ?_) | rfl)); rotate_right; (first | omega | (simp only []; omega) | (simp; omega) | (first | omega | (simp only [lenS] at *; omega) | grind)))
    grind
  · (refine RetK.p ?_ <;> repeat' (first | exact trivial | refine And.intro ?_ ?_ | with_reducible rfl | (refine pIEq ?_; (first | omega | (simp only [lenS] at *; omega) | grind)) | (refine bufMap ?_) | (refine bufNil ?_) | (refine bufEq ?_) | rfl); all_goals try first | refine pBEq ?_ | refine pIEq ?_)
    have hc' : c = xs.length := by omega
    rw [hc', List.take_length] at hn
    grind
theorem Contains_call (nl : Bool) (xs : List Int) (x : Int) : ACall Try.prog 43 [.p (.list nl (xs.map pI)), .p (pI x)] [] fun r H => r = .p (pB (xs.contains x)) ∧ H = [] := by
  refine acall_enter Try.func43 rfl rfl tabOK rfl ?_
  (conv => whnf); repeat' ((first | apply CondA.plain | refine' go_int | (apply DrawA.quiet (by kernel_rfl) (by kernel_rfl); (conv => whnf); fail_if_success (show False)) | (refine CallA.scalar (Index_call nl xs x) ?_)) <;> (conv => whnf))
  (refine RetK.p ?_ <;> repeat' (first | exact trivial | refine And.intro ?_ ?_ | with_reducible rfl | (refine pIEq ?_; (first | omega | (simp only [lenS] at *; omega) | grind)) | (refine bufMap ?_) | (refine bufNil ?_) | (refine bufEq ?_) | rfl); all_goals try first | refine pBEq ?_ | refine pIEq ?_)
  grind
theorem Clone_call (nl : Bool) (xs : List Int) (h : xs.length ≤ 100000) : ACall Try.prog 45 [.p (.list nl (xs.map pI))] [] fun r H =>
    ∃ nl2, r = .buf 0 ∧ H = [some (AO.buf 3 nl2 (xs.map pI))] := by
  refine acall_enter Try.func45 rfl rfl tabOK rfl ?_
  (conv => whnf); repeat' ((first | apply CondA.plain | refine' go_int | (apply DrawA.quiet (by kernel_rfl) (by kernel_rfl); (conv => whnf); fail_if_success (show False))) <;> (conv => whnf))
  · have e : xs = [] := (by assumption : nl = true → xs = []) h0
    subst e
    refine RetK.nil (e := 3) rfl ?_
    (refine' RetK.auto (.buf 0) ([some (AO.buf 3 true [])]) rfl rfl rfl rfl _ _ _ <;> repeat' (first | exact trivial | refine And.intro ?_ ?_ | with_reducible rfl | (refine pIEq ?_; (first | omega | (simp only [lenS] at *; omega) | grind)) | (refine bufMap ?_) | (refine bufNil ?_) | (refine bufEq ?_) | rfl))
    exact ⟨true, rfl, rfl⟩
  · (refine' RetK.auto (.buf 0) ([some (AO.buf 3 _ (xs.map pI))]) rfl rfl rfl rfl _ _ _ <;> repeat' (first | exact trivial | refine And.intro ?_ ?_ | with_reducible rfl | (refine pIEq ?_; (first | omega | (simp only [lenS] at *; omega) | grind)) | (refine bufMap ?_) | (refine bufNil ?_) | (refine bufEq ?_) | rfl))
    exact ⟨_, rfl, rfl⟩
end Go.Proofs.Ytcemickjholnaaa
