/- Made pinouts that are bent; made uses. -/
import Derived.Test.YtnogpkaehiapfaapinA
import Derived.Test.Ytnogpkaehiapfaaboard3
namespace Go.Proofs.Ytnogpkaehiapfaa
set_option linter.unusedSimpArgs false
set_option linter.unusedVariables false
set_option linter.unnecessarySimpa false
open Go.Abs
set_option maxRecDepth 100000
def modW (x n : Int) : Int := if n < 1 then 0 else (IntKind.i64.wrap (x.tmod n + n)).tmod n
theorem tmod_lt64 {x n : Int} (hn : 0 < n) (hb : n ≤ 9223372036854775807) : -9223372036854775808 ≤ x.tmod n ∧ x.tmod n ≤ 9223372036854775807 := by
  have h1 := Int.tmod_lt_of_pos x hn
  have h2 : -n < x.tmod n := Int.lt_tmod_of_pos x hn
  omega
theorem wrap_le (x : Int) : IntKind.i64.wrap x ≤ 9223372036854775807 := by
  have := IntKind.wrap_i64 x
  omega
/-- Kept for later: a goal of a walk's step. -/
theorem park_pinI {P : Prop} (x : P) (_ : x = x) : P := x
/-- One step of a walk. -/
theorem go_pinI {P : Prop} (h : P := by
  (first | ((first | apply LenA.map | apply NilA.map | apply NilA.mk); intro _) | ((first | apply NW.as | apply ValA.as); with_reducible assumption) | ((first | apply NW.i64 | apply NW.u32 | apply NW.u64 | apply NW.u8 | apply InA.nat | apply InA.map | apply AppA.snoc (f := pI) (a := _) rfl | apply AppA.one (f := pI) (a := _) rfl | apply AppA.snoc (f := pB) (a := _) rfl | apply AppA.one (f := pB) (a := _) rfl | apply AppA.snoc (f := pS) (a := _) rfl | apply AppA.one (f := pS) (a := _) rfl | apply AppA.snoc (f := Us.pv) (a := _) rfl | apply AppA.one (f := Us.pv) (a := _) rfl | (apply AppA.snoc (f := Us.pv) (a := ⟨_, _⟩); dsimp only [Us.pv]; exact rfl) | (apply AppA.one (f := Us.pv) (a := ⟨_, _⟩); dsimp only [Us.pv]; exact rfl) | apply AppA.map | apply AppA.nil | apply CutA.lo | apply CutA.hi); (first | omega | (simp only [lenS] at *; omega) | grind)) | ((first | (apply RemA.as; assumption) | apply RemA.self); (first | omega | (simp only [lenS] at *; omega) | grind)) | (apply ValA.as; assumption) | apply ValA.self | (apply NW.as; assumption) | (apply SzA.map; (intro _; rfl)) | with_reducible apply br_pt | with_reducible apply br_pf | with_reducible apply br_mt | with_reducible apply br_mf | apply Both.mk | ((first | apply br_T | apply br_F | apply br_mT | apply br_mF); assumption) | ((first | apply br_lss | apply br_leq | apply br_gtr | apply br_geq | apply br_dec | apply br_beq | apply br_bne | apply br_beqB | apply br_bneB | apply br_not | apply br_m | apply br_intro) <;> intro h0 <;> first | (exfalso; first | omega | exact tf h0 (by assumption) | exact tf (by assumption) h0 | exact h0 (by assumption) | exact h0 rfl | exact of_decide_eq_false h0 rfl) | skip) | refine ArrA.mk _ rfl rfl ?_ | (apply IdxA.lit; omega; exact rfl) | ((first | apply IdxA.of_nat | (apply IdxA.of_map; (first | omega | (simp only [lenS] at *; omega) | grind))); rotate_left; (first | omega | (simp only [lenS] at *; omega) | grind)) | apply AppC.own | apply CutO.part | apply IsL.set (f := pI) (a := _) rfl | apply IsL.rep (f := pI) (a := _) rfl | apply IsL.set (f := pB) (a := _) rfl | apply IsL.rep (f := pB) (a := _) rfl | apply IsL.set (f := pS) (a := _) rfl | apply IsL.rep (f := pS) (a := _) rfl | apply IsL.set (f := Us.pv) (a := _) rfl | apply IsL.rep (f := Us.pv) (a := _) rfl | (apply IsL.set (f := Us.pv) (a := ⟨_, _⟩); dsimp only [Us.pv]; exact rfl) | (apply IsL.rep (f := Us.pv) (a := ⟨_, _⟩); dsimp only [Us.pv]; exact rfl) | apply IsL.lit (f := pI) [] rfl | apply IsL.lit (f := pI) [_] rfl | apply IsL.lit (f := pB) [] rfl | apply IsL.lit (f := pB) [_] rfl | apply IsL.lit (f := pS) [] rfl | apply IsL.lit (f := pS) [_] rfl | apply IsL.lit (f := Us.pv) [] rfl | apply IsL.lit (f := Us.pv) [_] rfl | apply IsL.lit (f := Us.pv) [] rfl | apply IsL.lit (f := Us.pv) [⟨_, _⟩] rfl | (apply And.intro; (first | with_reducible rfl | (show (_ : AV) = _; rfl) | (first | omega | (simp only [lenS] at *; omega) | grind)))) <;> (solve_by_elim (newGoals := .nonDependentOnly) (symm := false) (exfalso := false) (transparency := .reducible) only [rfl, park_pinI])) : P := h
theorem Mod_any (x n : Int) (hb : n ≤ 9223372036854775807) : ACall Try.prog 57 [.p (pI x), .p (pI n)] [] fun r H => r = .p (pI (modW x n)) ∧ H = [] := by
  refine acall_enter Try.func57 rfl rfl tabOK rfl ?_
  rcases Decidable.em (n < 1) with h | h
  · (conv => whnf); repeat' ((first | apply CondA.plain | refine' go_pinI | (apply DrawA.quiet (by kernel_rfl) (by kernel_rfl); (conv => whnf); fail_if_success (show False))) <;> (conv => whnf))
    (refine RetK.p ?_ <;> repeat' (first | exact trivial | refine And.intro ?_ ?_ | with_reducible rfl | (refine pIEq ?_; (first | omega | (simp only [lenS] at *; omega) | grind)) | (refine bufMap ?_) | (refine bufNil ?_) | (refine bufEq ?_) | rfl); all_goals try first | refine pBEq ?_ | refine pIEq ?_)
    rw [modW, if_pos h]
  · have h1 := tmod_lt64 (x := x) (show 0 < n by omega) hb
    obtain ⟨v, hv⟩ : ∃ v, IntKind.i64.wrap (x.tmod n + n) = v := ⟨_, rfl⟩
    have h2 := tmod_lt64 (x := v) (show 0 < n by omega) hb
    (conv => whnf); repeat' ((first | apply CondA.plain | refine' go_pinI | (apply DrawA.quiet (by kernel_rfl) (by kernel_rfl); (conv => whnf); fail_if_success (show False))) <;> (conv => whnf))
    (refine RetK.p ?_ <;> repeat' (first | exact trivial | refine And.intro ?_ ?_ | with_reducible rfl | (refine pIEq ?_; (first | omega | (simp only [lenS] at *; omega) | grind)) | (refine bufMap ?_) | (refine bufNil ?_) | (refine bufEq ?_) | rfl); all_goals try first | refine pBEq ?_ | refine pIEq ?_)
    rw [modW, if_neg h, hv]
theorem N_any (nl : Bool) (ts : List Int) (i : Nat) (h : i ≤ ts.length) (n : Int) (hb : n ≤ 9223372036854775807) :
    ACall Try.prog 29 [.ptr 0 0, .p (pI n)] (src nl ts i) fun r H => ∃ (v : Int) (i' : Nat), i' ≤ ts.length ∧ r = .p (pI v) ∧ H = src nl ts i' := by
  refine acall_enter Try.func29 rfl rfl tabOK rfl ?_
  (conv => whnf); repeat' ((first | apply CondA.plain | refine' go_pinI | (apply DrawA.quiet (by kernel_rfl) (by kernel_rfl); (conv => whnf); fail_if_success (show False)) | (refine CallQ.mk' (Mod_any _ n hb) ?_)) <;> (conv => whnf))
  · (refine' RetK.auto (.p (pI 0)) (src nl ts i) rfl rfl rfl rfl _ _ _ <;> repeat' (first | exact trivial | refine And.intro ?_ ?_ | with_reducible rfl | (refine pIEq ?_; (first | omega | (simp only [lenS] at *; omega) | grind)) | (refine bufMap ?_) | (refine bufNil ?_) | (refine bufEq ?_) | rfl))
    exact ⟨0, i, h, rfl, rfl⟩
  · (refine' RetK.auto (.p (pI (modW ts[((i : Int) + 1 - 1).toNat] n))) (src nl ts (i + 1)) rfl rfl rfl rfl _ _ _ <;> repeat' (first | exact trivial | refine And.intro ?_ ?_ | with_reducible rfl | (refine pIEq ?_; (first | omega | (simp only [lenS] at *; omega) | grind)) | (refine bufMap ?_) | (refine bufNil ?_) | (refine bufEq ?_) | rfl))
    exact ⟨_, i + 1, by omega, rfl, rfl⟩
theorem Text_call (nl nl2 : Bool) (ts : List Int) (i : Nat) (h : i ≤ ts.length) (xs : List ByteArray) (h0 : 0 < xs.length) (h1 : xs.length ≤ 1000000) :
    ACall Try.prog 38 [.ptr 0 0, .p (.list nl2 (xs.map pS))] (src nl ts i) fun r H => ∃ v i', v ∈ xs ∧ i' ≤ ts.length ∧ r = .p (pS v) ∧ H = src nl ts i' := by
  refine acall_enter Try.func38 rfl rfl tabOK rfl ?_
  (conv => whnf); repeat' ((first | apply CondA.plain | refine' go_pinI | (apply DrawA.quiet (by kernel_rfl) (by kernel_rfl); (conv => whnf); fail_if_success (show False))) <;> (conv => whnf))
  refine CallA.loc [0] [] rfl rfl ((N_call nl ts i h _ (by omega)).mono ?_)
  rintro r H ⟨v, i', hv, hv2, hi', rfl, rfl⟩
  (conv => whnf); repeat' ((first | apply CondA.plain | refine' go_pinI | (apply DrawA.quiet (by kernel_rfl) (by kernel_rfl); (conv => whnf); fail_if_success (show False))) <;> (conv => whnf))
  (refine' RetK.auto (.p (pS (xs[v.toNat]'(by omega)))) (src nl ts i') rfl rfl rfl rfl _ _ _ <;> repeat' (first | exact trivial | refine And.intro ?_ ?_ | with_reducible rfl | (refine pIEq ?_; (first | omega | (simp only [lenS] at *; omega) | grind)) | (refine bufMap ?_) | (refine bufNil ?_) | (refine bufEq ?_) | rfl))
  exact ⟨_, i', List.getElem_mem _, hi', rfl, rfl⟩
def u7SC0 : Sc := (.take 8 (.one 10 (.take 11 (.one 12 (.take 13 (.one 14 .done))))))
def u7SC1 : Sc := (.one 7 (.take 8 (.take 11 (.one 12 (.take 13 (.one 14 .done))))))
def u7SC2 : Sc := (.take 5 (.take 6 (.two 7 10 u7SC0 u7SC1)))
def u7SC3 : Sc := (.one 2 (.take 5 (.take 6 (.one 7 (.take 8 (.take 11 (.one 12 (.take 13 (.one 14 .done)))))))))
def u7Sc : Sc := (.take 0 (.take 1 (.take 3 (.load 4 (.take 9 (.two 2 10 u7SC2 u7SC3))))))
end Go.Proofs.Ytnogpkaehiapfaa
