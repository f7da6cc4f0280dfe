/- The makers of small inputs: contracts. -/
import Derived.Test.YtcemickjholnaaaTi
namespace Go.Proofs.Ytcemickjholnaaa
set_option linter.unusedSimpArgs false
set_option linter.unusedVariables false
set_option linter.unnecessarySimpa false
open Go.Abs
set_option maxRecDepth 100000
def modI (x n : Int) : Int := if n < 1 then 0 else (x.tmod n + n).tmod n
theorem modI_range (x n : Int) : 0 ≤ modI x n ∧ (modI x n < n ∨ modI x n = 0) := by
  unfold modI
  split
  · omega
  · have h1 := Int.tmod_lt_of_pos x (show 0 < n by omega)
    have h2 : -n < x.tmod n := Int.lt_tmod_of_pos x (by omega)
    have h3 : 0 ≤ x.tmod n + n := by omega
    have h4 := Int.tmod_nonneg n h3
    have h5 := Int.tmod_lt_of_pos (x.tmod n + n) (show 0 < n by omega)
    omega
/-- Kept for later: a goal of a walk's step. -/
theorem park_board {P : Prop} (x : P) (_ : x = x) : P := x
/-- One step of a walk. -/
theorem go_board {P : Prop} (h : P := by
  (first | ((first | apply LenA.map | apply NilA.map | apply NilA.mk); intro _) | ((first | apply NW.as | apply ValA.as); with_reducible assumption) | ((first | apply NW.i64 | apply NW.u32 | apply NW.u64 | apply NW.u8 | apply InA.nat | apply InA.map | apply AppA.snoc (f := pI) (a := _) rfl | apply AppA.one (f := pI) (a := _) rfl | apply AppA.snoc (f := pB) (a := _) rfl | apply AppA.one (f := pB) (a := _) rfl | apply AppA.map | apply AppA.nil | apply CutA.lo | apply CutA.hi); (first | omega | (simp only [lenS] at *; omega) | grind)) | ((first | (apply RemA.as; assumption) | apply RemA.self); (first | omega | (simp only [lenS] at *; omega) | grind)) | (apply ValA.as; assumption) | apply ValA.self | (apply NW.as; assumption) | (apply SzA.map; (intro _; rfl)) | with_reducible apply br_pt | with_reducible apply br_pf | with_reducible apply br_mt | with_reducible apply br_mf | apply Both.mk | ((first | apply br_T | apply br_F | apply br_mT | apply br_mF); assumption) | ((first | apply br_lss | apply br_leq | apply br_gtr | apply br_geq | apply br_dec | apply br_beq | apply br_bne | apply br_beqB | apply br_bneB | apply br_not | apply br_m | apply br_intro) <;> intro h0 <;> first | (exfalso; first | omega | exact tf h0 (by assumption) | exact tf (by assumption) h0 | exact h0 (by assumption) | exact h0 rfl | exact of_decide_eq_false h0 rfl) | skip) | refine ArrA.mk _ rfl rfl ?_ | (apply IdxA.lit; omega; exact rfl) | ((first | apply IdxA.of_nat | (apply IdxA.of_map; (first | omega | (simp only [lenS] at *; omega) | grind))); rotate_left; (first | omega | (simp only [lenS] at *; omega) | grind)) | apply AppC.own | apply CutO.part | apply IsL.set (f := pI) (a := _) rfl | apply IsL.rep (f := pI) (a := _) rfl | apply IsL.set (f := pB) (a := _) rfl | apply IsL.rep (f := pB) (a := _) rfl | apply IsL.lit (f := pI) [] rfl | apply IsL.lit (f := pI) [_] rfl | apply IsL.lit (f := pB) [] rfl | apply IsL.lit (f := pB) [_] rfl | (apply And.intro; (first | with_reducible rfl | (show (_ : AV) = _; rfl) | (first | omega | (simp only [lenS] at *; omega) | grind)))) <;> (solve_by_elim (newGoals := .nonDependentOnly) (symm := false) (exfalso := false) (transparency := .reducible) only [rfl, park_board])) : P := h
theorem Mod_call (x n : Int) (hn : n ≤ 4611686018427387904) : ACall Try.prog 42 [.p (pI x), .p (pI n)] [] fun r H => r = .p (pI (modI x n)) ∧ H = [] := by
  refine acall_enter Try.func42 rfl rfl tabOK rfl ?_
  have h1 : ¬ n < 1 → x.tmod n < n := fun h => Int.tmod_lt_of_pos x (by omega)
  have h2 : ¬ n < 1 → -n < x.tmod n := fun h => Int.lt_tmod_of_pos x (by omega)
  (conv => whnf); repeat' ((first | apply CondA.plain | refine' go_board | (apply DrawA.quiet (by kernel_rfl) (by kernel_rfl); (conv => whnf); fail_if_success (show False))) <;> (conv => whnf))
  all_goals refine RetK.p ⟨?_, rfl⟩
  · rw [modI, if_pos (by omega)]; rfl
  · rw [modI, if_neg (by omega)]; rfl
/-- A source of numbers. -/
def src (nl : Bool) (ts : List Int) (i : Nat) : AH := [some (.cells [.p (.list nl (ts.map pI)), .p (pI i)])]
theorem N_call (nl : Bool) (ts : List Int) (i : Nat) (h : i ≤ ts.length) (n : Int) (hn : n ≤ 4611686018427387904) :
    ACall Try.prog 24 [.ptr 0 0, .p (pI n)] (src nl ts i) fun r H => ∃ v i', 0 ≤ v ∧ (v < n ∨ v = 0) ∧ i' ≤ ts.length ∧ r = .p (pI v) ∧ H = src nl ts i' := by
  refine acall_enter Try.func24 rfl rfl tabOK rfl ?_
  (conv => whnf); repeat' ((first | apply CondA.plain | refine' go_board | (apply DrawA.quiet (by kernel_rfl) (by kernel_rfl); (conv => whnf); fail_if_success (show False)) | (refine CallQ.mk' (Mod_call _ n hn) ?_)) <;> (conv => whnf))
  · (refine' RetK.auto (.p (pI 0)) (src nl ts i) rfl rfl rfl rfl _ _ _ <;> repeat' (first | exact trivial | refine And.intro ?_ ?_ | with_reducible rfl | (refine pIEq ?_; (first | omega | (simp only [lenS] at *; omega) | grind)) | (refine bufMap ?_) | (refine bufNil ?_) | (refine bufEq ?_) | rfl))
    exact ⟨0, i, by omega, by omega, h, rfl, rfl⟩
  · have hr := modI_range ts[((i : Int) + 1 - 1).toNat] n
    (refine' RetK.auto (.p (pI (modI ts[((i : Int) + 1 - 1).toNat] n))) (src nl ts (i + 1)) rfl rfl rfl rfl _ _ _ <;> repeat' (first | exact trivial | refine And.intro ?_ ?_ | with_reducible rfl | (refine pIEq ?_; (first | omega | (simp only [lenS] at *; omega) | grind)) | (refine bufMap ?_) | (refine bufNil ?_) | (refine bufEq ?_) | rfl))
    exact ⟨_, i + 1, hr.1, hr.2, by omega, rfl, rfl⟩
theorem Range_call (nl : Bool) (ts : List Int) (i : Nat) (h : i ≤ ts.length) (lo hi : Int) (h1 : -1152921504606846976 ≤ lo ∧ lo ≤ 1152921504606846976) (h2 : -1152921504606846976 ≤ hi ∧ hi ≤ 1152921504606846976) :
    ACall Try.prog 34 [.ptr 0 0, .p (pI lo), .p (pI hi)] (src nl ts i) fun r H => ∃ v i', lo ≤ v ∧ (v ≤ hi ∨ v = lo) ∧ i' ≤ ts.length ∧ r = .p (pI v) ∧ H = src nl ts i' := by
  refine acall_enter Try.func34 rfl rfl tabOK rfl ?_
  (conv => whnf); repeat' ((first | apply CondA.plain | refine' go_board | (apply DrawA.quiet (by kernel_rfl) (by kernel_rfl); (conv => whnf); fail_if_success (show False))) <;> (conv => whnf))
  refine CallA.all ((N_call nl ts i h _ (by omega)).mono ?_)
  rintro r H ⟨v, i', hv, hv2, hi', rfl, rfl⟩
  (conv => whnf); repeat' ((first | apply CondA.plain | refine' go_board | (apply DrawA.quiet (by kernel_rfl) (by kernel_rfl); (conv => whnf); fail_if_success (show False))) <;> (conv => whnf))
  (refine' RetK.auto (.p (pI (lo + v))) (src nl ts i') rfl rfl rfl rfl _ _ _ <;> repeat' (first | exact trivial | refine And.intro ?_ ?_ | with_reducible rfl | (refine pIEq ?_; (first | omega | (simp only [lenS] at *; omega) | grind)) | (refine bufMap ?_) | (refine bufNil ?_) | (refine bufEq ?_) | rfl))
  exact ⟨_, i', by omega, by omega, hi', rfl, rfl⟩
/-- Ascending numbers below n. -/
def Asc (n : Int) (xs : List Int) : Prop := xs.Pairwise (· < ·) ∧ ∀ x ∈ xs, 0 ≤ x ∧ x < n
theorem Asc.snoc {n : Int} {xs : List Int} {k : Int} (h : Asc k xs) (hk : 0 ≤ k) (hn : k < n) : Asc n (xs ++ [k]) := by
  refine ⟨List.pairwise_append.2 ⟨h.1, by simp, fun a ha b hb => ?_⟩, fun x hx => ?_⟩
  · simp at hb; subst hb; exact (h.2 a ha).2
  · rcases List.mem_append.1 hx with hx | hx
    · have := h.2 x hx; omega
    · simp at hx; omega
theorem Asc.mono {n m : Int} {xs : List Int} (h : Asc n xs) (hn : n ≤ m) : Asc m xs := ⟨h.1, fun x hx => by have := h.2 x hx; omega⟩
theorem Asc.length {n : Int} {xs : List Int} (h : Asc n xs) (hn : 0 ≤ n) : (xs.length : Int) ≤ n := by
  have key : ∀ (xs : List Int) (lo : Int), lo ≤ n → xs.Pairwise (· < ·) → (∀ x ∈ xs, lo ≤ x ∧ x < n) → (xs.length : Int) ≤ n - lo := by
    intro xs
    induction xs with
    | nil => intro lo hlo _ _; simp; omega
    | cons a r ih =>
      intro lo hlo hp hx
      have ha := hx a (List.mem_cons_self ..)
      have hp' := List.pairwise_cons.1 hp
      have := ih (a + 1) (by omega) hp'.2 fun x hm => ⟨by have := hp'.1 x hm; omega, (hx x (List.mem_cons_of_mem _ hm)).2⟩
      simp only [List.length_cons]
      omega
  have := key xs 0 hn h.1 h.2
  omega
end Go.Proofs.Ytcemickjholnaaa
