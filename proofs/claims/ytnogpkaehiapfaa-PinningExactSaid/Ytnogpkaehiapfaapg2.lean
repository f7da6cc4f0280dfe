/- Pinning: demands that are right; options. -/
import Derived.Test.Ytnogpkaehiapfaapg1
namespace Go.Proofs.Ytnogpkaehiapfaa
set_option linter.unusedSimpArgs false
set_option linter.unusedVariables false
set_option linter.unnecessarySimpa false
open Go.Abs
set_option maxRecDepth 100000
/-- Kept for later: a goal of a walk's step. -/
theorem park_pg2 {P : Prop} (x : P) (_ : x = x) : P := x
/-- One step of a walk. -/
theorem go_pg2 {P : Prop} (h : P := by
  (first | ((first | apply LenA.map | apply NilA.map | apply NilA.mk); intro _) | ((first | apply NW.as | apply ValA.as); with_reducible assumption) | ((first | apply NW.i64 | apply NW.u32 | apply NW.u64 | apply NW.u8 | apply InA.nat | apply InA.map | apply AppA.snoc (f := pI) (a := _) rfl | apply AppA.one (f := pI) (a := _) rfl | apply AppA.snoc (f := pB) (a := _) rfl | apply AppA.one (f := pB) (a := _) rfl | apply AppA.snoc (f := pS) (a := _) rfl | apply AppA.one (f := pS) (a := _) rfl | apply AppA.map | apply AppA.nil | apply CutA.lo | apply CutA.hi); (first | omega | (simp only [lenS] at *; omega) | grind)) | ((first | (apply RemA.as; assumption) | apply RemA.self); (first | omega | (simp only [lenS] at *; omega) | grind)) | (apply ValA.as; assumption) | apply ValA.self | (apply NW.as; assumption) | (apply SzA.map; (intro _; rfl)) | with_reducible apply br_pt | with_reducible apply br_pf | with_reducible apply br_mt | with_reducible apply br_mf | apply Both.mk | ((first | apply br_T | apply br_F | apply br_mT | apply br_mF); assumption) | ((first | apply br_lss | apply br_leq | apply br_gtr | apply br_geq | apply br_dec | apply br_beq | apply br_bne | apply br_beqB | apply br_bneB | apply br_not | apply br_m | apply br_intro) <;> intro h0 <;> first | (exfalso; first | omega | exact tf h0 (by assumption) | exact tf (by assumption) h0 | exact h0 (by assumption) | exact h0 rfl | exact of_decide_eq_false h0 rfl) | skip) | refine ArrA.mk _ rfl rfl ?_ | (apply IdxA.lit; omega; exact rfl) | ((first | apply IdxA.of_nat | (apply IdxA.of_map; (first | omega | (simp only [lenS] at *; omega) | grind))); rotate_left; (first | omega | (simp only [lenS] at *; omega) | grind)) | apply AppC.own | apply CutO.part | apply IsL.set (f := pI) (a := _) rfl | apply IsL.rep (f := pI) (a := _) rfl | apply IsL.set (f := pB) (a := _) rfl | apply IsL.rep (f := pB) (a := _) rfl | apply IsL.set (f := pS) (a := _) rfl | apply IsL.rep (f := pS) (a := _) rfl | apply IsL.lit (f := pI) [] rfl | apply IsL.lit (f := pI) [_] rfl | apply IsL.lit (f := pB) [] rfl | apply IsL.lit (f := pB) [_] rfl | apply IsL.lit (f := pS) [] rfl | apply IsL.lit (f := pS) [_] rfl | (apply And.intro; (first | with_reducible rfl | (show (_ : AV) = _; rfl) | (first | omega | (simp only [lenS] at *; omega) | grind)))) <;> (solve_by_elim (newGoals := .nonDependentOnly) (symm := false) (exfalso := false) (transparency := .reducible) only [rfl, park_pg2])) : P := h
theorem bw_call (s : ByteArray) : ACall Try.prog 68 [.p (pS s)] [] fun r H => r = .p (pB (!wordF s)) ∧ H = [] := by
  refine acall_enter Try.func68 rfl rfl tabOK rfl ?_
  (conv => whnf); repeat' ((first | apply CondA.plain | refine' go_pg2 | (apply DrawA.quiet (by kernel_rfl) (by kernel_rfl); (conv => whnf); fail_if_success (show False)) | (refine CallA.scalar (Word_call s) ?_)) <;> (conv => whnf))
  (refine RetK.p ?_ <;> repeat' (first | exact trivial | refine And.intro ?_ ?_ | with_reducible rfl | (refine pIEq ?_; (first | omega | (simp only [lenS] at *; omega) | grind)) | (refine bufMap ?_) | (refine bufNil ?_) | (refine bufEq ?_) | rfl); all_goals try first | refine pBEq ?_ | refine pIEq ?_)
def badL (l : List ByteArray) : Prop := ∃ f ∈ l, wordF f = false
instance (l : List ByteArray) : Decidable (badL l) := by unfold badL; infer_instance
theorem bidx_call (nl : Bool) (l : List ByteArray) : ACall Try.prog 80 [.p (.list nl (l.map pS)), .clo (.func 68) []] [] fun r H => (∃ v : Int, r = .p (pI v) ∧ (0 ≤ v ↔ badL l)) ∧ H = [] := by
  refine acall_enter Try.func80 rfl rfl tabOK rfl ?_
  (conv => whnf); repeat' ((first | apply CondA.plain | refine' go_pg2 | (apply DrawA.quiet (by kernel_rfl) (by kernel_rfl); (conv => whnf); fail_if_success (show False))) <;> (conv => whnf))
  refine loop_rule (fun (c : Nat) => ⟨[(0, .p (.list nl (l.map pS))), (1, .clo (.func 68) []), (7, .p (pI l.length)), (8, .p (pI c))], []⟩) (fun (c : Nat) => c ≤ l.length ∧ ∀ k, (h : k < c) → ∀ h2 : k < l.length, wordF l[k] = true) (fun (c : Nat) => l.length - c) 0 ?_ ?_ ?_; (refine SubA.auto rfl rfl rfl rfl ?_ ?_ <;> repeat' (first | exact trivial | refine And.intro ?_ ?_ | with_reducible rfl | (refine pIEq ?_; (first | omega | (simp only [lenS] at *; omega) | grind)) | (refine bufMap ?_) | (refine bufNil ?_) | (refine bufEq ?_) | rfl))
  · exact ⟨Nat.zero_le _, fun k hk => by omega⟩
  rintro c ⟨hc, hall⟩
  rcases Nat.lt_or_ge c l.length with hlt | hge
  · obtain ⟨s, hs⟩ : ∃ s, l[c] = s := ⟨_, rfl⟩
    have hs1 : l[((c : Nat) : Int).toNat]? = some s := by rw [Int.toNat_natCast, List.getElem?_eq_getElem hlt, hs]
    cases hw : wordF s with
    | false =>
      (conv => whnf); repeat' ((first | (apply IdxA.at_ (f := pS) s (Int.natCast_nonneg c) hs1) | apply CondA.plain | refine' go_pg2 | (apply DrawA.quiet (by kernel_rfl) (by kernel_rfl); (conv => whnf); fail_if_success (show False)) | ((refine CallA.scalar (bw_call s) ?_; rw [hw]))) <;> (conv => whnf))
      (refine' RetK.auto (.p (pI c)) ([]) rfl rfl rfl rfl _ _ _ <;> repeat' (first | exact trivial | refine And.intro ?_ ?_ | with_reducible rfl | (refine pIEq ?_; (first | omega | (simp only [lenS] at *; omega) | grind)) | (refine bufMap ?_) | (refine bufNil ?_) | (refine bufEq ?_) | rfl))
      exact ⟨c, rfl, ⟨fun _ => ⟨s, by rw [← hs]; exact List.getElem_mem _, hw⟩, fun _ => Int.natCast_nonneg _⟩⟩
    | true =>
      (conv => whnf); repeat' ((first | (apply IdxA.at_ (f := pS) s (Int.natCast_nonneg c) hs1) | apply CondA.plain | refine' go_pg2 | (apply DrawA.quiet (by kernel_rfl) (by kernel_rfl); (conv => whnf); fail_if_success (show False)) | ((refine CallA.scalar (bw_call s) ?_; rw [hw]))) <;> (conv => whnf))
      (refine' ⟨c + 1, _, _, _⟩; rotate_right; (refine SubA.auto rfl rfl rfl rfl ?_ ?_ <;> repeat' (first | exact trivial | refine And.intro ?_ ?_ | with_reducible rfl | (refine pIEq ?_; (first | omega | (simp only [lenS] at *; omega) | grind)) | (refine bufMap ?_) | (refine bufNil ?_) | (refine bufEq ?_) | rfl)); rotate_right; (first | omega | (simp only []; omega) | (simp; omega) | (first | omega | (simp only [lenS] at *; omega) | grind)))
      refine ⟨by omega, fun k hk h2 => ?_⟩
      rcases Nat.lt_or_ge k c with h | h
      · exact hall k h h2
      · obtain rfl : k = c := by omega
        rw [hs]; exact hw
  · (conv => whnf); repeat' ((first | apply CondA.plain | refine' go_pg2 | (apply DrawA.quiet (by kernel_rfl) (by kernel_rfl); (conv => whnf); fail_if_success (show False))) <;> (conv => whnf))
    (refine' RetK.auto (.p (pI (-1))) ([]) rfl rfl rfl rfl _ _ _ <;> repeat' (first | exact trivial | refine And.intro ?_ ?_ | with_reducible rfl | (refine pIEq ?_; (first | omega | (simp only [lenS] at *; omega) | grind)) | (refine bufMap ?_) | (refine bufNil ?_) | (refine bufEq ?_) | rfl))
    refine ⟨-1, rfl, ⟨fun h => by omega, fun ⟨f, hf, hw⟩ => ?_⟩⟩
    obtain ⟨k, hk, rfl⟩ := List.getElem_of_mem hf
    rw [hall k (by omega) hk] at hw
    cases hw
theorem bcont_call (nl : Bool) (l : List ByteArray) : ACall Try.prog 67 [.p (.list nl (l.map pS)), .clo (.func 68) []] [] fun r H => r = .p (pB (decide (badL l))) ∧ H = [] := by
  refine acall_enter Try.func67 rfl rfl tabOK rfl ?_
  (conv => whnf); repeat' ((first | apply CondA.plain | refine' go_pg2 | (apply DrawA.quiet (by kernel_rfl) (by kernel_rfl); (conv => whnf); fail_if_success (show False))) <;> (conv => whnf))
  refine CallA.loc [] [] rfl rfl ((bidx_call nl l).mono ?_)
  rintro _ _ ⟨⟨v, rfl, hv⟩, rfl⟩
  rcases Decidable.em (badL l) with hb | hb
  · have := hv.2 hb
    rw [decide_eq_true hb]
    (conv => whnf); repeat' ((first | apply CondA.plain | refine' go_pg2 | (apply DrawA.quiet (by kernel_rfl) (by kernel_rfl); (conv => whnf); fail_if_success (show False))) <;> (conv => whnf))
    (refine RetK.p ?_ <;> repeat' (first | exact trivial | refine And.intro ?_ ?_ | with_reducible rfl | (refine pIEq ?_; (first | omega | (simp only [lenS] at *; omega) | grind)) | (refine bufMap ?_) | (refine bufNil ?_) | (refine bufEq ?_) | rfl); all_goals try first | refine pBEq ?_ | refine pIEq ?_)
    exact decide_eq_true (by omega)
  · have : v < 0 := Int.not_le.1 fun h => hb (hv.1 h)
    rw [decide_eq_false hb]
    (conv => whnf); repeat' ((first | apply CondA.plain | refine' go_pg2 | (apply DrawA.quiet (by kernel_rfl) (by kernel_rfl); (conv => whnf); fail_if_success (show False))) <;> (conv => whnf))
    (refine RetK.p ?_ <;> repeat' (first | exact trivial | refine And.intro ?_ ?_ | with_reducible rfl | (refine pIEq ?_; (first | omega | (simp only [lenS] at *; omega) | grind)) | (refine bufMap ?_) | (refine bufNil ?_) | (refine bufEq ?_) | rfl); all_goals try first | refine pBEq ?_ | refine pIEq ?_)
    exact decide_eq_false (by omega)
theorem Options_call (p : Pin) (f : ByteArray) : ACall Try.prog 27 [.p p.pv, .p (pS f)] [] fun r H => (∃ n, r = .p (.list n ((offersF p f).map pI))) ∧ H = [] := by
  refine acall_enter Try.func27 rfl rfl tabOK rfl ?_
  (conv => whnf); repeat' ((first | apply CondA.plain | refine' go_pg2 | (apply DrawA.quiet (by kernel_rfl) (by kernel_rfl); (conv => whnf); fail_if_success (show False)) | (refine CallA.fresh _ (Offers_call p f) ?_; rintro _ ⟨nl0, rfl⟩)) <;> (conv => whnf))
  (refine' RetK.auto (.p (.list nl0 ((offersF p f).map pI))) ([]) rfl rfl rfl rfl _ _ _ <;> repeat' (first | exact trivial | refine And.intro ?_ ?_ | with_reducible rfl | (refine pIEq ?_; (first | omega | (simp only [lenS] at *; omega) | grind)) | (refine bufMap ?_) | (refine bufNil ?_) | (refine bufEq ?_) | rfl))
  exact ⟨nl0, rfl⟩
end Go.Proofs.Ytnogpkaehiapfaa
