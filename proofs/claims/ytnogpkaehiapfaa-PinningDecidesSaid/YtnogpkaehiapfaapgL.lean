/- PinningDecides. -/
import Derived.Test.YtnogpkaehiapfaapgI
import Derived.Test.YtnogpkaehiapfaapgK
namespace Go.Proofs.Ytnogpkaehiapfaa
set_option linter.unusedSimpArgs false
set_option linter.unusedVariables false
set_option linter.unnecessarySimpa false
open Go.Abs
set_option maxRecDepth 100000
def wrF (p : Pin) (l : List ByteArray) : List Int := writeF p.gs (optsL p l) [] 0
theorem Refute_to {p : Pin} {l : List ByteArray} {g x : List Int} {e : Int} (h : refF p l g = (x, e)) (nl gn : Bool) : ACall Try.prog 20 [.p p.pv, .p (.list nl (l.map pS)), .p (.list gn (g.map pI))] [] (F2 x e) := by
  have := Refute_call p nl gn l g
  rwa [h] at this
theorem Size_to {p : Pin} {l : List ByteArray} {g : List Int} {n e : Int} (h : sizeF p l g = (n, e)) (nl gn : Bool) : ACall Try.prog 21 [.p p.pv, .p (.list nl (l.map pS)), .p (.list gn (g.map pI))] [] fun r H => r = .tup [.p (pI n), .p (pI e)] ∧ H = [] := by
  have := Size_call p nl gn l g
  rwa [h] at this
theorem wr_read {p : Pin} {l : List ByteArray} (h : srch p.gs (optsL p l) [] = none) (t : List Int) : readF p.gs (optsL p l) l.length (hasL l.length 0) [] (wrF p l ++ t) = some t := by
  have := read_write (gs := p.gs) (opts := optsL p l) (optsL p l).length 0 l.length [] t (by omega) (by rw [List.drop_zero]; exact h) (by rw [opts_len]; exact Nat.le_refl _)
  rw [List.drop_zero, opts_len] at this
  exact this
theorem wr_pos {p : Pin} {l : List ByteArray} (h : srch p.gs (optsL p l) [] = none) : (wrF p l).length ≠ 0 ∧ 0 < l.length := by
  cases l with
  | nil => cases h
  | cons f r => exact ⟨by rw [wrF, optsL, List.map_cons, writeF]; simp, by simp⟩
theorem check_yes {p : Pin} {l : List ByteArray} (hR : rightP p l) (h : srch p.gs (optsL p l) [] = none) (hl : (wrF p l).length ≤ 4000) : checkF p l [] (wrF p l) = true := by
  have := wr_read h []
  rw [List.append_nil] at this
  unfold checkF
  rw [badF_nil hR, decide_eq_true rfl, decide_eq_true (wr_pos h).1, decide_eq_true hl, show ([] : List Int).length = 0 from rfl, this]; rfl
theorem check_more {p : Pin} {l : List ByteArray} (h : srch p.gs (optsL p l) [] = none) : checkF p l [] (wrF p l ++ [0]) = false := by
  unfold checkF
  rw [show ([] : List Int).length = 0 from rfl, wr_read h [0], decide_eq_false (show ¬ some [(0 : Int)] = some [] by simp), Bool.and_false]
theorem ref_nil {p : Pin} {l : List ByteArray} (hR : rightP p l) : refF p l [] = if (srch p.gs (optsL p l) []).isSome then ([], 7) else if (wrF p l).length ≤ 4000 then (wrF p l, 0) else ([], 3) := by
  rw [refF, if_neg (by rw [badF_nil hR]; simp)]; rfl
theorem size_nil {p : Pin} {l : List ByteArray} (hR : rightP p l) : sizeF p l [] = (((min (wrF p l).length 4001 : Nat) : Int), 0) := by
  rw [sizeF, if_neg (by rw [badF_nil hR]; simp)]; rfl
def d16SC0 : Sc := (.one 20 (.one 21 (.one 22 (.take 23 (.take 24 (.take 25 (.one 26 (.take 27 (.take 28 .done)))))))))
def d16SC1 : Sc := (.one 19 (.one 21 (.one 22 (.take 23 (.take 24 (.take 25 (.one 26 (.take 27 (.take 28 .done)))))))))
def d16Sc : Sc := (.take 0 (.take 1 (.take 2 (.frz 3 (.take 4 (.take 5 (.one 6 (.take 7 (.take 8 (.frz 9 (.take 10 (.take 11 (.one 12 (.take 13 (.take 14 (.take 15 (.frz 16 (.take 17 (.take 18 (.two 19 20 d16SC0 d16SC1))))))))))))))))))))
/-- Kept for later: a goal of a walk's step. -/
theorem park_pgL {P : Prop} (x : P) (_ : x = x) : P := x
/-- One step of a walk. -/
theorem go_pgL {P : Prop} (h : P := by
  (first | ((first | apply LenA.map | apply NilA.map | apply NilA.mk); intro _) | ((first | apply NW.as | apply ValA.as); with_reducible assumption) | ((first | apply NW.i64 | apply NW.u32 | apply NW.u64 | apply NW.u8 | apply InA.nat | apply InA.map | apply AppA.snoc (f := pI) (a := _) rfl | apply AppA.one (f := pI) (a := _) rfl | apply AppA.snoc (f := pB) (a := _) rfl | apply AppA.one (f := pB) (a := _) rfl | apply AppA.snoc (f := pS) (a := _) rfl | apply AppA.one (f := pS) (a := _) rfl | apply AppA.map | apply AppA.nil | apply CutA.lo | apply CutA.hi); (first | omega | (simp only [lenS] at *; omega) | grind)) | ((first | (apply RemA.as; assumption) | apply RemA.self); (first | omega | (simp only [lenS] at *; omega) | grind)) | (apply ValA.as; assumption) | apply ValA.self | (apply NW.as; assumption) | (apply SzA.map; (intro _; rfl)) | with_reducible apply br_pt | with_reducible apply br_pf | with_reducible apply br_mt | with_reducible apply br_mf | apply Both.mk | ((first | apply br_T | apply br_F | apply br_mT | apply br_mF); assumption) | ((first | apply br_lss | apply br_leq | apply br_gtr | apply br_geq | apply br_dec | apply br_beq | apply br_bne | apply br_beqB | apply br_bneB | apply br_not | apply br_m | apply br_intro) <;> intro h0 <;> first | (exfalso; first | omega | exact tf h0 (by assumption) | exact tf (by assumption) h0 | exact h0 (by assumption) | exact h0 rfl | exact of_decide_eq_false h0 rfl) | skip) | refine ArrA.mk _ rfl rfl ?_ | (apply IdxA.lit; omega; exact rfl) | ((first | apply IdxA.of_nat | (apply IdxA.of_map; (first | omega | (simp only [lenS] at *; omega) | grind))); rotate_left; (first | omega | (simp only [lenS] at *; omega) | grind)) | apply AppC.own | apply CutO.part | apply IsL.set (f := pI) (a := _) rfl | apply IsL.rep (f := pI) (a := _) rfl | apply IsL.set (f := pB) (a := _) rfl | apply IsL.rep (f := pB) (a := _) rfl | apply IsL.set (f := pS) (a := _) rfl | apply IsL.rep (f := pS) (a := _) rfl | apply IsL.lit (f := pI) [] rfl | apply IsL.lit (f := pI) [_] rfl | apply IsL.lit (f := pB) [] rfl | apply IsL.lit (f := pB) [_] rfl | apply IsL.lit (f := pS) [] rfl | apply IsL.lit (f := pS) [_] rfl | (apply And.intro; (first | with_reducible rfl | (show (_ : AV) = _; rfl) | (first | omega | (simp only [lenS] at *; omega) | grind)))) <;> (solve_by_elim (newGoals := .nonDependentOnly) (symm := false) (exfalso := false) (transparency := .reducible) only [rfl, park_pgL])) : P := h
set_option maxHeartbeats 16000000 in
theorem PinningDecides_call (nl np : Bool) (ts proof : List Int) : ACall Try.prog 6 [.p (.list nl (ts.map pI)), .p (.list np (proof.map pI))] [] fun r H => r = .p (pB true) := by
  refine acall_enter Try.func6 rfl rfl tabOK rfl ?_
  (conv => whnf); repeat' ((first | apply CondA.plain | refine' go_pgL | (apply DrawA.quiet (by kernel_rfl) (by kernel_rfl); (conv => whnf); fail_if_success (show False)) | (refine CallA.scalar (sane23_call) ?_)) <;> (conv => whnf))
  iterate 2
    · (refine RetK.p ?_ <;> repeat' (first | exact trivial | refine And.intro ?_ ?_ | with_reducible rfl | (refine pIEq ?_; (first | omega | (simp only [lenS] at *; omega) | grind)) | (refine bufMap ?_) | (refine bufNil ?_) | (refine bufEq ?_) | rfl); all_goals try first | refine pBEq ?_ | refine pIEq ?_)
  refine CallA.loc [] [] rfl rfl ((New_call nl ts).mono ?_)
  rintro r H ⟨ts', rfl, rfl⟩
  (conv => whnf); repeat' ((first | apply CondA.plain | refine' go_pgL | (apply DrawA.quiet (by kernel_rfl) (by kernel_rfl); (conv => whnf); fail_if_success (show False))) <;> (conv => whnf))
  refine CallA.loc [0] [] rfl rfl ((Pinout_call nl ts' 0 (Nat.zero_le _)).mono ?_)
  rintro _ _ ⟨p, i, hp, hi, rfl, rfl⟩
  (conv => whnf); repeat' ((first | apply CondA.plain | refine' go_pgL | (apply DrawA.quiet (by kernel_rfl) (by kernel_rfl); (conv => whnf); fail_if_success (show False))) <;> (conv => whnf))
  refine CallA.loc [0] [] rfl rfl ((Demands_call nl ts' i hi 6 (by omega)).mono ?_)
  rintro _ _ ⟨l, nb, i2, hl, hw, hi2, rfl, rfl⟩
  have hR := made_right hp (by omega) hw
  have ea := asg_nil hR
  have er := ref_nil hR
  have ez := size_nil hR
  cases hS : srch p.gs (optsL p l) [] with
  | some x =>
    rw [hS] at er ea
    have ea : asgF p l [] = (x, 0) := ea
    (conv => whnf); repeat' ((first | apply CondA.plain | refine' go_pgL | (apply DrawA.quiet (by kernel_rfl) (by kernel_rfl); (conv => whnf); fail_if_success (show False))) <;> (conv => whnf))
    refine CallA.loc [] [] rfl rfl ((Assign_to ea nb true).mono ?_)
    rintro _ _ ⟨⟨n1, rfl⟩, rfl⟩
    obtain ⟨hxl, hxf⟩ := srch_fit hS
    rw [opts_len] at hxl
    have hbx : badF p l x = 0 := by rw [badF, if_pos hR, hxf]; rfl
    have hm1 : decide (badF p l x = 0 ∧ x.length = l.length) = true := decide_eq_true ⟨hbx, hxl⟩
    have hck : checkF p l [] proof = false := by
      refine Bool.eq_false_iff.2 fun h => ?_
      have := check_none h
      rw [ea] at this
      cases this
    have er : refF p l [] = ([], 7) := er
    (conv => whnf); repeat' ((first | apply CondA.plain | refine' go_pgL | (apply DrawA.quiet (by kernel_rfl) (by kernel_rfl); (conv => whnf); fail_if_success (show False))) <;> (conv => whnf))
    refine CallA.loc [] [] rfl rfl ((Refute_to er nb true).mono ?_)
    rintro _ _ ⟨⟨n2, rfl⟩, rfl⟩
    (conv => whnf); repeat' ((first | apply CondA.plain | refine' go_pgL | (apply DrawA.quiet (by kernel_rfl) (by kernel_rfl); (conv => whnf); fail_if_success (show False))) <;> (conv => whnf))
    refine CallA.loc [] [] rfl rfl ((Size_to ez nb true).mono ?_)
    rintro _ _ ⟨rfl, rfl⟩
    (conv => whnf); repeat' ((first | apply CondA.plain | refine' go_pgL | (apply DrawA.quiet (by kernel_rfl) (by kernel_rfl); (conv => whnf); fail_if_success (show False)) | ((refine CallA.scalar (Meets_call p nb n1 l x) ?_; rw [hm1])) | ((refine CallA.scalar (Check_call p nb true np l [] proof) ?_; rw [hck])) | (refine CallA.scalar (sane23_call) ?_)) <;> (conv => whnf))
    (refine RetK.p ?_ <;> repeat' (first | exact trivial | refine And.intro ?_ ?_ | with_reducible rfl | (refine pIEq ?_; (first | omega | (simp only [lenS] at *; omega) | grind)) | (refine bufMap ?_) | (refine bufNil ?_) | (refine bufEq ?_) | rfl); all_goals try first | refine pBEq ?_ | refine pIEq ?_)
  | none =>
    rw [hS] at ea
    have ea : asgF p l [] = ([], 9) := ea
    (conv => whnf); repeat' ((first | apply CondA.plain | refine' go_pgL | (apply DrawA.quiet (by kernel_rfl) (by kernel_rfl); (conv => whnf); fail_if_success (show False))) <;> (conv => whnf))
    refine CallA.loc [] [] rfl rfl ((Assign_to ea nb true).mono ?_)
    rintro _ _ ⟨⟨n1, rfl⟩, rfl⟩
    rw [hS] at er
    obtain ⟨hw0, hl0⟩ := wr_pos hS
    have hcm := check_more hS
    have hcy := check_yes hR hS
    have hm1 : decide (badF p l [] = 0 ∧ ([] : List Int).length = l.length) = false := decide_eq_false fun h => by
      have := h.2
      simp at this
      omega
    obtain ⟨W, hW⟩ : ∃ W, wrF p l = W := ⟨_, rfl⟩
    rw [hW] at er ez hw0 hcm hcy
    have er : refF p l [] = if W.length ≤ 4000 then (W, 0) else ([], 3) := er
    rcases Decidable.em (W.length ≤ 4000) with hle | hle
    · rw [if_pos hle] at er
      have hcy := hcy hle
      (conv => whnf); repeat' ((first | apply CondA.plain | refine' go_pgL | (apply DrawA.quiet (by kernel_rfl) (by kernel_rfl); (conv => whnf); fail_if_success (show False))) <;> (conv => whnf))
      refine CallA.loc [] [] rfl rfl ((Refute_to er nb true).mono ?_)
      rintro _ _ ⟨⟨n2, rfl⟩, rfl⟩
      (conv => whnf); repeat' ((first | apply CondA.plain | refine' go_pgL | (apply DrawA.quiet (by kernel_rfl) (by kernel_rfl); (conv => whnf); fail_if_success (show False))) <;> (conv => whnf))
      refine CallA.loc [] [] rfl rfl ((Size_to ez nb true).mono ?_)
      rintro _ _ ⟨rfl, rfl⟩
      (conv => whnf); repeat' ((first | apply CondA.plain | refine' go_pgL | fail) <;> (conv => whnf))
      refine DrawA.retire 6 1 [pI p.n, .list p.nl (p.gs.map Grp.pv)] rfl rfl ?_
      apply DrawA.orders d16Sc (by kernel_rfl) (by kernel_rfl) (by kernel_rfl)
      (conv => whnf); repeat' ((first | (refine IsL.lit (f := pI) [0] rfl ?_) | apply CondA.plain | refine' go_pgL | ((refine CallA.scalar (Check_call p nb true n2 l [] W) ?_; rw [hcy])) | ((refine CallA.scalar (Meets_call p nb n1 l []) ?_; rw [hm1]))) <;> (conv => whnf))
      all_goals
        refine CallA.loc [] [4] rfl rfl ((Check_call p nb true _ l [] (W ++ [0])).mono ?_)
        rw [hcm]
        rintro _ _ ⟨rfl, rfl⟩
        (conv => whnf); repeat' ((first | apply CondA.plain | refine' go_pgL | (apply DrawA.quiet (by kernel_rfl) (by kernel_rfl); (conv => whnf); fail_if_success (show False)) | (refine CallA.scalar (sane23_call) ?_)) <;> (conv => whnf))
        (refine RetK.p ?_ <;> repeat' (first | exact trivial | refine And.intro ?_ ?_ | with_reducible rfl | (refine pIEq ?_; (first | omega | (simp only [lenS] at *; omega) | grind)) | (refine bufMap ?_) | (refine bufNil ?_) | (refine bufEq ?_) | rfl); all_goals try first | refine pBEq ?_ | refine pIEq ?_)
    · rw [if_neg hle] at er
      have e1 : min W.length 4001 = 4001 := by omega
      rw [e1] at ez
      (conv => whnf); repeat' ((first | apply CondA.plain | refine' go_pgL | (apply DrawA.quiet (by kernel_rfl) (by kernel_rfl); (conv => whnf); fail_if_success (show False))) <;> (conv => whnf))
      refine CallA.loc [] [] rfl rfl ((Refute_to er nb true).mono ?_)
      rintro _ _ ⟨⟨n2, rfl⟩, rfl⟩
      (conv => whnf); repeat' ((first | apply CondA.plain | refine' go_pgL | (apply DrawA.quiet (by kernel_rfl) (by kernel_rfl); (conv => whnf); fail_if_success (show False))) <;> (conv => whnf))
      refine CallA.loc [] [] rfl rfl ((Size_to ez nb true).mono ?_)
      rintro _ _ ⟨rfl, rfl⟩
      (conv => whnf); repeat' ((first | apply CondA.plain | refine' go_pgL | (apply DrawA.quiet (by kernel_rfl) (by kernel_rfl); (conv => whnf); fail_if_success (show False)) | (refine CallA.scalar (sane23_call) ?_)) <;> (conv => whnf))
      (refine RetK.p ?_ <;> repeat' (first | exact trivial | refine And.intro ?_ ?_ | with_reducible rfl | (refine pIEq ?_; (first | omega | (simp only [lenS] at *; omega) | grind)) | (refine bufMap ?_) | (refine bufNil ?_) | (refine bufEq ?_) | rfl); all_goals try first | refine pBEq ?_ | refine pIEq ?_)
end Go.Proofs.Ytnogpkaehiapfaa
