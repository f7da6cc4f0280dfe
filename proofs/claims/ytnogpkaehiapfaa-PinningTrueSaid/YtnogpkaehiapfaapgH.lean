/- PinningTrue. -/
import Derived.Test.YtnogpkaehiapfaapgF
import Derived.Test.YtnogpkaehiapfaapgB
namespace Go.Proofs.Ytnogpkaehiapfaa
set_option linter.unusedSimpArgs false
set_option linter.unusedVariables false
set_option linter.unnecessarySimpa false
open Go.Abs
set_option maxRecDepth 100000
/-- Kept for later: a goal of a walk's step. -/
theorem park_pgH {P : Prop} (x : P) (_ : x = x) : P := x
/-- One step of a walk. -/
theorem go_pgH {P : Prop} (h : P := by
  (first | ((first | apply LenA.map | apply NilA.map | apply NilA.mk); intro _) | ((first | apply NW.as | apply ValA.as); with_reducible assumption) | ((first | apply NW.i64 | apply NW.u32 | apply NW.u64 | apply NW.u8 | apply InA.nat | apply InA.map | apply AppA.snoc (f := pI) (a := _) rfl | apply AppA.one (f := pI) (a := _) rfl | apply AppA.snoc (f := pB) (a := _) rfl | apply AppA.one (f := pB) (a := _) rfl | apply AppA.map | apply AppA.nil | apply CutA.lo | apply CutA.hi); (first | omega | (simp only [lenS] at *; omega) | grind)) | ((first | (apply RemA.as; assumption) | apply RemA.self); (first | omega | (simp only [lenS] at *; omega) | grind)) | (apply ValA.as; assumption) | apply ValA.self | (apply NW.as; assumption) | (apply SzA.map; (intro _; rfl)) | with_reducible apply br_pt | with_reducible apply br_pf | with_reducible apply br_mt | with_reducible apply br_mf | apply Both.mk | ((first | apply br_T | apply br_F | apply br_mT | apply br_mF); assumption) | ((first | apply br_lss | apply br_leq | apply br_gtr | apply br_geq | apply br_dec | apply br_beq | apply br_bne | apply br_beqB | apply br_bneB | apply br_not | apply br_m | apply br_intro) <;> intro h0 <;> first | (exfalso; first | omega | exact tf h0 (by assumption) | exact tf (by assumption) h0 | exact h0 (by assumption) | exact h0 rfl | exact of_decide_eq_false h0 rfl) | skip) | refine ArrA.mk _ rfl rfl ?_ | (apply IdxA.lit; omega; exact rfl) | ((first | apply IdxA.of_nat | (apply IdxA.of_map; (first | omega | (simp only [lenS] at *; omega) | grind))); rotate_left; (first | omega | (simp only [lenS] at *; omega) | grind)) | apply AppC.own | apply CutO.part | apply IsL.set (f := pI) (a := _) rfl | apply IsL.rep (f := pI) (a := _) rfl | apply IsL.set (f := pB) (a := _) rfl | apply IsL.rep (f := pB) (a := _) rfl | apply IsL.lit (f := pI) [] rfl | apply IsL.lit (f := pB) [] rfl | (apply And.intro; (first | with_reducible rfl | (show (_ : AV) = _; rfl) | (first | omega | (simp only [lenS] at *; omega) | grind)))) <;> (solve_by_elim (newGoals := .nonDependentOnly) (symm := false) (exfalso := false) (transparency := .reducible) only [rfl, park_pgH])) : P := h
set_option maxHeartbeats 8000000 in
theorem PinningTrue_call (nl np : Bool) (ts proof : List Int) : ACall Try.prog 3 [.p (.list nl (ts.map pI)), .p (.list np (proof.map pI))] [] fun r H => r = .p (pB true) := by
  refine acall_enter Try.func3 rfl rfl tabOK rfl ?_
  (conv => whnf); repeat' ((first | apply CondA.plain | refine' go_pgH | (apply DrawA.quiet (by kernel_rfl) (by kernel_rfl); (conv => whnf); fail_if_success (show False)) | (refine CallA.scalar (sane23_call) ?_)) <;> (conv => whnf))
  iterate 2
    · (refine RetK.p ?_ <;> repeat' (first | exact trivial | refine And.intro ?_ ?_ | with_reducible rfl | (refine pIEq ?_; (first | omega | (simp only [lenS] at *; omega) | grind)) | (refine bufMap ?_) | (refine bufNil ?_) | (refine bufEq ?_) | rfl); all_goals try first | refine pBEq ?_ | refine pIEq ?_)
  refine CallA.loc [] [] rfl rfl ((New_call nl ts).mono ?_)
  rintro r H ⟨ts', rfl, rfl⟩
  (conv => whnf); repeat' ((first | apply CondA.plain | refine' go_pgH | (apply DrawA.quiet (by kernel_rfl) (by kernel_rfl); (conv => whnf); fail_if_success (show False))) <;> (conv => whnf))
  refine CallA.loc [0] [] rfl rfl ((Pinout_call nl ts' 0 (Nat.zero_le _)).mono ?_)
  rintro _ _ ⟨p, i, hp, hi, rfl, rfl⟩
  have hl5 := hp.len
  (conv => whnf); repeat' ((first | apply CondA.plain | refine' go_pgH | (apply DrawA.quiet (by kernel_rfl) (by kernel_rfl); (conv => whnf); fail_if_success (show False))) <;> (conv => whnf))
  refine CallA.loc [0] [] rfl rfl ((Demands_call nl ts' i hi 5 (by omega)).mono ?_)
  rintro _ _ ⟨l, nb, i2, hl, hw, hi2, rfl, rfl⟩
  (conv => whnf); repeat' ((first | apply CondA.plain | refine' go_pgH | (apply DrawA.quiet (by kernel_rfl) (by kernel_rfl); (conv => whnf); fail_if_success (show False))) <;> (conv => whnf))
  refine CallA.loc [] [] rfl rfl ((rRefute_call p nb true l []).mono ?_)
  rintro _ _ ⟨⟨n1, rfl⟩, rfl⟩
  (conv => whnf); repeat' ((first | apply CondA.plain | refine' go_pgH | (apply DrawA.quiet (by kernel_rfl) (by kernel_rfl); (conv => whnf); fail_if_success (show False))) <;> (conv => whnf))
  refine CallA.loc [0] [] rfl rfl ((Some_call nl ts' i2 hi2 l.length 2 (by omega) (by omega)).mono ?_)
  rintro _ _ ⟨sm, n2, i3, _, hi3, rfl, rfl⟩
  obtain ⟨xs, hxs⟩ : ∃ xs : List (Bool × List Int), xs = [(n1, (refF p l []).1), (np, proof), (n2, sm)] := ⟨_, rfl⟩
  have hxl : xs.length = 3 := by rw [hxs]; rfl
  (conv => whnf); repeat' ((first | apply CondA.plain | refine' go_pgH | fail) <;> (conv => whnf))
  refine loop_rule (fun (⟨c, i⟩ : Nat × Nat) => ⟨[(5, .ptr 0 0), (6, .ptr 1 0), (7, .p (.list nb (l.map pS))), (43, .p (.agg (xs.map fI))), (44, .p (pI c))], src nl ts' i ++ [some (.cells [.p (pI p.n), .p (.list p.nl (p.gs.map Grp.pv))])]⟩) (fun (⟨c, i⟩ : Nat × Nat) => c ≤ 3 ∧ i ≤ ts'.length) (fun (⟨c, i⟩ : Nat × Nat) => 3 - c) (0, i3) ?_ ?_ ?_; (refine SubA.thawed _ [2] [43] ?_; refine SubA.auto rfl rfl rfl rfl ?_ ?_ <;> repeat' (first | exact trivial | refine And.intro ?_ ?_ | with_reducible rfl | (refine pIEq ?_; (first | omega | (simp only [lenS] at *; omega) | grind)) | (refine bufMap ?_) | (refine bufNil ?_) | (refine bufEq ?_) | rfl))
  · rw [hxs]; rfl
  · exact ⟨Nat.zero_le _, hi3⟩
  clear hi hi2 hi3 hxs hw
  rintro ⟨c, i⟩ ⟨hc, hi⟩
  rcases Nat.lt_or_ge c 3 with hlt | hge
  rotate_left
  · (conv => whnf); repeat' ((first | apply CondA.plain | refine' go_pgH | (refine CallA.scalar (sane23_call) ?_)) <;> (conv => whnf))
    (refine RetK.p ?_ <;> repeat' (first | exact trivial | refine And.intro ?_ ?_ | with_reducible rfl | (refine pIEq ?_; (first | omega | (simp only [lenS] at *; omega) | grind)) | (refine bufMap ?_) | (refine bufNil ?_) | (refine bufEq ?_) | rfl); all_goals try first | refine pBEq ?_ | refine pIEq ?_)
  obtain ⟨⟨xb, x⟩, hx⟩ : ∃ x, xs[c]? = some x := ⟨_, List.getElem?_eq_getElem (by omega)⟩
  have hx2 : xs[(c : Int).toNat]? = some (xb, x) := by rw [Int.toNat_natCast, hx]
  (conv => whnf); repeat' ((first | (apply IdxA.at_ (f := fI) (xb, x) (Int.natCast_nonneg c) hx2) | apply CondA.plain | refine' go_pgH | fail) <;> (conv => whnf))
  refine CallA.loc [0] [] rfl rfl ((Some_call nl ts' i hi p.gs.length 4 (by omega) (by omega)).mono ?_)
  rintro _ _ ⟨sm2, n3, i4, _, hi4, rfl, rfl⟩
  obtain ⟨ys, hys⟩ : ∃ ys : List (Bool × List Int), ys = [(true, []), (n3, sm2)] := ⟨_, rfl⟩
  have hyl : ys.length = 2 := by rw [hys]; rfl
  (conv => whnf); repeat' ((first | apply CondA.plain | refine' go_pgH | fail) <;> (conv => whnf))
  refine loop_rule (fun (d : Nat) => ⟨[(5, .ptr 0 0), (6, .ptr 1 0), (7, .p (.list nb (l.map pS))), (11, .p (fI (xb, x))), (43, .p (.agg (xs.map fI))), (44, .p (pI c)), (52, .p (.agg (ys.map fI))), (53, .p (pI d))], src nl ts' i4 ++ [some (.cells [.p (pI p.n), .p (.list p.nl (p.gs.map Grp.pv))])]⟩) (fun (d : Nat) => d ≤ 2) (fun (d : Nat) => 2 - d) 0 ?_ ?_ ?_; (refine SubA.thawed _ [2] [52] ?_; refine SubA.auto rfl rfl rfl rfl ?_ ?_ <;> repeat' (first | exact trivial | refine And.intro ?_ ?_ | with_reducible rfl | (refine pIEq ?_; (first | omega | (simp only [lenS] at *; omega) | grind)) | (refine bufMap ?_) | (refine bufNil ?_) | (refine bufEq ?_) | rfl))
  · rw [hys]; rfl
  · exact Nat.zero_le _
  rintro d hd
  rcases Nat.lt_or_ge d 2 with hdl | hdg
  rotate_left
  · (conv => whnf); repeat' ((first | apply CondA.plain | refine' go_pgH | fail) <;> (conv => whnf))
    (refine' ⟨(c + 1, i4), _, _, _⟩; rotate_right; (refine SubA.auto rfl rfl rfl rfl ?_ ?_ <;> repeat' (first | exact trivial | refine And.intro ?_ ?_ | with_reducible rfl | (refine pIEq ?_; (first | omega | (simp only [lenS] at *; omega) | grind)) | (refine bufMap ?_) | (refine bufNil ?_) | (refine bufEq ?_) | rfl)); rotate_right; (first | omega | (simp only []; omega) | (simp; omega) | (first | omega | (simp only [lenS] at *; omega) | grind)))
    exact ⟨by omega, hi4⟩
  obtain ⟨⟨gb, given⟩, hg⟩ : ∃ x, ys[d]? = some x := ⟨_, List.getElem?_eq_getElem (by omega)⟩
  have hg2 : ys[(d : Int).toNat]? = some (gb, given) := by rw [Int.toNat_natCast, hg]
  cases hck : checkF p l given x with
  | false =>
    (conv => whnf); repeat' ((first | (apply IdxA.at_ (f := fI) (gb, given) (Int.natCast_nonneg d) hg2) | apply CondA.plain | refine' go_pgH | ((refine CallA.scalar (Check_call p nb gb xb l given x) ?_; rw [hck]))) <;> (conv => whnf))
    (refine' ⟨d + 1, _, _, _⟩; rotate_right; (refine SubA.auto rfl rfl rfl rfl ?_ ?_ <;> repeat' (first | exact trivial | refine And.intro ?_ ?_ | with_reducible rfl | (refine pIEq ?_; (first | omega | (simp only [lenS] at *; omega) | grind)) | (refine bufMap ?_) | (refine bufNil ?_) | (refine bufEq ?_) | rfl)); rotate_right; (first | omega | (simp only []; omega) | (simp; omega) | (first | omega | (simp only [lenS] at *; omega) | grind)))
    exact hdl
  | true =>
    have hn := check_none hck
    (conv => whnf); repeat' ((first | (apply IdxA.at_ (f := fI) (gb, given) (Int.natCast_nonneg d) hg2) | apply CondA.plain | refine' go_pgH | ((refine CallA.scalar (Check_call p nb gb xb l given x) ?_; rw [hck]))) <;> (conv => whnf))
    refine CallA.loc [] [] rfl rfl ((rAssign_call p nb gb l given).mono ?_)
    rw [hn]
    rintro _ _ ⟨⟨n4, rfl⟩, rfl⟩
    (conv => whnf); repeat' ((first | apply CondA.plain | refine' go_pgH | fail) <;> (conv => whnf))
    (refine' ⟨d + 1, _, _, _⟩; rotate_right; (refine SubA.auto rfl rfl rfl rfl ?_ ?_ <;> repeat' (first | exact trivial | refine And.intro ?_ ?_ | with_reducible rfl | (refine pIEq ?_; (first | omega | (simp only [lenS] at *; omega) | grind)) | (refine bufMap ?_) | (refine bufNil ?_) | (refine bufEq ?_) | rfl)); rotate_right; (first | omega | (simp only []; omega) | (simp; omega) | (first | omega | (simp only [lenS] at *; omega) | grind)))
    exact hdl
end Go.Proofs.Ytnogpkaehiapfaa
