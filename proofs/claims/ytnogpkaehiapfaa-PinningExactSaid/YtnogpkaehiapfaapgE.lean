/- Pinning: the reference's search, Meets, Assign; what is possible. -/
import Derived.Test.YtnogpkaehiapfaapgD
namespace Go.Proofs.Ytnogpkaehiapfaa
set_option linter.unusedSimpArgs false
set_option linter.unusedVariables false
set_option linter.unnecessarySimpa false
open Go.Abs
set_option maxRecDepth 100000
def q3Sc : Sc := (.frz 0 (.take 1 (.take 2 (.take 3 (.take 4 (.load 5 (.one 6 (.take 7 .done))))))))
def q7Sc : Sc := (.frz 0 (.take 1 (.take 2 (.take 3 (.take 4 (.load 5 (.one 6 (.take 7 .done))))))))
def q8SC0 : Sc := (.one 8 (.one 9 (.one 10 (.take 11 (.take 12 (.take 13 (.take 14 (.take 15 .done))))))))
def q8SC1 : Sc := (.one 3 (.one 9 (.one 10 (.take 11 (.take 12 (.take 13 (.take 14 (.take 15 .done))))))))
def q8Sc : Sc := (.frz 0 (.take 1 (.take 2 (.take 4 (.take 5 (.take 6 (.load 7 (.two 3 8 q8SC0 q8SC1))))))))
/-- A search's result: groups, and whether there are some. -/
def resS (us : List Int) : Option (List Int) → List Int
  | some x => us ++ x
  | none => []
/-- Kept for later: a goal of a walk's step. -/
theorem park_pgE {P : Prop} (x : P) (_ : x = x) : P := x
/-- One step of a walk. -/
theorem go_pgE {P : Prop} (h : P := by
  (first | ((first | apply LenA.map | apply NilA.map | apply NilA.mk); intro _) | ((first | apply NW.as | apply ValA.as); with_reducible assumption) | ((first | apply NW.i64 | apply NW.u32 | apply NW.u64 | apply NW.u8 | apply InA.nat | apply InA.map | apply AppA.snoc (f := pI) (a := _) rfl | apply AppA.one (f := pI) (a := _) rfl | apply AppA.snoc (f := pB) (a := _) rfl | apply AppA.one (f := pB) (a := _) rfl | apply AppA.snoc (f := pS) (a := _) rfl | apply AppA.one (f := pS) (a := _) rfl | apply AppA.map | apply AppA.nil | apply CutA.lo | apply CutA.hi); (first | omega | (simp only [lenS] at *; omega) | grind)) | ((first | (apply RemA.as; assumption) | apply RemA.self); (first | omega | (simp only [lenS] at *; omega) | grind)) | (apply ValA.as; assumption) | apply ValA.self | (apply NW.as; assumption) | (apply SzA.map; (intro _; rfl)) | with_reducible apply br_pt | with_reducible apply br_pf | with_reducible apply br_mt | with_reducible apply br_mf | apply Both.mk | ((first | apply br_T | apply br_F | apply br_mT | apply br_mF); assumption) | ((first | apply br_lss | apply br_leq | apply br_gtr | apply br_geq | apply br_dec | apply br_beq | apply br_bne | apply br_beqB | apply br_bneB | apply br_not | apply br_m | apply br_intro) <;> intro h0 <;> first | (exfalso; first | omega | exact tf h0 (by assumption) | exact tf (by assumption) h0 | exact h0 (by assumption) | exact h0 rfl | exact of_decide_eq_false h0 rfl) | skip) | refine ArrA.mk _ rfl rfl ?_ | (apply IdxA.lit; omega; exact rfl) | ((first | apply IdxA.of_nat | (apply IdxA.of_map; (first | omega | (simp only [lenS] at *; omega) | grind))); rotate_left; (first | omega | (simp only [lenS] at *; omega) | grind)) | apply AppC.own | apply CutO.part | apply IsL.set (f := pI) (a := _) rfl | apply IsL.rep (f := pI) (a := _) rfl | apply IsL.set (f := pB) (a := _) rfl | apply IsL.rep (f := pB) (a := _) rfl | apply IsL.set (f := pS) (a := _) rfl | apply IsL.rep (f := pS) (a := _) rfl | apply IsL.lit (f := pI) [] rfl | apply IsL.lit (f := pI) [_] rfl | apply IsL.lit (f := pB) [] rfl | apply IsL.lit (f := pB) [_] rfl | apply IsL.lit (f := pS) [] rfl | apply IsL.lit (f := pS) [_] rfl | (apply And.intro; (first | with_reducible rfl | (show (_ : AV) = _; rfl) | (first | omega | (simp only [lenS] at *; omega) | grind)))) <;> (solve_by_elim (newGoals := .nonDependentOnly) (symm := false) (exfalso := false) (transparency := .reducible) only [rfl, park_pgE])) : P := h
set_option maxHeartbeats 8000000 in
theorem rsearch_call {p : Pin} (hP : VP p) (nl : Bool) (l : List ByteArray) : ∀ (k : Nat) (nu : Bool) (us : List Int), us.length + k = l.length → (∀ u ∈ us, 0 ≤ u ∧ u < p.gs.length) → l.length ≤ 1000 →
    ACall Try.prog 40 [.p p.pv, .p (.list nl (l.map pS)), .p (.list nu (us.map pI))] [] fun r H => (∃ n, r = .tup [.p (.list n ((resS us (srch p.gs ((optsL p l).drop us.length) us)).map pI)), .p (pB (srch p.gs ((optsL p l).drop us.length) us).isSome)]) ∧ H = []
  | 0, nu, us, hk, hr, hll => by
    refine acall_enter Try.func40 rfl rfl tabOK rfl ?_
    have e : srch p.gs ((optsL p l).drop us.length) us = some [] := by rw [List.drop_of_length_le (by rw [opts_len]; omega)]; rfl
    rw [e]
    have e2 : resS us (some []) = us := List.append_nil us
    rw [e2]
    (conv => whnf); repeat' ((first | apply CondA.plain | refine' go_pgE | (apply DrawA.quiet (by kernel_rfl) (by kernel_rfl); (conv => whnf); fail_if_success (show False))) <;> (conv => whnf))
    (refine RetK.frz _ _ _ [1] ?_; refine' RetK.auto (.tup [.p (.list _ (us.map pI)), .p (pB true)]) ([]) rfl rfl rfl rfl _ _ _ <;> repeat' (first | exact trivial | refine And.intro ?_ ?_ | with_reducible rfl | (refine pIEq ?_; (first | omega | (simp only [lenS] at *; omega) | grind)) | (refine bufMap ?_) | (refine bufNil ?_) | (refine bufEq ?_) | rfl))
    exact ⟨_, rfl⟩
  | k + 1, nu, us, hk, hr, hll => by
    have IH := rsearch_call hP nl l k
    refine acall_enter Try.func40 rfl rfl tabOK rfl ?_
    have hlt : us.length < l.length := by omega
    obtain ⟨f, hf⟩ : ∃ f, l[us.length] = f := ⟨_, rfl⟩
    have hf1 : l[((us.length : Nat) : Int).toNat]? = some f := by rw [Int.toNat_natCast, List.getElem?_eq_getElem hlt, hf]
    have hopt : (optsL p l).drop us.length = offersF p f :: (optsL p l).drop (us.length + 1) := by
      rw [List.drop_eq_getElem_cons (by rw [opts_len]; exact hlt), optsL_at hlt, hf]
    have hor : ∀ g ∈ offersF p f, 0 ≤ g ∧ g < p.gs.length := fun g hg => offersF_in hg
    rw [hopt, srch]
    obtain ⟨R, hR⟩ : ∃ R, (optsL p l).drop (us.length + 1) = R := ⟨_, rfl⟩
    rw [hR]
    have hoff := roffers_call hP f
    obtain ⟨o, ho⟩ : ∃ o, offersF p f = o := ⟨_, rfl⟩
    rw [ho] at hor hoff ⊢
    obtain ⟨F, hF⟩ : ∃ F : Int → Option (List Int), F = fun g => if freeG_ p.gs us g then (srch p.gs R (us ++ [g])).map (g :: ·) else none := ⟨_, rfl⟩
    rw [← hF]
    (conv => whnf); repeat' ((first | apply CondA.plain | refine' go_pgE | fail) <;> (conv => whnf))
    refine DrawA.retire 3 0 [pI p.n, .list p.nl (p.gs.map Grp.pv)] rfl rfl ?_
    apply DrawA.orders q3Sc (by kernel_rfl) (by kernel_rfl) (by kernel_rfl)
    (conv => whnf); repeat' ((first | (apply IdxA.at_ (f := pS) f (Int.natCast_nonneg us.length) hf1) | apply CondA.plain | refine' go_pgE | ((refine CallA.fresh _ hoff ?_; rintro _ ⟨n1, rfl⟩))) <;> (conv => whnf))
    refine loop_rule (fun (c : Nat) => ⟨[(1, .p (.list nl (l.map pS))), (2, .p (.list nu (us.map pI))), (3, .rptr [pI p.n, .list p.nl (p.gs.map Grp.pv)]), (8, .p (.list n1 (o.map pI))), (9, .p (pI c))], []⟩) (fun (c : Nat) => c ≤ o.length ∧ o.findSome? F = (o.drop c).findSome? F) (fun (c : Nat) => o.length - c) 0 ?_ ?_ ?_; (refine SubA.auto rfl rfl rfl rfl ?_ ?_ <;> repeat' (first | exact trivial | refine And.intro ?_ ?_ | with_reducible rfl | (refine pIEq ?_; (first | omega | (simp only [lenS] at *; omega) | grind)) | (refine bufMap ?_) | (refine bufNil ?_) | (refine bufEq ?_) | rfl))
    · exact ⟨Nat.zero_le _, rfl⟩
    rintro c ⟨hc, hfs⟩
    rcases Nat.lt_or_ge c o.length with hl2 | hge
    rotate_left
    · rw [List.drop_of_length_le hge, List.findSome?_nil] at hfs
      rw [hfs]
      (conv => whnf); repeat' ((first | apply CondA.plain | refine' go_pgE | fail) <;> (conv => whnf))
      (refine' RetK.auto (.tup [.p (.list true []), .p (pB false)]) ([]) rfl rfl rfl rfl _ _ _ <;> repeat' (first | exact trivial | refine And.intro ?_ ?_ | with_reducible rfl | (refine pIEq ?_; (first | omega | (simp only [lenS] at *; omega) | grind)) | (refine bufMap ?_) | (refine bufNil ?_) | (refine bufEq ?_) | rfl))
      exact ⟨true, rfl⟩
    obtain ⟨g, hg⟩ : ∃ g, o[c] = g := ⟨_, rfl⟩
    have hg1 : o[((c : Nat) : Int).toNat]? = some g := by rw [Int.toNat_natCast, List.getElem?_eq_getElem hl2, hg]
    have hc0 := Int.natCast_nonneg c
    have hgr := hor g (by rw [← hg]; exact List.getElem_mem _)
    obtain ⟨z, rfl⟩ : ∃ z : Nat, g = z := ⟨g.toNat, by omega⟩
    have hzl : z < p.gs.length := by omega
    have hfc := rfree_call hP nu us z (fun u hu => (hr u hu).2) hzl
    rw [freeN_eq fun u hu => (hr u hu).1] at hfc
    rw [List.drop_eq_getElem_cons hl2, List.findSome?_cons, hg] at hfs
    have hr2 : ∀ y ∈ us ++ [(z : Int)], 0 ≤ y ∧ y < p.gs.length := fun y hy => by
      rcases List.mem_append.1 hy with hy | hy
      · exact hr y hy
      · rw [List.mem_singleton.1 hy]; exact hgr
    cases hfv : freeG_ p.gs us (z : Int) with
    | false =>
      have hFz : F (z : Int) = none := by rw [hF]; show (if _ then _ else _) = _; rw [hfv]; rfl
      rw [hFz] at hfs
      rw [hfv] at hfc
      (conv => whnf); repeat' ((first | apply CondA.plain | refine' go_pgE | fail) <;> (conv => whnf))
      apply DrawA.orders q7Sc (by kernel_rfl) (by kernel_rfl) (by kernel_rfl)
      (conv => whnf); repeat' ((first | (apply IdxA.at_ (f := pI) (z : Int) hc0 hg1) | apply CondA.plain | refine' go_pgE | (refine CallA.scalar (hfc) ?_)) <;> (conv => whnf))
      (refine' ⟨c + 1, _, _, _⟩; rotate_right; (refine SubA.auto rfl rfl rfl rfl ?_ ?_ <;> repeat' (first | exact trivial | refine And.intro ?_ ?_ | with_reducible rfl | (refine pIEq ?_; (first | omega | (simp only [lenS] at *; omega) | grind)) | (refine bufMap ?_) | (refine bufNil ?_) | (refine bufEq ?_) | rfl)); rotate_right; (first | omega | (simp only []; omega) | (simp; omega) | (first | omega | (simp only [lenS] at *; omega) | grind)))
      exact ⟨by omega, hfs⟩
    | true =>
      have hFz : F (z : Int) = (srch p.gs R (us ++ [(z : Int)])).map ((z : Int) :: ·) := by rw [hF]; show (if _ then _ else _) = _; rw [hfv, if_pos rfl]
      rw [hFz] at hfs
      rw [hfv] at hfc
      have IH2 := fun nb => IH nb (us ++ [(z : Int)]) (by rw [List.length_append]; show us.length + 1 + k = _; omega) hr2 hll
      have hgl : (us ++ [(z : Int)]).length = us.length + 1 := by simp
      rw [hgl, hR] at IH2
      obtain ⟨Sv, hSv⟩ : ∃ Sv, srch p.gs R (us ++ [(z : Int)]) = Sv := ⟨_, rfl⟩
      rw [hSv] at IH2 hfs
      (conv => whnf); repeat' ((first | apply CondA.plain | refine' go_pgE | fail) <;> (conv => whnf))
      apply DrawA.orders q7Sc (by kernel_rfl) (by kernel_rfl) (by kernel_rfl)
      (conv => whnf); repeat' ((first | (apply IdxA.at_ (f := pI) (z : Int) hc0 hg1) | apply CondA.plain | refine' go_pgE | (refine CallA.scalar (hfc) ?_)) <;> (conv => whnf))
      apply DrawA.orders q8Sc (by kernel_rfl) (by kernel_rfl) (by kernel_rfl)
      (conv => whnf); repeat' ((first | (apply IdxA.at_ (f := pI) (z : Int) hc0 hg1) | apply CondA.plain | refine' go_pgE | fail) <;> (conv => whnf))
      all_goals
        refine CallA.loc [] [2] rfl rfl ((IH2 _).mono ?_)
        rintro _ _ ⟨⟨n2, rfl⟩, rfl⟩
        cases Sv with
        | some sv =>
          have e : List.findSome? F o = some ((z : Int) :: sv) := hfs
          rw [e]
          (conv => whnf); repeat' ((first | apply CondA.plain | refine' go_pgE | fail) <;> (conv => whnf))
          (refine' RetK.auto (.tup [.p (.list n2 ((us ++ [(z : Int)] ++ sv).map pI)), .p (pB true)]) ([]) rfl rfl rfl rfl _ _ _ <;> repeat' (first | exact trivial | refine And.intro ?_ ?_ | with_reducible rfl | (refine pIEq ?_; (first | omega | (simp only [lenS] at *; omega) | grind)) | (refine bufMap ?_) | (refine bufNil ?_) | (refine bufEq ?_) | rfl))
          exact ⟨n2, by simp [resS]⟩
        | none =>
          (conv => whnf); repeat' ((first | apply CondA.plain | refine' go_pgE | fail) <;> (conv => whnf))
          (refine' ⟨c + 1, _, _, _⟩; rotate_right; (refine SubA.auto rfl rfl rfl rfl ?_ ?_ <;> repeat' (first | exact trivial | refine And.intro ?_ ?_ | with_reducible rfl | (refine pIEq ?_; (first | omega | (simp only [lenS] at *; omega) | grind)) | (refine bufMap ?_) | (refine bufNil ?_) | (refine bufEq ?_) | rfl)); rotate_right; (first | omega | (simp only []; omega) | (simp; omega) | (first | omega | (simp only [lenS] at *; omega) | grind)))
          exact ⟨by omega, hfs⟩
theorem rMeets_call (p : Pin) (nl nu : Bool) (l : List ByteArray) (us : List Int) : ACall Try.prog 31 [.p p.pv, .p (.list nl (l.map pS)), .p (.list nu (us.map pI))] [] fun r H => r = .p (pB (decide (badF p l us = 0 ∧ us.length = l.length))) ∧ H = [] := by
  refine acall_enter Try.func31 rfl rfl tabOK rfl ?_
  rcases Decidable.em (rightP p l) with hR | hR
  rotate_left
  · have e : decide (badF p l us = 0 ∧ us.length = l.length) = false := decide_eq_false fun h => hR (badF_ok h.1).1
    rw [e]
    (conv => whnf); repeat' ((first | apply CondA.plain | refine' go_pgE | (apply DrawA.quiet (by kernel_rfl) (by kernel_rfl); (conv => whnf); fail_if_success (show False)) | ((refine CallA.scalar (rRight_call p nl l) ?_; rw [decide_eq_false hR]))) <;> (conv => whnf))
    (refine RetK.p ?_ <;> repeat' (first | exact trivial | refine And.intro ?_ ?_ | with_reducible rfl | (refine pIEq ?_; (first | omega | (simp only [lenS] at *; omega) | grind)) | (refine bufMap ?_) | (refine bufNil ?_) | (refine bufEq ?_) | rfl); all_goals try first | refine pBEq ?_ | refine pIEq ?_)
  have hP := valid_of hR.1
  have hfc := rfits_call hP nl nu l us
  have hb : badF p l us = if fitsB p.gs (optsL p l) [] us then 0 else 40 := by rw [badF, if_pos hR]
  rw [hb]
  rcases Decidable.em (us.length = l.length) with he | he
  rotate_left
  · rw [decide_eq_false fun h => he h.2]
    (conv => whnf); repeat' ((first | apply CondA.plain | refine' go_pgE | (apply DrawA.quiet (by kernel_rfl) (by kernel_rfl); (conv => whnf); fail_if_success (show False)) | ((refine CallA.scalar (rRight_call p nl l) ?_; rw [decide_eq_true hR]))) <;> (conv => whnf))
    (refine RetK.p ?_ <;> repeat' (first | exact trivial | refine And.intro ?_ ?_ | with_reducible rfl | (refine pIEq ?_; (first | omega | (simp only [lenS] at *; omega) | grind)) | (refine bufMap ?_) | (refine bufNil ?_) | (refine bufEq ?_) | rfl); all_goals try first | refine pBEq ?_ | refine pIEq ?_)
  cases hfv : fitsB p.gs (optsL p l) [] us with
  | false =>
    rw [hfv] at hfc
    rw [decide_eq_false (fun h => by cases h.1)]
    (conv => whnf); repeat' ((first | apply CondA.plain | refine' go_pgE | (apply DrawA.quiet (by kernel_rfl) (by kernel_rfl); (conv => whnf); fail_if_success (show False)) | ((refine CallA.scalar (rRight_call p nl l) ?_; rw [decide_eq_true hR])) | (refine CallA.scalar (hfc) ?_)) <;> (conv => whnf))
    (refine RetK.p ?_ <;> repeat' (first | exact trivial | refine And.intro ?_ ?_ | with_reducible rfl | (refine pIEq ?_; (first | omega | (simp only [lenS] at *; omega) | grind)) | (refine bufMap ?_) | (refine bufNil ?_) | (refine bufEq ?_) | rfl); all_goals try first | refine pBEq ?_ | refine pIEq ?_)
  | true =>
    rw [hfv] at hfc
    rw [decide_eq_true (show (if true = true then (0 : Int) else 40) = 0 ∧ us.length = l.length from ⟨rfl, he⟩)]
    (conv => whnf); repeat' ((first | apply CondA.plain | refine' go_pgE | (apply DrawA.quiet (by kernel_rfl) (by kernel_rfl); (conv => whnf); fail_if_success (show False)) | ((refine CallA.scalar (rRight_call p nl l) ?_; rw [decide_eq_true hR])) | (refine CallA.scalar (hfc) ?_)) <;> (conv => whnf))
    (refine RetK.p ?_ <;> repeat' (first | exact trivial | refine And.intro ?_ ?_ | with_reducible rfl | (refine pIEq ?_; (first | omega | (simp only [lenS] at *; omega) | grind)) | (refine bufMap ?_) | (refine bufNil ?_) | (refine bufEq ?_) | rfl); all_goals try first | refine pBEq ?_ | refine pIEq ?_)
theorem rbad_call (p : Pin) (nl nu : Bool) (l : List ByteArray) (us : List Int) : ACall Try.prog 39 [.p p.pv, .p (.list nl (l.map pS)), .p (.list nu (us.map pI))] [] fun r H => r = .p (pI (badF p l us)) ∧ H = [] := by
  refine acall_enter Try.func39 rfl rfl tabOK rfl ?_
  rcases Decidable.em (rightP p l) with hR | hR
  rotate_left
  · have e : badF p l us = 1 := by rw [badF, if_neg hR]
    rw [e]
    (conv => whnf); repeat' ((first | apply CondA.plain | refine' go_pgE | (apply DrawA.quiet (by kernel_rfl) (by kernel_rfl); (conv => whnf); fail_if_success (show False)) | ((refine CallA.scalar (rRight_call p nl l) ?_; rw [decide_eq_false hR]))) <;> (conv => whnf))
    (refine RetK.p ?_ <;> repeat' (first | exact trivial | refine And.intro ?_ ?_ | with_reducible rfl | (refine pIEq ?_; (first | omega | (simp only [lenS] at *; omega) | grind)) | (refine bufMap ?_) | (refine bufNil ?_) | (refine bufEq ?_) | rfl); all_goals try first | refine pBEq ?_ | refine pIEq ?_)
  have hP := valid_of hR.1
  have hfc := rfits_call hP nl nu l us
  have hb : badF p l us = if fitsB p.gs (optsL p l) [] us then 0 else 40 := by rw [badF, if_pos hR]
  rw [hb]
  cases hfv : fitsB p.gs (optsL p l) [] us with
  | false =>
    rw [hfv] at hfc
    (conv => whnf); repeat' ((first | apply CondA.plain | refine' go_pgE | (apply DrawA.quiet (by kernel_rfl) (by kernel_rfl); (conv => whnf); fail_if_success (show False)) | ((refine CallA.scalar (rRight_call p nl l) ?_; rw [decide_eq_true hR])) | (refine CallA.scalar (hfc) ?_)) <;> (conv => whnf))
    (refine RetK.p ?_ <;> repeat' (first | exact trivial | refine And.intro ?_ ?_ | with_reducible rfl | (refine pIEq ?_; (first | omega | (simp only [lenS] at *; omega) | grind)) | (refine bufMap ?_) | (refine bufNil ?_) | (refine bufEq ?_) | rfl); all_goals try first | refine pBEq ?_ | refine pIEq ?_)
  | true =>
    rw [hfv] at hfc
    (conv => whnf); repeat' ((first | apply CondA.plain | refine' go_pgE | (apply DrawA.quiet (by kernel_rfl) (by kernel_rfl); (conv => whnf); fail_if_success (show False)) | ((refine CallA.scalar (rRight_call p nl l) ?_; rw [decide_eq_true hR])) | (refine CallA.scalar (hfc) ?_)) <;> (conv => whnf))
    (refine RetK.p ?_ <;> repeat' (first | exact trivial | refine And.intro ?_ ?_ | with_reducible rfl | (refine pIEq ?_; (first | omega | (simp only [lenS] at *; omega) | grind)) | (refine bufMap ?_) | (refine bufNil ?_) | (refine bufEq ?_) | rfl); all_goals try first | refine pBEq ?_ | refine pIEq ?_)
theorem rAssign_call (p : Pin) (nl nu : Bool) (l : List ByteArray) (us : List Int) : ACall Try.prog 16 [.p p.pv, .p (.list nl (l.map pS)), .p (.list nu (us.map pI))] [] (F2 (asgF p l us).1 (asgF p l us).2) := by
  refine acall_enter Try.func16 rfl rfl tabOK rfl ?_
  have hbc := rbad_call p nl nu l us
  rcases Decidable.em (badF p l us = 0) with he | he
  rotate_left
  · have e : asgF p l us = ([], badF p l us) := by rw [asgF, if_pos he]
    rw [e]
    obtain ⟨E, hE⟩ : ∃ E, badF p l us = E := ⟨_, rfl⟩
    rw [hE] at he hbc ⊢
    (conv => whnf); repeat' ((first | apply CondA.plain | refine' go_pgE | (apply DrawA.quiet (by kernel_rfl) (by kernel_rfl); (conv => whnf); fail_if_success (show False)) | (refine CallA.scalar (hbc) ?_)) <;> (conv => whnf))
    (refine' RetK.auto (.tup [.p (.list true []), .p (pI E)]) ([]) rfl rfl rfl rfl _ _ _ <;> repeat' (first | exact trivial | refine And.intro ?_ ?_ | with_reducible rfl | (refine pIEq ?_; (first | omega | (simp only [lenS] at *; omega) | grind)) | (refine bufMap ?_) | (refine bufNil ?_) | (refine bufEq ?_) | rfl))
    exact ⟨true, rfl⟩
  obtain ⟨hR, hfit⟩ := badF_ok he
  have hP := valid_of hR.1
  obtain ⟨hgl, hgr⟩ := fitsB_rng hfit
  have hl10 := hR.2.1
  have hs := rsearch_call hP nl l (l.length - us.length) nu us (by omega) hgr (by omega)
  rw [he] at hbc
  rw [asgF, if_neg (by rw [he]; simp)]
  obtain ⟨S, hS⟩ : ∃ S, srch p.gs ((optsL p l).drop us.length) us = S := ⟨_, rfl⟩
  rw [hS] at hs ⊢
  (conv => whnf); repeat' ((first | apply CondA.plain | refine' go_pgE | (apply DrawA.quiet (by kernel_rfl) (by kernel_rfl); (conv => whnf); fail_if_success (show False)) | (refine CallA.scalar (hbc) ?_)) <;> (conv => whnf))
  refine CallA.loc [] [] rfl rfl (hs.mono ?_)
  rintro _ _ ⟨⟨n1, rfl⟩, rfl⟩
  cases S with
  | none =>
    (conv => whnf); repeat' ((first | apply CondA.plain | refine' go_pgE | (apply DrawA.quiet (by kernel_rfl) (by kernel_rfl); (conv => whnf); fail_if_success (show False))) <;> (conv => whnf))
    (refine' RetK.auto (.tup [.p (.list true []), .p (pI 9)]) ([]) rfl rfl rfl rfl _ _ _ <;> repeat' (first | exact trivial | refine And.intro ?_ ?_ | with_reducible rfl | (refine pIEq ?_; (first | omega | (simp only [lenS] at *; omega) | grind)) | (refine bufMap ?_) | (refine bufNil ?_) | (refine bufEq ?_) | rfl))
    exact ⟨true, rfl⟩
  | some x =>
    (conv => whnf); repeat' ((first | apply CondA.plain | refine' go_pgE | (apply DrawA.quiet (by kernel_rfl) (by kernel_rfl); (conv => whnf); fail_if_success (show False))) <;> (conv => whnf))
    (refine' RetK.auto (.tup [.p (.list n1 ((us ++ x).map pI)), .p (pI 0)]) ([]) rfl rfl rfl rfl _ _ _ <;> repeat' (first | exact trivial | refine And.intro ?_ ?_ | with_reducible rfl | (refine pIEq ?_; (first | omega | (simp only [lenS] at *; omega) | grind)) | (refine bufMap ?_) | (refine bufNil ?_) | (refine bufEq ?_) | rfl))
    exact ⟨n1, rfl⟩
end Go.Proofs.Ytnogpkaehiapfaa
