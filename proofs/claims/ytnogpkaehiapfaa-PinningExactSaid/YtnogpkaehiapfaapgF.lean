/- Pinning: the reference's Refute and Size. -/
import Derived.Test.YtnogpkaehiapfaapgE
namespace Go.Proofs.Ytnogpkaehiapfaa
set_option linter.unusedSimpArgs false
set_option linter.unusedVariables false
set_option linter.unnecessarySimpa false
open Go.Abs
set_option maxRecDepth 100000
def w5Sc : Sc := (.frz 0 (.take 1 (.take 2 (.take 3 (.load 4 (.one 5 (.take 6 .done)))))))
def w9Sc : Sc := (.frz 0 (.take 1 (.take 2 (.take 3 (.take 4 (.load 5 (.one 6 .done)))))))
def w10SC0 : Sc := (.one 8 (.one 9 (.one 11 (.take 12 .done))))
def w10SC1 : Sc := (.one 3 (.one 9 (.one 11 (.take 12 .done))))
def w10Sc : Sc := (.frz 0 (.take 1 (.take 2 (.take 4 (.take 5 (.take 6 (.load 7 (.take 10 (.two 3 8 w10SC0 w10SC1)))))))))
theorem take_app (a b : List Int) (n : Nat) : ((a.take n) ++ b).take n = (a ++ b).take n := by
  rw [List.take_append, List.take_append, List.take_take, Nat.min_self]
  rcases Nat.lt_or_ge a.length n with h | h
  · rw [List.take_of_length_le (l := a) (by omega)]
  · rw [List.length_take, show n - min n a.length = 0 by omega, show n - a.length = 0 by omega]
/-- The list that is written lies where it did, or it has moved. -/
def WB : Bool → Bool → List Int → AH
  | false, nb, A => [some (AO.buf 3 nb (A.map pI))]
  | true, nb, A => [none, some (AO.buf 3 nb (A.map pI))]
def wbR : Bool → AV
  | false => .buf 0
  | true => .buf 1
/-- Kept for later: a goal of a walk's step. -/
theorem park_pgF {P : Prop} (x : P) (_ : x = x) : P := x
/-- One step of a walk. -/
theorem go_pgF {P : Prop} (h : P := by
  (first | ((first | apply LenA.map | apply NilA.map | apply NilA.mk); intro _) | ((first | apply NW.as | apply ValA.as); with_reducible assumption) | ((first | apply NW.i64 | apply NW.u32 | apply NW.u64 | apply NW.u8 | apply InA.nat | apply InA.map | apply AppA.snoc (f := pI) (a := _) rfl | apply AppA.one (f := pI) (a := _) rfl | apply AppA.snoc (f := pB) (a := _) rfl | apply AppA.one (f := pB) (a := _) rfl | apply AppA.snoc (f := pS) (a := _) rfl | apply AppA.one (f := pS) (a := _) rfl | apply AppA.map | apply AppA.nil | apply CutA.lo | apply CutA.hi); (first | omega | (simp only [lenS] at *; omega) | grind)) | ((first | (apply RemA.as; assumption) | apply RemA.self); (first | omega | (simp only [lenS] at *; omega) | grind)) | (apply ValA.as; assumption) | apply ValA.self | (apply NW.as; assumption) | (apply SzA.map; (intro _; rfl)) | with_reducible apply br_pt | with_reducible apply br_pf | with_reducible apply br_mt | with_reducible apply br_mf | apply Both.mk | ((first | apply br_T | apply br_F | apply br_mT | apply br_mF); assumption) | ((first | apply br_lss | apply br_leq | apply br_gtr | apply br_geq | apply br_dec | apply br_beq | apply br_bne | apply br_beqB | apply br_bneB | apply br_not | apply br_m | apply br_intro) <;> intro h0 <;> first | (exfalso; first | omega | exact tf h0 (by assumption) | exact tf (by assumption) h0 | exact h0 (by assumption) | exact h0 rfl | exact of_decide_eq_false h0 rfl) | skip) | refine ArrA.mk _ rfl rfl ?_ | (apply IdxA.lit; omega; exact rfl) | ((first | apply IdxA.of_nat | (apply IdxA.of_map; (first | omega | (simp only [lenS] at *; omega) | grind))); rotate_left; (first | omega | (simp only [lenS] at *; omega) | grind)) | apply AppC.own | apply CutO.part | apply IsL.set (f := pI) (a := _) rfl | apply IsL.rep (f := pI) (a := _) rfl | apply IsL.set (f := pB) (a := _) rfl | apply IsL.rep (f := pB) (a := _) rfl | apply IsL.set (f := pS) (a := _) rfl | apply IsL.rep (f := pS) (a := _) rfl | apply IsL.lit (f := pI) [] rfl | apply IsL.lit (f := pI) [_] rfl | apply IsL.lit (f := pB) [] rfl | apply IsL.lit (f := pB) [_] rfl | apply IsL.lit (f := pS) [] rfl | apply IsL.lit (f := pS) [_] rfl | (apply And.intro; (first | with_reducible rfl | (show (_ : AV) = _; rfl) | (first | omega | (simp only [lenS] at *; omega) | grind)))) <;> (solve_by_elim (newGoals := .nonDependentOnly) (symm := false) (exfalso := false) (transparency := .reducible) only [rfl, park_pgF])) : P := h
set_option maxHeartbeats 8000000 in
theorem rwrite_call {p : Pin} (hP : VP p) (nl : Bool) (l : List ByteArray) (hll : l.length ≤ 1000) : ∀ (k : Nat) (nu no : Bool) (us out : List Int), us.length + k = l.length → (∀ u ∈ us, 0 ≤ u ∧ u < p.gs.length) → out.length ≤ 4001 → srch p.gs ((optsL p l).drop us.length) us = none →
    ACall Try.prog 41 [.p p.pv, .p (.list nl (l.map pS)), .p (.list nu (us.map pI)), .buf 0] (WB false no out) fun r H => ∃ b n, r = wbR b ∧ H = WB b n ((out ++ writeF p.gs ((optsL p l).drop us.length) us us.length).take 4001)
  | 0, nu, no, us, out, hk, hr, hout, hsr => by
    rw [List.drop_of_length_le (by rw [opts_len]; omega)] at hsr
    cases hsr
  | k + 1, nu, no, us, out, hk, hr, hout, hsr => by
    have IH := rwrite_call hP nl l hll k
    refine acall_enter Try.func41 rfl rfl tabOK rfl ?_
    have hlt : us.length < l.length := by omega
    obtain ⟨W, hW⟩ : ∃ W, writeF p.gs ((optsL p l).drop us.length) us us.length = W := ⟨_, rfl⟩
    rw [hW]
    rcases Nat.lt_or_ge 4000 out.length with hbig | hsm
    · have e : (out ++ W).take 4001 = out := by rw [List.take_append_of_le_length (by omega), List.take_of_length_le (by omega)]
      rw [e]
      (conv => whnf); repeat' ((first | apply CondA.plain | refine' go_pgF | (apply DrawA.quiet (by kernel_rfl) (by kernel_rfl); (conv => whnf); fail_if_success (show False))) <;> (conv => whnf))
      (refine' RetK.auto (.buf 0) (WB false no out) rfl rfl rfl rfl _ _ _ <;> repeat' (first | exact trivial | refine And.intro ?_ ?_ | with_reducible rfl | (refine pIEq ?_; (first | omega | (simp only [lenS] at *; omega) | grind)) | (refine bufMap ?_) | (refine bufNil ?_) | (refine bufEq ?_) | rfl))
      exact ⟨false, no, rfl, rfl⟩
    obtain ⟨f, hf⟩ : ∃ f, l[us.length] = f := ⟨_, rfl⟩
    have hf1 : l[((us.length : Nat) : Int).toNat]? = some f := by rw [Int.toNat_natCast, List.getElem?_eq_getElem hlt, hf]
    have hopt : (optsL p l).drop us.length = offersF p f :: (optsL p l).drop (us.length + 1) := by
      rw [List.drop_eq_getElem_cons (by rw [opts_len]; exact hlt), optsL_at hlt, hf]
    have hor : ∀ g ∈ offersF p f, 0 ≤ g ∧ g < p.gs.length := fun g hg => offersF_in hg
    rw [hopt, writeF] at hW
    rw [hopt, srch, List.findSome?_eq_none_iff] at hsr
    obtain ⟨R, hR⟩ : ∃ R, (optsL p l).drop (us.length + 1) = R := ⟨_, rfl⟩
    rw [hR] at hW hsr
    have hoff := roffers_call hP f
    obtain ⟨o, ho⟩ : ∃ o, offersF p f = o := ⟨_, rfl⟩
    rw [ho] at hor hoff hW hsr
    obtain ⟨F, hF⟩ : ∃ F : Int → List Int, F = fun g => if freeG_ p.gs us g then writeF p.gs R (us ++ [g]) (us.length + 1) else [] := ⟨_, rfl⟩
    rw [← hF] at hW
    subst hW
    (conv => whnf); repeat' ((first | apply CondA.plain | refine' go_pgF | fail) <;> (conv => whnf))
    refine DrawA.retire 4 1 [pI p.n, .list p.nl (p.gs.map Grp.pv)] rfl rfl ?_
    apply DrawA.orders w5Sc (by kernel_rfl) (by kernel_rfl) (by kernel_rfl)
    (conv => whnf); repeat' ((first | (apply IdxA.at_ (f := pS) f (Int.natCast_nonneg us.length) hf1) | apply CondA.plain | refine' go_pgF | ((refine CallA.fresh _ hoff ?_; rintro _ ⟨n1, rfl⟩))) <;> (conv => whnf))
    refine' loop_rule (fun (⟨c, nb, A⟩ : Nat × Bool × List Int) => ⟨[(1, .p (.list nl (l.map pS))), (2, .p (.list nu (us.map pI))), (3, .buf 1), (4, .rptr [pI p.n, .list p.nl (p.gs.map Grp.pv)]), (10, .p (.list n1 (o.map pI))), (11, .p (pI c))], WB true nb A⟩) (fun (⟨c, nb, A⟩ : Nat × Bool × List Int) => c ≤ o.length ∧ A = (out ++ (us.length : Int) :: (o.take c).flatMap F).take 4001) (fun (⟨c, nb, A⟩ : Nat × Bool × List Int) => o.length - c) (0, _, out ++ [(us.length : Int)]) _ _ _; rotate_right; rotate_right; rotate_right; (refine SubA.auto rfl rfl rfl rfl ?_ ?_ <;> repeat' (first | exact trivial | refine And.intro ?_ ?_ | with_reducible rfl | (refine pIEq ?_; (first | omega | (simp only [lenS] at *; omega) | grind)) | (refine bufMap ?_) | (refine bufNil ?_) | (refine bufEq ?_) | rfl))
    · refine ⟨Nat.zero_le _, ?_⟩
      rw [List.take_of_length_le (by simp <;> omega)]
      try rfl
    rintro ⟨c, nb, A⟩ ⟨hc, hA⟩
    have hAl : A.length ≤ 4001 := by rw [hA, List.length_take]; omega
    rcases Nat.lt_or_ge c o.length with hl2 | hge
    rotate_left
    · rw [List.take_of_length_le hge] at hA
      rw [← hA]
      (conv => whnf); repeat' ((first | apply CondA.plain | refine' go_pgF | fail) <;> (conv => whnf))
      refine' RetK.mk _ _ _ [1] (.buf 1) (WB true nb A) rfl rfl _ rfl rfl ⟨true, nb, rfl, rfl⟩
      (repeat' (first | exact trivial | refine And.intro ?_ ?_ | with_reducible rfl | (refine pIEq ?_; (first | omega | (simp only [lenS] at *; omega) | grind)) | (refine bufMap ?_) | (refine bufNil ?_) | (refine bufEq ?_) | rfl))
    obtain ⟨g, hg⟩ : ∃ g, o[c] = g := ⟨_, rfl⟩
    have hg1 : o[((c : Nat) : Int).toNat]? = some g := by rw [Int.toNat_natCast, List.getElem?_eq_getElem hl2, hg]
    have hc0 := Int.natCast_nonneg c
    have hgm : g ∈ o := by rw [← hg]; exact List.getElem_mem _
    have hgr := hor g hgm
    have hsg := hsr g hgm
    obtain ⟨z, rfl⟩ : ∃ z : Nat, g = z := ⟨g.toNat, by omega⟩
    have hzl : z < p.gs.length := by omega
    have hfc := rfree_call hP nu us z (fun u hu => (hr u hu).2) hzl
    rw [freeN_eq fun u hu => (hr u hu).1] at hfc
    have hr2 : ∀ y ∈ us ++ [(z : Int)], 0 ≤ y ∧ y < p.gs.length := fun y hy => by
      rcases List.mem_append.1 hy with hy | hy
      · exact hr y hy
      · rw [List.mem_singleton.1 hy]; exact hgr
    have htk : (o.take (c + 1)).flatMap F = (o.take c).flatMap F ++ F z := by
      rw [List.take_succ_eq_append_getElem hl2, List.flatMap_append, hg]
      simp only [List.flatMap_cons, List.flatMap_nil, List.append_nil]
    cases hfv : freeG_ p.gs us (z : Int) with
    | false =>
      have hFz : F (z : Int) = [] := by rw [hF]; show (if _ then _ else _) = _; rw [hfv]; rfl
      rw [hfv] at hfc
      (conv => whnf); repeat' ((first | apply CondA.plain | refine' go_pgF | fail) <;> (conv => whnf))
      apply DrawA.orders w9Sc (by kernel_rfl) (by kernel_rfl) (by kernel_rfl)
      (conv => whnf); repeat' ((first | (apply IdxA.at_ (f := pI) (z : Int) hc0 hg1) | apply CondA.plain | refine' go_pgF | (refine CallA.scalar (hfc) ?_)) <;> (conv => whnf))
      (refine' ⟨(c + 1, nb, A), _, _, _⟩; rotate_right; (refine SubA.auto rfl rfl rfl rfl ?_ ?_ <;> repeat' (first | exact trivial | refine And.intro ?_ ?_ | with_reducible rfl | (refine pIEq ?_; (first | omega | (simp only [lenS] at *; omega) | grind)) | (refine bufMap ?_) | (refine bufNil ?_) | (refine bufEq ?_) | rfl)); rotate_right; (first | omega | (simp only []; omega) | (simp; omega) | (first | omega | (simp only [lenS] at *; omega) | grind)))
      exact ⟨by omega, by rw [htk, hFz, List.append_nil]; exact hA⟩
    | true =>
      have hFz : F (z : Int) = writeF p.gs R (us ++ [(z : Int)]) (us.length + 1) := by rw [hF]; show (if _ then _ else _) = _; rw [hfv, if_pos rfl]
      rw [hfv] at hfc
      rw [hfv, if_pos rfl, Option.map_eq_none_iff] at hsg
      have hgl : (us ++ [(z : Int)]).length = us.length + 1 := by simp
      have IH2 := fun nb2 => IH nb2 nb (us ++ [(z : Int)]) A (by rw [List.length_append]; show us.length + 1 + k = _; omega) hr2 hAl (by rw [hgl, hR]; exact hsg)
      rw [hgl, hR, ← hFz] at IH2
      have hnx : (A ++ F z).take 4001 = (out ++ (us.length : Int) :: (o.take (c + 1)).flatMap F).take 4001 := by
        rw [hA, take_app, htk]; simp
      obtain ⟨A2, hA2⟩ : ∃ A2, (A ++ F z).take 4001 = A2 := ⟨_, rfl⟩
      rw [hA2] at IH2 hnx
      (conv => whnf); repeat' ((first | apply CondA.plain | refine' go_pgF | fail) <;> (conv => whnf))
      apply DrawA.orders w9Sc (by kernel_rfl) (by kernel_rfl) (by kernel_rfl)
      (conv => whnf); repeat' ((first | (apply IdxA.at_ (f := pI) (z : Int) hc0 hg1) | apply CondA.plain | refine' go_pgF | (refine CallA.scalar (hfc) ?_)) <;> (conv => whnf))
      apply DrawA.orders w10Sc (by kernel_rfl) (by kernel_rfl) (by kernel_rfl)
      (conv => whnf); repeat' ((first | (apply IdxA.at_ (f := pI) (z : Int) hc0 hg1) | apply CondA.plain | refine' go_pgF | fail) <;> (conv => whnf))
      all_goals
        refine CallA.loc [1] [4] rfl rfl ((IH2 _).mono ?_)
        rintro _ _ ⟨b, n2, rfl, rfl⟩
        cases b
        · (conv => whnf); repeat' ((first | apply CondA.plain | refine' go_pgF | fail) <;> (conv => whnf))
          (refine' ⟨(c + 1, n2, A2), _, _, _⟩; rotate_right; (refine SubA.auto rfl rfl rfl rfl ?_ ?_ <;> repeat' (first | exact trivial | refine And.intro ?_ ?_ | with_reducible rfl | (refine pIEq ?_; (first | omega | (simp only [lenS] at *; omega) | grind)) | (refine bufMap ?_) | (refine bufNil ?_) | (refine bufEq ?_) | rfl)); rotate_right; (first | omega | (simp only []; omega) | (simp; omega) | (first | omega | (simp only [lenS] at *; omega) | grind)))
          exact ⟨by omega, hnx⟩
        · (conv => whnf); repeat' ((first | apply CondA.plain | refine' go_pgF | fail) <;> (conv => whnf))
          (refine' ⟨(c + 1, n2, A2), _, _, _⟩; rotate_right; (refine SubA.auto rfl rfl rfl rfl ?_ ?_ <;> repeat' (first | exact trivial | refine And.intro ?_ ?_ | with_reducible rfl | (refine pIEq ?_; (first | omega | (simp only [lenS] at *; omega) | grind)) | (refine bufMap ?_) | (refine bufNil ?_) | (refine bufEq ?_) | rfl)); rotate_right; (first | omega | (simp only []; omega) | (simp; omega) | (first | omega | (simp only [lenS] at *; omega) | grind)))
          exact ⟨by omega, hnx⟩
set_option maxHeartbeats 8000000 in
theorem rwrite_nil {p : Pin} (hP : VP p) (nl : Bool) (l : List ByteArray) (hll : l.length ≤ 1000) (k : Nat) (nu : Bool) (us : List Int) (hk : us.length + (k + 1) = l.length) (hr : ∀ u ∈ us, 0 ≤ u ∧ u < p.gs.length) (hsr : srch p.gs ((optsL p l).drop us.length) us = none) :
    ACall Try.prog 41 [.p p.pv, .p (.list nl (l.map pS)), .p (.list nu (us.map pI)), .p (.list true [])] [] fun r H => ∃ n, r = .buf 0 ∧ H = WB false n (([] ++ writeF p.gs ((optsL p l).drop us.length) us us.length).take 4001) := by
    have IH := rwrite_call hP nl l hll k
    refine acall_enter Try.func41 rfl rfl tabOK rfl ?_
    have hlt : us.length < l.length := by omega
    obtain ⟨W, hW⟩ : ∃ W, writeF p.gs ((optsL p l).drop us.length) us us.length = W := ⟨_, rfl⟩
    rw [hW]
    obtain ⟨f, hf⟩ : ∃ f, l[us.length] = f := ⟨_, rfl⟩
    have hf1 : l[((us.length : Nat) : Int).toNat]? = some f := by rw [Int.toNat_natCast, List.getElem?_eq_getElem hlt, hf]
    have hopt : (optsL p l).drop us.length = offersF p f :: (optsL p l).drop (us.length + 1) := by
      rw [List.drop_eq_getElem_cons (by rw [opts_len]; exact hlt), optsL_at hlt, hf]
    have hor : ∀ g ∈ offersF p f, 0 ≤ g ∧ g < p.gs.length := fun g hg => offersF_in hg
    rw [hopt, writeF] at hW
    rw [hopt, srch, List.findSome?_eq_none_iff] at hsr
    obtain ⟨R, hR⟩ : ∃ R, (optsL p l).drop (us.length + 1) = R := ⟨_, rfl⟩
    rw [hR] at hW hsr
    have hoff := roffers_call hP f
    obtain ⟨o, ho⟩ : ∃ o, offersF p f = o := ⟨_, rfl⟩
    rw [ho] at hor hoff hW hsr
    obtain ⟨F, hF⟩ : ∃ F : Int → List Int, F = fun g => if freeG_ p.gs us g then writeF p.gs R (us ++ [g]) (us.length + 1) else [] := ⟨_, rfl⟩
    rw [← hF] at hW
    subst hW
    (conv => whnf); repeat' ((first | ((refine LenA.mk 0 rfl ?_; intro _)) | apply CondA.plain | refine' go_pgF | fail) <;> (conv => whnf))
    refine DrawA.retire 4 0 [pI p.n, .list p.nl (p.gs.map Grp.pv)] rfl rfl ?_
    apply DrawA.orders w5Sc (by kernel_rfl) (by kernel_rfl) (by kernel_rfl)
    (conv => whnf); repeat' ((first | (apply IdxA.at_ (f := pS) f (Int.natCast_nonneg us.length) hf1) | apply CondA.plain | refine' go_pgF | ((refine CallA.fresh _ hoff ?_; rintro _ ⟨n1, rfl⟩))) <;> (conv => whnf))
    refine' loop_rule (fun (⟨c, nb, A⟩ : Nat × Bool × List Int) => ⟨[(1, .p (.list nl (l.map pS))), (2, .p (.list nu (us.map pI))), (3, .buf 0), (4, .rptr [pI p.n, .list p.nl (p.gs.map Grp.pv)]), (10, .p (.list n1 (o.map pI))), (11, .p (pI c))], WB false nb A⟩) (fun (⟨c, nb, A⟩ : Nat × Bool × List Int) => c ≤ o.length ∧ A = ([] ++ (us.length : Int) :: (o.take c).flatMap F).take 4001) (fun (⟨c, nb, A⟩ : Nat × Bool × List Int) => o.length - c) (0, _, [] ++ [(us.length : Int)]) _ _ _; rotate_right; rotate_right; rotate_right; (refine SubA.auto rfl rfl rfl rfl ?_ ?_ <;> repeat' (first | exact trivial | refine And.intro ?_ ?_ | with_reducible rfl | (refine pIEq ?_; (first | omega | (simp only [lenS] at *; omega) | grind)) | (refine bufMap ?_) | (refine bufNil ?_) | (refine bufEq ?_) | rfl))
    · refine ⟨Nat.zero_le _, ?_⟩
      rw [List.take_of_length_le (by simp <;> omega)]
      try rfl
    rintro ⟨c, nb, A⟩ ⟨hc, hA⟩
    have hAl : A.length ≤ 4001 := by rw [hA, List.length_take]; omega
    rcases Nat.lt_or_ge c o.length with hl2 | hge
    rotate_left
    · rw [List.take_of_length_le hge] at hA
      rw [← hA]
      (conv => whnf); repeat' ((first | apply CondA.plain | refine' go_pgF | fail) <;> (conv => whnf))
      refine' RetK.mk _ _ _ [0] (.buf 0) (WB false nb A) rfl rfl _ rfl rfl ⟨nb, rfl, rfl⟩
      (repeat' (first | exact trivial | refine And.intro ?_ ?_ | with_reducible rfl | (refine pIEq ?_; (first | omega | (simp only [lenS] at *; omega) | grind)) | (refine bufMap ?_) | (refine bufNil ?_) | (refine bufEq ?_) | rfl))
    obtain ⟨g, hg⟩ : ∃ g, o[c] = g := ⟨_, rfl⟩
    have hg1 : o[((c : Nat) : Int).toNat]? = some g := by rw [Int.toNat_natCast, List.getElem?_eq_getElem hl2, hg]
    have hc0 := Int.natCast_nonneg c
    have hgm : g ∈ o := by rw [← hg]; exact List.getElem_mem _
    have hgr := hor g hgm
    have hsg := hsr g hgm
    obtain ⟨z, rfl⟩ : ∃ z : Nat, g = z := ⟨g.toNat, by omega⟩
    have hzl : z < p.gs.length := by omega
    have hfc := rfree_call hP nu us z (fun u hu => (hr u hu).2) hzl
    rw [freeN_eq fun u hu => (hr u hu).1] at hfc
    have hr2 : ∀ y ∈ us ++ [(z : Int)], 0 ≤ y ∧ y < p.gs.length := fun y hy => by
      rcases List.mem_append.1 hy with hy | hy
      · exact hr y hy
      · rw [List.mem_singleton.1 hy]; exact hgr
    have htk : (o.take (c + 1)).flatMap F = (o.take c).flatMap F ++ F z := by
      rw [List.take_succ_eq_append_getElem hl2, List.flatMap_append, hg]
      simp only [List.flatMap_cons, List.flatMap_nil, List.append_nil]
    cases hfv : freeG_ p.gs us (z : Int) with
    | false =>
      have hFz : F (z : Int) = [] := by rw [hF]; show (if _ then _ else _) = _; rw [hfv]; rfl
      rw [hfv] at hfc
      (conv => whnf); repeat' ((first | apply CondA.plain | refine' go_pgF | fail) <;> (conv => whnf))
      apply DrawA.orders w9Sc (by kernel_rfl) (by kernel_rfl) (by kernel_rfl)
      (conv => whnf); repeat' ((first | (apply IdxA.at_ (f := pI) (z : Int) hc0 hg1) | apply CondA.plain | refine' go_pgF | (refine CallA.scalar (hfc) ?_)) <;> (conv => whnf))
      (refine' ⟨(c + 1, nb, A), _, _, _⟩; rotate_right; (refine SubA.auto rfl rfl rfl rfl ?_ ?_ <;> repeat' (first | exact trivial | refine And.intro ?_ ?_ | with_reducible rfl | (refine pIEq ?_; (first | omega | (simp only [lenS] at *; omega) | grind)) | (refine bufMap ?_) | (refine bufNil ?_) | (refine bufEq ?_) | rfl)); rotate_right; (first | omega | (simp only []; omega) | (simp; omega) | (first | omega | (simp only [lenS] at *; omega) | grind)))
      exact ⟨by omega, by rw [htk, hFz, List.append_nil]; exact hA⟩
    | true =>
      have hFz : F (z : Int) = writeF p.gs R (us ++ [(z : Int)]) (us.length + 1) := by rw [hF]; show (if _ then _ else _) = _; rw [hfv, if_pos rfl]
      rw [hfv] at hfc
      rw [hfv, if_pos rfl, Option.map_eq_none_iff] at hsg
      have hgl : (us ++ [(z : Int)]).length = us.length + 1 := by simp
      have IH2 := fun nb2 => IH nb2 nb (us ++ [(z : Int)]) A (by rw [List.length_append]; show us.length + 1 + k = _; omega) hr2 hAl (by rw [hgl, hR]; exact hsg)
      rw [hgl, hR, ← hFz] at IH2
      have hnx : (A ++ F z).take 4001 = ([] ++ (us.length : Int) :: (o.take (c + 1)).flatMap F).take 4001 := by
        rw [hA, take_app, htk]; simp
      obtain ⟨A2, hA2⟩ : ∃ A2, (A ++ F z).take 4001 = A2 := ⟨_, rfl⟩
      rw [hA2] at IH2 hnx
      (conv => whnf); repeat' ((first | apply CondA.plain | refine' go_pgF | fail) <;> (conv => whnf))
      apply DrawA.orders w9Sc (by kernel_rfl) (by kernel_rfl) (by kernel_rfl)
      (conv => whnf); repeat' ((first | (apply IdxA.at_ (f := pI) (z : Int) hc0 hg1) | apply CondA.plain | refine' go_pgF | (refine CallA.scalar (hfc) ?_)) <;> (conv => whnf))
      apply DrawA.orders w10Sc (by kernel_rfl) (by kernel_rfl) (by kernel_rfl)
      (conv => whnf); repeat' ((first | (apply IdxA.at_ (f := pI) (z : Int) hc0 hg1) | apply CondA.plain | refine' go_pgF | fail) <;> (conv => whnf))
      all_goals
        refine CallA.loc [0] [3] rfl rfl ((IH2 _).mono ?_)
        rintro _ _ ⟨b, n2, rfl, rfl⟩
        cases b
        · (conv => whnf); repeat' ((first | apply CondA.plain | refine' go_pgF | fail) <;> (conv => whnf))
          (refine' ⟨(c + 1, n2, A2), _, _, _⟩; rotate_right; (refine SubA.auto rfl rfl rfl rfl ?_ ?_ <;> repeat' (first | exact trivial | refine And.intro ?_ ?_ | with_reducible rfl | (refine pIEq ?_; (first | omega | (simp only [lenS] at *; omega) | grind)) | (refine bufMap ?_) | (refine bufNil ?_) | (refine bufEq ?_) | rfl)); rotate_right; (first | omega | (simp only []; omega) | (simp; omega) | (first | omega | (simp only [lenS] at *; omega) | grind)))
          exact ⟨by omega, hnx⟩
        · (conv => whnf); repeat' ((first | apply CondA.plain | refine' go_pgF | fail) <;> (conv => whnf))
          (refine' ⟨(c + 1, n2, A2), _, _, _⟩; rotate_right; (refine SubA.auto rfl rfl rfl rfl ?_ ?_ <;> repeat' (first | exact trivial | refine And.intro ?_ ?_ | with_reducible rfl | (refine pIEq ?_; (first | omega | (simp only [lenS] at *; omega) | grind)) | (refine bufMap ?_) | (refine bufNil ?_) | (refine bufEq ?_) | rfl)); rotate_right; (first | omega | (simp only []; omega) | (simp; omega) | (first | omega | (simp only [lenS] at *; omega) | grind)))
          exact ⟨by omega, hnx⟩
theorem rRefute_call (p : Pin) (nl nu : Bool) (l : List ByteArray) (us : List Int) : ACall Try.prog 13 [.p p.pv, .p (.list nl (l.map pS)), .p (.list nu (us.map pI))] [] (F2 (refF p l us).1 (refF p l us).2) := by
  refine acall_enter Try.func13 rfl rfl tabOK rfl ?_
  have hbc := rbad_call p nl nu l us
  rcases Decidable.em (badF p l us = 0) with he | he
  rotate_left
  · have e : refF p l us = ([], badF p l us) := by rw [refF, if_pos he]
    rw [e]
    obtain ⟨E, hE⟩ : ∃ E, badF p l us = E := ⟨_, rfl⟩
    rw [hE] at he hbc ⊢
    (conv => whnf); repeat' ((first | apply CondA.plain | refine' go_pgF | (apply DrawA.quiet (by kernel_rfl) (by kernel_rfl); (conv => whnf); fail_if_success (show False)) | (refine CallA.scalar (hbc) ?_)) <;> (conv => whnf))
    (refine' RetK.auto (.tup [.p (.list true []), .p (pI E)]) ([]) rfl rfl rfl rfl _ _ _ <;> repeat' (first | exact trivial | refine And.intro ?_ ?_ | with_reducible rfl | (refine pIEq ?_; (first | omega | (simp only [lenS] at *; omega) | grind)) | (refine bufMap ?_) | (refine bufNil ?_) | (refine bufEq ?_) | rfl))
    exact ⟨true, rfl⟩
  obtain ⟨hR, hfit⟩ := badF_ok he
  have hP := valid_of hR.1
  obtain ⟨hgl, hgr⟩ := fitsB_rng hfit
  have hl10 := hR.2.1
  have hs := rsearch_call hP nl l (l.length - us.length) nu us (by omega) hgr (by omega)
  have hw := fun h1 h => rwrite_nil hP nl l (by omega) (l.length - us.length - 1) nu us h1 hgr h
  rw [he] at hbc
  rw [refF, if_neg (by rw [he]; simp)]
  obtain ⟨S, hS⟩ : ∃ S, srch p.gs ((optsL p l).drop us.length) us = S := ⟨_, rfl⟩
  rw [hS] at hs hw ⊢
  obtain ⟨W, hW⟩ : ∃ W, writeF p.gs ((optsL p l).drop us.length) us us.length = W := ⟨_, rfl⟩
  rw [hW, List.nil_append] at hw
  rw [hW]
  (conv => whnf); repeat' ((first | apply CondA.plain | refine' go_pgF | (apply DrawA.quiet (by kernel_rfl) (by kernel_rfl); (conv => whnf); fail_if_success (show False)) | (refine CallA.scalar (hbc) ?_)) <;> (conv => whnf))
  refine CallA.loc [] [] rfl rfl (hs.mono ?_)
  rintro _ _ ⟨⟨n1, rfl⟩, rfl⟩
  cases S with
  | some x =>
    (conv => whnf); repeat' ((first | apply CondA.plain | refine' go_pgF | (apply DrawA.quiet (by kernel_rfl) (by kernel_rfl); (conv => whnf); fail_if_success (show False))) <;> (conv => whnf))
    (refine' RetK.auto (.tup [.p (.list true []), .p (pI 7)]) ([]) rfl rfl rfl rfl _ _ _ <;> repeat' (first | exact trivial | refine And.intro ?_ ?_ | with_reducible rfl | (refine pIEq ?_; (first | omega | (simp only [lenS] at *; omega) | grind)) | (refine bufMap ?_) | (refine bufNil ?_) | (refine bufEq ?_) | rfl))
    exact ⟨true, rfl⟩
  | none =>
    have hlt : us.length < l.length := by
      refine Nat.lt_of_not_le fun h => ?_
      rw [List.drop_of_length_le (by rw [opts_len]; omega)] at hS
      cases hS
    have hw := hw (by omega) rfl
    obtain ⟨V, hV⟩ : ∃ V, W.take 4001 = V := ⟨_, rfl⟩
    have hVl : V.length = min 4001 W.length := by rw [← hV, List.length_take]
    rw [hV] at hw
    (conv => whnf); repeat' ((first | apply CondA.plain | refine' go_pgF | (apply DrawA.quiet (by kernel_rfl) (by kernel_rfl); (conv => whnf); fail_if_success (show False))) <;> (conv => whnf))
    refine CallA.loc [] [] rfl rfl (hw.mono ?_)
    rintro _ _ ⟨n2, rfl, rfl⟩
    rw [if_neg (by simp)]
    rcases Nat.lt_or_ge 4000 W.length with hb | hb
    · rw [if_neg (by omega)]
      (conv => whnf); repeat' ((first | apply CondA.plain | refine' go_pgF | (apply DrawA.quiet (by kernel_rfl) (by kernel_rfl); (conv => whnf); fail_if_success (show False))) <;> (conv => whnf))
      (refine' RetK.auto (.tup [.p (.list true []), .p (pI 3)]) ([]) rfl rfl rfl rfl _ _ _ <;> repeat' (first | exact trivial | refine And.intro ?_ ?_ | with_reducible rfl | (refine pIEq ?_; (first | omega | (simp only [lenS] at *; omega) | grind)) | (refine bufMap ?_) | (refine bufNil ?_) | (refine bufEq ?_) | rfl))
      exact ⟨true, rfl⟩
    · have hVW : V = W := by rw [← hV, List.take_of_length_le (by omega)]
      rw [if_pos hb]
      subst hVW
      (conv => whnf); repeat' ((first | apply CondA.plain | refine' go_pgF | (apply DrawA.quiet (by kernel_rfl) (by kernel_rfl); (conv => whnf); fail_if_success (show False))) <;> (conv => whnf))
      (refine RetK.frz _ _ _ [1] ?_; refine' RetK.auto (.tup [.p (.list n2 (V.map pI)), .p (pI 0)]) ([]) rfl rfl rfl rfl _ _ _ <;> repeat' (first | exact trivial | refine And.intro ?_ ?_ | with_reducible rfl | (refine pIEq ?_; (first | omega | (simp only [lenS] at *; omega) | grind)) | (refine bufMap ?_) | (refine bufNil ?_) | (refine bufEq ?_) | rfl))
      all_goals first | exact ⟨n2, rfl⟩ | rfl
end Go.Proofs.Ytnogpkaehiapfaa
