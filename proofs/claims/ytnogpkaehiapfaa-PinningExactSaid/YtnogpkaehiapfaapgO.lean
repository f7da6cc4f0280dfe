/- Pinning: the reference's Size and Check. -/
import Derived.Test.YtnogpkaehiapfaapgF
import Derived.Test.YtnogpkaehiapfaapgK
namespace Go.Proofs.Ytnogpkaehiapfaa
set_option linter.unusedSimpArgs false
set_option linter.unusedVariables false
set_option linter.unnecessarySimpa false
open Go.Abs
set_option maxRecDepth 100000
def z4Sc : Sc := (.frz 0 (.take 1 (.take 2 (.take 3 (.take 4 (.load 5 (.one 6 (.take 7 .done))))))))
def z8Sc : Sc := (.frz 0 (.take 1 (.take 2 (.take 3 (.take 4 (.load 5 (.one 6 .done)))))))
def z9SC0 : Sc := (.one 8 (.one 9 (.one 11 (.take 12 .done))))
def z9SC1 : Sc := (.one 3 (.one 9 (.one 11 (.take 12 .done))))
def z9Sc : Sc := (.frz 0 (.take 1 (.take 2 (.take 4 (.take 5 (.take 6 (.load 7 (.take 10 (.two 3 8 z9SC0 z9SC1)))))))))
/-- Kept for later: a goal of a walk's step. -/
theorem park_pgO {P : Prop} (x : P) (_ : x = x) : P := x
/-- One step of a walk. -/
theorem go_pgO {P : Prop} (h : P := by
  (first | ((first | apply LenA.map | apply NilA.map | apply NilA.mk); intro _) | ((first | apply NW.as | apply ValA.as); with_reducible assumption) | ((first | apply NW.i64 | apply NW.u32 | apply NW.u64 | apply NW.u8 | apply InA.nat | apply InA.map | apply AppA.snoc (f := pI) (a := _) rfl | apply AppA.one (f := pI) (a := _) rfl | apply AppA.snoc (f := pB) (a := _) rfl | apply AppA.one (f := pB) (a := _) rfl | apply AppA.snoc (f := pS) (a := _) rfl | apply AppA.one (f := pS) (a := _) rfl | apply AppA.map | apply AppA.nil | apply CutA.lo | apply CutA.hi); (first | omega | (simp only [lenS] at *; omega) | grind)) | ((first | (apply RemA.as; assumption) | apply RemA.self); (first | omega | (simp only [lenS] at *; omega) | grind)) | (apply ValA.as; assumption) | apply ValA.self | (apply NW.as; assumption) | (apply SzA.map; (intro _; rfl)) | with_reducible apply br_pt | with_reducible apply br_pf | with_reducible apply br_mt | with_reducible apply br_mf | apply Both.mk | ((first | apply br_T | apply br_F | apply br_mT | apply br_mF); assumption) | ((first | apply br_lss | apply br_leq | apply br_gtr | apply br_geq | apply br_dec | apply br_beq | apply br_bne | apply br_beqB | apply br_bneB | apply br_not | apply br_m | apply br_intro) <;> intro h0 <;> first | (exfalso; first | omega | exact tf h0 (by assumption) | exact tf (by assumption) h0 | exact h0 (by assumption) | exact h0 rfl | exact of_decide_eq_false h0 rfl) | skip) | refine ArrA.mk _ rfl rfl ?_ | (apply IdxA.lit; omega; exact rfl) | ((first | apply IdxA.of_nat | (apply IdxA.of_map; (first | omega | (simp only [lenS] at *; omega) | grind))); rotate_left; (first | omega | (simp only [lenS] at *; omega) | grind)) | apply AppC.own | apply CutO.part | apply IsL.set (f := pI) (a := _) rfl | apply IsL.rep (f := pI) (a := _) rfl | apply IsL.set (f := pB) (a := _) rfl | apply IsL.rep (f := pB) (a := _) rfl | apply IsL.set (f := pS) (a := _) rfl | apply IsL.rep (f := pS) (a := _) rfl | apply IsL.lit (f := pI) [] rfl | apply IsL.lit (f := pI) [_] rfl | apply IsL.lit (f := pB) [] rfl | apply IsL.lit (f := pB) [_] rfl | apply IsL.lit (f := pS) [] rfl | apply IsL.lit (f := pS) [_] rfl | (apply And.intro; (first | with_reducible rfl | (show (_ : AV) = _; rfl) | (first | omega | (simp only [lenS] at *; omega) | grind)))) <;> (solve_by_elim (newGoals := .nonDependentOnly) (symm := false) (exfalso := false) (transparency := .reducible) only [rfl, park_pgO])) : P := h
set_option maxHeartbeats 8000000 in
theorem rsize_call {p : Pin} (hP : VP p) (nl : Bool) (l : List ByteArray) (hll : l.length ≤ 1000) : ∀ (k : Nat) (nu : Bool) (us : List Int) (n : Nat), us.length + k = l.length → (∀ u ∈ us, 0 ≤ u ∧ u < p.gs.length) → n ≤ 4001 →
    ACall Try.prog 58 [.p p.pv, .p (.list nl (l.map pS)), .p (.list nu (us.map pI)), .p (pI n)] [] fun r H => r = .p (pI ((min (n + (writeF p.gs ((optsL p l).drop us.length) us us.length).length) 4001 : Nat) : Int)) ∧ H = []
  | 0, nu, us, n, hk, hr, hn => by
    refine acall_enter Try.func58 rfl rfl tabOK rfl ?_
    have e : writeF p.gs ((optsL p l).drop us.length) us us.length = [] := by rw [List.drop_of_length_le (by rw [opts_len]; omega)]; rfl
    have e2 : min (n + ([] : List Int).length) 4001 = n := by show min (n + 0) 4001 = n; omega
    rw [e, e2]
    (conv => whnf); repeat' ((first | apply CondA.plain | refine' go_pgO | (apply DrawA.quiet (by kernel_rfl) (by kernel_rfl); (conv => whnf); fail_if_success (show False))) <;> (conv => whnf))
    (refine' RetK.auto (.p (pI n)) ([]) rfl rfl rfl rfl _ _ _ <;> repeat' (first | exact trivial | refine And.intro ?_ ?_ | with_reducible rfl | (refine pIEq ?_; (first | omega | (simp only [lenS] at *; omega) | grind)) | (refine bufMap ?_) | (refine bufNil ?_) | (refine bufEq ?_) | rfl))
  | k + 1, nu, us, n, hk, hr, hn => by
    have IH := rsize_call hP nl l hll k
    refine acall_enter Try.func58 rfl rfl tabOK rfl ?_
    have hlt : us.length < l.length := by omega
    obtain ⟨W, hW⟩ : ∃ W, writeF p.gs ((optsL p l).drop us.length) us us.length = W := ⟨_, rfl⟩
    rw [hW]
    rcases Nat.lt_or_ge 4000 n with hbig | hsm
    · have e : min (n + W.length) 4001 = n := by omega
      rw [e]
      (conv => whnf); repeat' ((first | apply CondA.plain | refine' go_pgO | (apply DrawA.quiet (by kernel_rfl) (by kernel_rfl); (conv => whnf); fail_if_success (show False))) <;> (conv => whnf))
      (refine' RetK.auto (.p (pI n)) ([]) rfl rfl rfl rfl _ _ _ <;> repeat' (first | exact trivial | refine And.intro ?_ ?_ | with_reducible rfl | (refine pIEq ?_; (first | omega | (simp only [lenS] at *; omega) | grind)) | (refine bufMap ?_) | (refine bufNil ?_) | (refine bufEq ?_) | rfl))
    obtain ⟨f, hf⟩ : ∃ f, l[us.length] = f := ⟨_, rfl⟩
    have hf1 : l[((us.length : Nat) : Int).toNat]? = some f := by rw [Int.toNat_natCast, List.getElem?_eq_getElem hlt, hf]
    have hopt : (optsL p l).drop us.length = offersF p f :: (optsL p l).drop (us.length + 1) := by
      rw [List.drop_eq_getElem_cons (by rw [opts_len]; exact hlt), optsL_at hlt, hf]
    have hor : ∀ g ∈ offersF p f, 0 ≤ g ∧ g < p.gs.length := fun g hg => offersF_in hg
    rw [hopt, writeF] at hW
    obtain ⟨R, hR⟩ : ∃ R, (optsL p l).drop (us.length + 1) = R := ⟨_, rfl⟩
    rw [hR] at hW
    have hoff := roffers_call hP f
    obtain ⟨o, ho⟩ : ∃ o, offersF p f = o := ⟨_, rfl⟩
    rw [ho] at hor hoff hW
    obtain ⟨F, hF⟩ : ∃ F : Int → List Int, F = fun g => if freeG_ p.gs us g then writeF p.gs R (us ++ [g]) (us.length + 1) else [] := ⟨_, rfl⟩
    rw [← hF] at hW
    have hWl : W.length = (o.flatMap F).length + 1 := by rw [← hW]; rfl
    rw [hWl]
    (conv => whnf); repeat' ((first | apply CondA.plain | refine' go_pgO | fail) <;> (conv => whnf))
    refine DrawA.retire 4 0 [pI p.n, .list p.nl (p.gs.map Grp.pv)] rfl rfl ?_
    apply DrawA.orders z4Sc (by kernel_rfl) (by kernel_rfl) (by kernel_rfl)
    (conv => whnf); repeat' ((first | (apply IdxA.at_ (f := pS) f (Int.natCast_nonneg us.length) hf1) | apply CondA.plain | refine' go_pgO | ((refine CallA.fresh _ hoff ?_; rintro _ ⟨n1, rfl⟩))) <;> (conv => whnf))
    refine loop_rule (fun (⟨c, A⟩ : Nat × Nat) => ⟨[(1, .p (.list nl (l.map pS))), (2, .p (.list nu (us.map pI))), (3, .p (pI A)), (4, .rptr [pI p.n, .list p.nl (p.gs.map Grp.pv)]), (9, .p (.list n1 (o.map pI))), (10, .p (pI c))], []⟩) (fun (⟨c, A⟩ : Nat × Nat) => c ≤ o.length ∧ A = min (n + (((o.take c).flatMap F).length + 1)) 4001) (fun (⟨c, A⟩ : Nat × Nat) => o.length - c) (0, n + 1) ?_ ?_ ?_; (refine SubA.auto rfl rfl rfl rfl ?_ ?_ <;> repeat' (first | exact trivial | refine And.intro ?_ ?_ | with_reducible rfl | (refine pIEq ?_; (first | omega | (simp only [lenS] at *; omega) | grind)) | (refine bufMap ?_) | (refine bufNil ?_) | (refine bufEq ?_) | rfl))
    · exact ⟨Nat.zero_le _, by show n + 1 = min (n + (0 + 1)) 4001; omega⟩
    rintro ⟨c, A⟩ ⟨hc, hA⟩
    have hAl : A ≤ 4001 := by omega
    rcases Nat.lt_or_ge c o.length with hl2 | hge
    rotate_left
    · rw [List.take_of_length_le hge] at hA
      rw [← hA]
      (conv => whnf); repeat' ((first | apply CondA.plain | refine' go_pgO | fail) <;> (conv => whnf))
      (refine' RetK.auto (.p (pI A)) ([]) rfl rfl rfl rfl _ _ _ <;> repeat' (first | exact trivial | refine And.intro ?_ ?_ | with_reducible rfl | (refine pIEq ?_; (first | omega | (simp only [lenS] at *; omega) | grind)) | (refine bufMap ?_) | (refine bufNil ?_) | (refine bufEq ?_) | rfl))
    obtain ⟨g, hg⟩ : ∃ g, o[c] = g := ⟨_, rfl⟩
    have hg1 : o[((c : Nat) : Int).toNat]? = some g := by rw [Int.toNat_natCast, List.getElem?_eq_getElem hl2, hg]
    have hc0 := Int.natCast_nonneg c
    have hgm : g ∈ o := by rw [← hg]; exact List.getElem_mem _
    have hgr := hor g hgm
    obtain ⟨z, rfl⟩ : ∃ z : Nat, g = z := ⟨g.toNat, by omega⟩
    have hzl : z < p.gs.length := by omega
    have hfc := rfree_call hP nu us z (fun u hu => (hr u hu).2) hzl
    rw [freeN_eq fun u hu => (hr u hu).1] at hfc
    have hr2 : ∀ y ∈ us ++ [(z : Int)], 0 ≤ y ∧ y < p.gs.length := fun y hy => by
      rcases List.mem_append.1 hy with hy | hy
      · exact hr y hy
      · rw [List.mem_singleton.1 hy]; exact hgr
    have htk : ((o.take (c + 1)).flatMap F).length = ((o.take c).flatMap F).length + (F z).length := by
      rw [List.take_succ_eq_append_getElem hl2, List.flatMap_append, hg]
      simp only [List.flatMap_cons, List.flatMap_nil, List.append_nil, List.length_append]
    cases hfv : freeG_ p.gs us (z : Int) with
    | false =>
      have hFz : F (z : Int) = [] := by rw [hF]; show (if _ then _ else _) = _; rw [hfv]; rfl
      rw [hfv] at hfc
      rw [hFz] at htk
      have htk : ((o.take (c + 1)).flatMap F).length = ((o.take c).flatMap F).length := htk
      (conv => whnf); repeat' ((first | apply CondA.plain | refine' go_pgO | fail) <;> (conv => whnf))
      apply DrawA.orders z8Sc (by kernel_rfl) (by kernel_rfl) (by kernel_rfl)
      (conv => whnf); repeat' ((first | (apply IdxA.at_ (f := pI) (z : Int) hc0 hg1) | apply CondA.plain | refine' go_pgO | (refine CallA.scalar (hfc) ?_)) <;> (conv => whnf))
      (refine' ⟨(c + 1, A), _, _, _⟩; rotate_right; (refine SubA.auto rfl rfl rfl rfl ?_ ?_ <;> repeat' (first | exact trivial | refine And.intro ?_ ?_ | with_reducible rfl | (refine pIEq ?_; (first | omega | (simp only [lenS] at *; omega) | grind)) | (refine bufMap ?_) | (refine bufNil ?_) | (refine bufEq ?_) | rfl)); rotate_right; (first | omega | (simp only []; omega) | (simp; omega) | (first | omega | (simp only [lenS] at *; omega) | grind)))
      exact ⟨by omega, by rw [htk]; exact hA⟩
    | true =>
      have hFz : F (z : Int) = writeF p.gs R (us ++ [(z : Int)]) (us.length + 1) := by rw [hF]; show (if _ then _ else _) = _; rw [hfv, if_pos rfl]
      rw [hfv] at hfc
      have hgl : (us ++ [(z : Int)]).length = us.length + 1 := by simp
      have IH2 := fun nb2 => IH nb2 (us ++ [(z : Int)]) A (by rw [List.length_append]; show us.length + 1 + k = _; omega) hr2 hAl
      rw [hgl, hR, ← hFz] at IH2
      (conv => whnf); repeat' ((first | apply CondA.plain | refine' go_pgO | fail) <;> (conv => whnf))
      apply DrawA.orders z8Sc (by kernel_rfl) (by kernel_rfl) (by kernel_rfl)
      (conv => whnf); repeat' ((first | (apply IdxA.at_ (f := pI) (z : Int) hc0 hg1) | apply CondA.plain | refine' go_pgO | (refine CallA.scalar (hfc) ?_)) <;> (conv => whnf))
      apply DrawA.orders z9Sc (by kernel_rfl) (by kernel_rfl) (by kernel_rfl)
      (conv => whnf); repeat' ((first | (apply IdxA.at_ (f := pI) (z : Int) hc0 hg1) | apply CondA.plain | refine' go_pgO | fail) <;> (conv => whnf))
      all_goals
        refine CallA.loc [] [2] rfl rfl ((IH2 _).mono ?_)
        rintro _ _ ⟨rfl, rfl⟩
        (conv => whnf); repeat' ((first | apply CondA.plain | refine' go_pgO | fail) <;> (conv => whnf))
        (refine' ⟨(c + 1, min (A + (F z).length) 4001), _, _, _⟩; rotate_right; (refine SubA.auto rfl rfl rfl rfl ?_ ?_ <;> repeat' (first | exact trivial | refine And.intro ?_ ?_ | with_reducible rfl | (refine pIEq ?_; (first | omega | (simp only [lenS] at *; omega) | grind)) | (refine bufMap ?_) | (refine bufNil ?_) | (refine bufEq ?_) | rfl)); rotate_right; (first | omega | (simp only []; omega) | (simp; omega) | (first | omega | (simp only [lenS] at *; omega) | grind)))
        exact ⟨by omega, by omega⟩
theorem rSize_call (p : Pin) (nl nu : Bool) (l : List ByteArray) (us : List Int) : ACall Try.prog 30 [.p p.pv, .p (.list nl (l.map pS)), .p (.list nu (us.map pI))] [] fun r H => r = .tup [.p (pI (sizeF p l us).1), .p (pI (sizeF p l us).2)] ∧ H = [] := by
  refine acall_enter Try.func30 rfl rfl tabOK rfl ?_
  have hbc := rbad_call p nl nu l us
  rcases Decidable.em (badF p l us = 0) with he | he
  rotate_left
  · have e : sizeF p l us = (0, badF p l us) := by rw [sizeF, if_pos he]
    rw [e]
    obtain ⟨E, hE⟩ : ∃ E, badF p l us = E := ⟨_, rfl⟩
    rw [hE] at he hbc ⊢
    (conv => whnf); repeat' ((first | apply CondA.plain | refine' go_pgO | (apply DrawA.quiet (by kernel_rfl) (by kernel_rfl); (conv => whnf); fail_if_success (show False)) | (refine CallA.scalar (hbc) ?_)) <;> (conv => whnf))
    (refine' RetK.auto (.tup [.p (pI 0), .p (pI E)]) ([]) rfl rfl rfl rfl _ _ _ <;> repeat' (first | exact trivial | refine And.intro ?_ ?_ | with_reducible rfl | (refine pIEq ?_; (first | omega | (simp only [lenS] at *; omega) | grind)) | (refine bufMap ?_) | (refine bufNil ?_) | (refine bufEq ?_) | rfl))
  obtain ⟨hR, hfit⟩ := badF_ok he
  have hP := valid_of hR.1
  obtain ⟨hgl, hgr⟩ := fitsB_rng hfit
  have hl10 := hR.2.1
  have hs := rsize_call hP nl l (by omega) (l.length - us.length) nu us 0 (by omega) hgr (by omega)
  rw [he] at hbc
  rw [sizeF, if_neg (by rw [he]; simp)]
  rw [Nat.zero_add] at hs
  obtain ⟨N, hN⟩ : ∃ N, min (writeF p.gs ((optsL p l).drop us.length) us us.length).length 4001 = N := ⟨_, rfl⟩
  have hNl : N ≤ 4001 := by omega
  rw [hN] at hs ⊢
  (conv => whnf); repeat' ((first | apply CondA.plain | refine' go_pgO | (apply DrawA.quiet (by kernel_rfl) (by kernel_rfl); (conv => whnf); fail_if_success (show False)) | (refine CallA.scalar (hbc) ?_) | (refine CallA.scalar (hs) ?_)) <;> (conv => whnf))
  (refine' RetK.auto (.tup [.p (pI (if (4001 : Int) < (N : Int) then 4001 else (N : Int))), .p (pI 0)]) ([]) rfl rfl rfl rfl _ _ _ <;> repeat' (first | exact trivial | refine And.intro ?_ ?_ | with_reducible rfl | (refine pIEq ?_; (first | omega | (simp only [lenS] at *; omega) | grind)) | (refine bufMap ?_) | (refine bufNil ?_) | (refine bufEq ?_) | rfl))
  rw [if_neg (by omega)]
end Go.Proofs.Ytnogpkaehiapfaa
