/- Pinning: Refute. -/
import Derived.Test.Ytnogpkaehiapfaapg7
namespace Go.Proofs.Ytnogpkaehiapfaa
set_option linter.unusedSimpArgs false
set_option linter.unusedVariables false
set_option linter.unnecessarySimpa false
open Go.Abs
set_option maxRecDepth 100000
def WN (nb : Bool) (acc : List Int) : AH := [some (.cells [.buf 1]), some (AO.buf 3 nb (acc.map pI))]
/-- Kept for later: a goal of a walk's step. -/
theorem park_pg8 {P : Prop} (x : P) (_ : x = x) : P := x
/-- One step of a walk. -/
theorem go_pg8 {P : Prop} (h : P := by
  (first | ((first | apply LenA.map | apply NilA.map | apply NilA.mk); intro _) | ((first | apply NW.as | apply ValA.as); with_reducible assumption) | ((first | apply NW.i64 | apply NW.u32 | apply NW.u64 | apply NW.u8 | apply InA.nat | apply InA.map | apply AppA.snoc (f := pI) (a := _) rfl | apply AppA.one (f := pI) (a := _) rfl | apply AppA.snoc (f := pB) (a := _) rfl | apply AppA.one (f := pB) (a := _) rfl | apply AppA.snoc (f := pU) (a := _) rfl | apply AppA.one (f := pU) (a := _) rfl | apply AppA.snoc (f := fI) (a := _) rfl | apply AppA.one (f := fI) (a := _) rfl | apply AppA.map | apply AppA.nil | apply CutA.lo | apply CutA.hi); (first | omega | (simp only [lenS] at *; omega) | grind)) | ((first | (apply RemA.as; assumption) | apply RemA.self); (first | omega | (simp only [lenS] at *; omega) | grind)) | (apply ValA.as; assumption) | apply ValA.self | (apply NW.as; assumption) | (apply SzA.map; (intro _; rfl)) | with_reducible apply br_pt | with_reducible apply br_pf | with_reducible apply br_mt | with_reducible apply br_mf | apply Both.mk | ((first | apply br_T | apply br_F | apply br_mT | apply br_mF); assumption) | ((first | apply br_lss | apply br_leq | apply br_gtr | apply br_geq | apply br_dec | apply br_beq | apply br_bne | apply br_beqB | apply br_bneB | apply br_not | apply br_m | apply br_intro) <;> intro h0 <;> first | (exfalso; first | omega | exact tf h0 (by assumption) | exact tf (by assumption) h0 | exact h0 (by assumption) | exact h0 rfl | exact of_decide_eq_false h0 rfl) | skip) | refine ArrA.mk _ rfl rfl ?_ | (apply IdxA.lit; omega; exact rfl) | ((first | apply IdxA.of_nat | (apply IdxA.of_map; (first | omega | (simp only [lenS] at *; omega) | grind))); rotate_left; (first | omega | (simp only [lenS] at *; omega) | grind)) | apply AppC.own | apply CutO.part | apply IsL.set (f := pI) (a := _) rfl | apply IsL.rep (f := pI) (a := _) rfl | apply IsL.set (f := pB) (a := _) rfl | apply IsL.rep (f := pB) (a := _) rfl | apply IsL.set (f := pU) (a := _) rfl | apply IsL.rep (f := pU) (a := _) rfl | apply IsL.set (f := fI) (a := _) rfl | apply IsL.rep (f := fI) (a := _) rfl | apply IsL.lit (f := pI) [] rfl | apply IsL.lit (f := pI) [_] rfl | apply IsL.lit (f := pB) [] rfl | apply IsL.lit (f := pB) [_] rfl | apply IsL.lit (f := pU) [] rfl | apply IsL.lit (f := pU) [_] rfl | apply IsL.lit (f := fI) [] rfl | apply IsL.lit (f := fI) [_] rfl | (apply And.intro; (first | with_reducible rfl | (show (_ : AV) = _; rfl) | (first | omega | (simp only [lenS] at *; omega) | grind)))) <;> (solve_by_elim (newGoals := .nonDependentOnly) (symm := false) (exfalso := false) (transparency := .reducible) only [rfl, park_pg8])) : P := h
set_option maxHeartbeats 16000000 in
theorem walk_nil {p : Pin} (hP : VP p) (on mn gn : Bool) (os : List (Bool × List Int)) (given : List Int) (t0 : Nat)
    (hos : ∀ x ∈ os, ∀ g ∈ x.2, 0 ≤ g ∧ g < p.gs.length) (hol : os.length ≤ 10) (k : Nat) (us : List Int) (t : Nat) (hlt : k < os.length) (hr : ∀ g ∈ us, 0 ≤ g ∧ g < p.gs.length) (ht : t = takenN p.gs us) :
    ACall Try.prog 47 [.p (probV on os mn (masksG p.gs) gn given t0), .p (pI k), .p (pU t), .clo (.func 48) [.ptr 0 0]] [some (.cells [.p (.list true [])])] fun r H =>
      r = .p (pB (decide ((writeF p.gs ((os.map (·.2)).drop k) us k).length ≤ 4000))) ∧ ∃ nb', H = WN nb' ((writeF p.gs ((os.map (·.2)).drop k) us k).take 4001) := by
  have IH := pWalk_call hP on mn gn os given t0 hos hol (os.length - (k + 1)) (k + 1)
  refine acall_enter Try.func47 rfl rfl tabOK rfl ?_
  obtain ⟨⟨ob, o⟩, ho⟩ : ∃ o, os[k] = o := ⟨_, rfl⟩
  have ho1 : os[((k : Nat) : Int).toNat]? = some (ob, o) := by rw [Int.toNat_natCast, List.getElem?_eq_getElem hlt, ho]
  have hor := hos (ob, o) (by rw [← ho]; exact List.getElem_mem _)
  have hopt : (os.map (·.2)).drop k = o :: (os.map (·.2)).drop (k + 1) := by
    rw [List.drop_eq_getElem_cons (by rw [List.length_map]; exact hlt), List.getElem_map, ho]
  rw [hopt, writeF]
  obtain ⟨R, hR⟩ : ∃ R, (os.map (·.2)).drop (k + 1) = R := ⟨_, rfl⟩
  rw [hR]
  obtain ⟨F, hF⟩ : ∃ F : Int → List Int, F = fun g => if freeG_ p.gs us g then writeF p.gs R (us ++ [g]) (k + 1) else [] := ⟨_, rfl⟩
  rw [← hF]
  (conv => whnf); repeat' ((first | apply CondA.plain | refine' go_pg8 | fail) <;> (conv => whnf))
  refine CallA.loc [0] [] rfl rfl ((visit_nil (k : Int)).mono ?_)
  rintro _ _ ⟨rfl, rfl⟩
  (conv => whnf); repeat' ((first | (apply IdxA.at_ (f := fI) (ob, o) (Int.natCast_nonneg k) ho1) | apply CondA.plain | refine' go_pg8 | fail) <;> (conv => whnf))
  refine loop_rule (fun (⟨c, nb, A⟩ : Nat × Bool × List Int) => ⟨[(1, .p (pI k)), (2, .p (pU t)), (3, .clo (.func 48) [.ptr 0 0]), (4, .ptr 2 0), (24, .p (fI (ob, o))), (25, .p (pI o.length)), (26, .p (pI c))], WN nb A ++ [some (.cells [.p (.list on (os.map fI)), .p (.list mn ((masksG p.gs).map pU)), .p (.list gn (given.map pI)), .p (pU t0)])]⟩) (fun (⟨c, nb, A⟩ : Nat × Bool × List Int) => c ≤ o.length ∧ A = (k : Int) :: (o.take c).flatMap F ∧ A.length ≤ 4000) (fun (⟨c, nb, A⟩ : Nat × Bool × List Int) => o.length - c) (0, false, [(k : Int)]) ?_ ?_ ?_; (refine SubA.auto rfl rfl rfl rfl ?_ ?_ <;> repeat' (first | exact trivial | refine And.intro ?_ ?_ | with_reducible rfl | (refine pIEq ?_; (first | omega | (simp only [lenS] at *; omega) | grind)) | (refine bufMap ?_) | (refine bufNil ?_) | (refine bufEq ?_) | rfl))
  · exact ⟨Nat.zero_le _, by simp, by simp⟩
  rintro ⟨c, nb, A⟩ ⟨hc, hA, hAl⟩
  rcases Nat.lt_or_ge c o.length with hl2 | hge
  rotate_left
  · rw [List.take_of_length_le hge] at hA
    rw [← hA, decide_eq_true hAl, List.take_of_length_le (by omega)]
    (conv => whnf); repeat' ((first | apply CondA.plain | refine' go_pg8 | fail) <;> (conv => whnf))
    refine' RetK.mk _ _ _ [1] (.p (pB true)) (WN nb A) rfl rfl _ rfl rfl ⟨rfl, nb, rfl⟩
    (repeat' (first | exact trivial | refine And.intro ?_ ?_ | with_reducible rfl | (refine pIEq ?_; (first | omega | (simp only [lenS] at *; omega) | grind)) | (refine bufMap ?_) | (refine bufNil ?_) | (refine bufEq ?_) | rfl))
  obtain ⟨g, hg⟩ : ∃ g, o[c] = g := ⟨_, rfl⟩
  have hg1 : o[((c : Nat) : Int).toNat]? = some g := by rw [Int.toNat_natCast, List.getElem?_eq_getElem hl2, hg]
  have hgr := hor g (by show g ∈ o; rw [← hg]; exact List.getElem_mem _)
  obtain ⟨z, rfl⟩ : ∃ z : Nat, g = z := ⟨g.toNat, by omega⟩
  have hzl : z < p.gs.length := by omega
  have hm1 := masksG_at hzl
  have htl := takenN_lt hP hr
  have hmkl := maskN_lt (pins_rng hP hgr.1 hgr.2)
  have hta := taken_and hP hr hgr.1 hgr.2
  rw [← ht] at htl hta
  have hsn := takenN_snoc p.gs us z
  rw [← ht] at hsn
  have hr2 : ∀ y ∈ us ++ [(z : Int)], 0 ≤ y ∧ y < p.gs.length := fun y hy => by
    rcases List.mem_append.1 hy with hy | hy
    · exact hr y hy
    · rw [List.mem_singleton.1 hy]; exact hgr
  obtain ⟨mk, hmk⟩ : ∃ mk, maskN (pinsOf p.gs z) = mk := ⟨_, rfl⟩
  rw [hmk] at hm1 hmkl hta hsn
  have ha := and64u htl hmkl
  have ho2 := or64u htl hmkl
  have htk : (o.take (c + 1)).flatMap F = (o.take c).flatMap F ++ F z := by
    rw [List.take_succ_eq_append_getElem hl2, List.flatMap_append, hg]
    simp only [List.flatMap_cons, List.flatMap_nil, List.append_nil]
  have htot : (k : Int) :: o.flatMap F = A ++ (F z ++ (o.drop (c + 1)).flatMap F) := by
    have h1 : o.flatMap F = (o.take c).flatMap F ++ (F z ++ (o.drop (c + 1)).flatMap F) := by
      rw [← List.append_assoc, ← htk, ← List.flatMap_append, List.take_append_drop]
    rw [hA, h1]; simp
  obtain ⟨w, hw⟩ : ∃ w, t &&& mk = w := ⟨_, rfl⟩
  rw [hw] at ha hta
  rcases Decidable.em (w = 0) with hw0 | hw0
  rotate_left
  · rw [decide_eq_false hw0] at hta
    have hFz : F (z : Int) = [] := by rw [hF]; show (if _ then _ else _) = _; rw [← hta]; rfl
    (conv => whnf); repeat' ((first | (apply IdxA.at_ (f := pI) (z : Int) (Int.natCast_nonneg c) hg1) | apply CondA.plain | refine' go_pg8 | fail) <;> (conv => whnf))
    apply DrawA.tail 20 (by kernel_rfl) (by kernel_rfl)
    (conv => whnf); repeat' ((first | (apply IdxA.at_ (f := pU) mk (Int.natCast_nonneg z) hm1) | apply CondA.plain | refine' go_pg8 | fail) <;> (conv => whnf))
    (refine' ⟨(c + 1, nb, A), _, _, _⟩; rotate_right; (refine SubA.auto rfl rfl rfl rfl ?_ ?_ <;> repeat' (first | exact trivial | refine And.intro ?_ ?_ | with_reducible rfl | (refine pIEq ?_; (first | omega | (simp only [lenS] at *; omega) | grind)) | (refine bufMap ?_) | (refine bufNil ?_) | (refine bufEq ?_) | rfl)); rotate_right; (first | omega | (simp only []; omega) | (simp; omega) | (first | omega | (simp only [lenS] at *; omega) | grind)))
    exact ⟨by omega, by rw [htk, hFz, List.append_nil]; exact hA, hAl⟩
  subst hw0
  rw [decide_eq_true rfl] at hta
  have hFz : F (z : Int) = writeF p.gs R (us ++ [(z : Int)]) (k + 1) := by rw [hF]; show (if _ then _ else _) = _; rw [← hta, if_pos rfl]
  have IH2 := IH nb A (us ++ [(z : Int)]) (t ||| mk) (by omega) hAl hr2 hsn.symm
  rw [hR, ← hFz] at IH2
  (conv => whnf); repeat' ((first | (apply IdxA.at_ (f := pI) (z : Int) (Int.natCast_nonneg c) hg1) | apply CondA.plain | refine' go_pg8 | fail) <;> (conv => whnf))
  apply DrawA.tail 20 (by kernel_rfl) (by kernel_rfl)
  (conv => whnf); repeat' ((first | (apply IdxA.at_ (f := pU) mk (Int.natCast_nonneg z) hm1) | apply CondA.plain | refine' go_pg8 | fail) <;> (conv => whnf))
  refine CallA.loc [0, 1] [] rfl rfl (IH2.mono ?_)
  rintro _ _ ⟨rfl, b', nb', rfl⟩
  rcases Decidable.em ((A ++ F z).length ≤ 4000) with hle | hle
  · rw [decide_eq_true hle, List.take_of_length_le (by omega)]
    cases b'
    · (conv => whnf); repeat' ((first | apply CondA.plain | refine' go_pg8 | fail) <;> (conv => whnf))
      (refine' ⟨(c + 1, nb', A ++ F z), _, _, _⟩; rotate_right; (refine SubA.auto rfl rfl rfl rfl ?_ ?_ <;> repeat' (first | exact trivial | refine And.intro ?_ ?_ | with_reducible rfl | (refine pIEq ?_; (first | omega | (simp only [lenS] at *; omega) | grind)) | (refine bufMap ?_) | (refine bufNil ?_) | (refine bufEq ?_) | rfl)); rotate_right; (first | omega | (simp only []; omega) | (simp; omega) | (first | omega | (simp only [lenS] at *; omega) | grind)))
      exact ⟨by omega, by rw [htk, hA]; simp, hle⟩
    · (conv => whnf); repeat' ((first | apply CondA.plain | refine' go_pg8 | fail) <;> (conv => whnf))
      (refine' ⟨(c + 1, nb', A ++ F z), _, _, _⟩; rotate_right; (refine SubA.auto rfl rfl rfl rfl ?_ ?_ <;> repeat' (first | exact trivial | refine And.intro ?_ ?_ | with_reducible rfl | (refine pIEq ?_; (first | omega | (simp only [lenS] at *; omega) | grind)) | (refine bufMap ?_) | (refine bufNil ?_) | (refine bufEq ?_) | rfl)); rotate_right; (first | omega | (simp only []; omega) | (simp; omega) | (first | omega | (simp only [lenS] at *; omega) | grind)))
      exact ⟨by omega, by rw [htk, hA]; simp, hle⟩
  · have e1 : ((k : Int) :: o.flatMap F).take 4001 = (A ++ F z).take 4001 := by rw [htot, take_full (by omega)]
    have e2 : ¬ ((k : Int) :: o.flatMap F).length ≤ 4000 := by
      rw [htot, ← List.append_assoc, List.length_append]; omega
    rw [e1, decide_eq_false e2, decide_eq_false hle]
    cases b'
    · (conv => whnf); repeat' ((first | apply CondA.plain | refine' go_pg8 | fail) <;> (conv => whnf))
      refine' RetK.mk _ _ _ [1] (.p (pB false)) (WN nb' ((A ++ F z).take 4001)) rfl rfl _ rfl rfl ⟨rfl, nb', rfl⟩
      (repeat' (first | exact trivial | refine And.intro ?_ ?_ | with_reducible rfl | (refine pIEq ?_; (first | omega | (simp only [lenS] at *; omega) | grind)) | (refine bufMap ?_) | (refine bufNil ?_) | (refine bufEq ?_) | rfl))
    · (conv => whnf); repeat' ((first | apply CondA.plain | refine' go_pg8 | fail) <;> (conv => whnf))
      refine' RetK.mk _ _ _ [3] (.p (pB false)) (WN nb' ((A ++ F z).take 4001)) rfl rfl _ rfl rfl ⟨rfl, nb', rfl⟩
      (repeat' (first | exact trivial | refine And.intro ?_ ?_ | with_reducible rfl | (refine pIEq ?_; (first | omega | (simp only [lenS] at *; omega) | grind)) | (refine bufMap ?_) | (refine bufNil ?_) | (refine bufEq ?_) | rfl))

/-- What Refute answers. -/
def refF (p : Pin) (l : List ByteArray) (given : List Int) : List Int × Int := if badF p l given ≠ 0 then ([], badF p l given) else if (srch p.gs ((optsL p l).drop given.length) given).isSome then ([], 7) else
  if (writeF p.gs ((optsL p l).drop given.length) given given.length).length ≤ 4000 then (writeF p.gs ((optsL p l).drop given.length) given given.length, 0) else ([], 3)
set_option maxHeartbeats 8000000 in
theorem Refute_call (p : Pin) (nl gn : Bool) (l : List ByteArray) (given : List Int) : ACall Try.prog 20 [.p p.pv, .p (.list nl (l.map pS)), .p (.list gn (given.map pI))] [] (F2 (refF p l given).1 (refF p l given).2) := by
  refine acall_enter Try.func20 rfl rfl tabOK rfl ?_
  (conv => whnf); repeat' ((first | apply CondA.plain | refine' go_pg8 | (apply DrawA.quiet (by kernel_rfl) (by kernel_rfl); (conv => whnf); fail_if_success (show False))) <;> (conv => whnf))
  refine CallA.loc [] [] rfl rfl ((build_call p nl gn l given).mono ?_)
  rintro _ _ ⟨rfl, ⟨he, rfl⟩ | ⟨he, on, os, mn, hos, rfl⟩⟩
  · have e : refF p l given = ([], badF p l given) := by rw [refF, if_pos he]
    rw [e]
    obtain ⟨E, hE⟩ : ∃ E, badF p l given = E := ⟨_, rfl⟩
    rw [hE] at he ⊢
    (conv => whnf); repeat' ((first | apply CondA.plain | refine' go_pg8 | (apply DrawA.quiet (by kernel_rfl) (by kernel_rfl); (conv => whnf); fail_if_success (show False))) <;> (conv => whnf))
    (refine' RetK.auto (.tup [.p (.list true []), .p (pI E)]) ([]) rfl rfl rfl rfl _ _ _ <;> repeat' (first | exact trivial | refine And.intro ?_ ?_ | with_reducible rfl | (refine pIEq ?_; (first | omega | (simp only [lenS] at *; omega) | grind)) | (refine bufMap ?_) | (refine bufNil ?_) | (refine bufEq ?_) | rfl))
    exact ⟨true, rfl⟩
  obtain ⟨hR, hfit⟩ := badF_ok he
  have hP := valid_of hR.1
  have hl10 := hR.2.1
  obtain ⟨hgl, hgr⟩ := fitsB_rng hfit
  have hol : os.length = l.length := by
    have := congrArg List.length hos
    simp [optsL] at this
    exact this
  have hfc := fun cn => first_call hP on mn gn cn os given (upF given.length os.length) hgr (fun c hc => by have := upF_rng c hc; omega) (opts_rng hos) (by rw [upF_len]; omega)
  rw [optsC_up, hos] at hfc
  have hop := open_call on mn gn os (masksG p.gs) given (takenN p.gs given) (by omega) (by omega)
  have e : refF p l given = if (srch p.gs ((optsL p l).drop given.length) given).isSome then ([], 7) else if (writeF p.gs ((optsL p l).drop given.length) given given.length).length ≤ 4000 then (writeF p.gs ((optsL p l).drop given.length) given given.length, 0) else ([], 3) := by rw [refF, if_neg (by rw [he]; simp)]
  rw [e]
  obtain ⟨S, hS⟩ : ∃ S, srch p.gs ((optsL p l).drop given.length) given = S := ⟨_, rfl⟩
  rw [hS] at hfc ⊢
  (conv => whnf); repeat' ((first | apply CondA.plain | refine' go_pg8 | fail) <;> (conv => whnf))
  refine DrawA.retire 8 1 [.list on (os.map fI), .list mn ((masksG p.gs).map pU), .list gn (given.map pI), pU (takenN p.gs given)] rfl rfl ?_
  apply DrawA.orders a4Sc (by kernel_rfl) (by kernel_rfl) (by kernel_rfl)
  (conv => whnf); repeat' ((first | apply CondA.plain | refine' go_pg8 | ((refine CallA.fresh _ hop ?_; rintro _ ⟨n1, rfl⟩))) <;> (conv => whnf))
  refine CallA.loc [] [] rfl rfl ((hfc _).mono ?_)
  rintro _ _ ⟨⟨n2, rfl⟩, rfl⟩
  cases S with
  | some x =>
    (conv => whnf); repeat' ((first | apply CondA.plain | refine' go_pg8 | fail) <;> (conv => whnf))
    (refine' RetK.auto (.tup [.p (.list true []), .p (pI 7)]) ([]) rfl rfl rfl rfl _ _ _ <;> repeat' (first | exact trivial | refine And.intro ?_ ?_ | with_reducible rfl | (refine pIEq ?_; (first | omega | (simp only [lenS] at *; omega) | grind)) | (refine bufMap ?_) | (refine bufNil ?_) | (refine bufEq ?_) | rfl))
    exact ⟨true, rfl⟩
  | none =>
    have hlt : given.length < os.length := by
      refine Nat.lt_of_not_le fun h => ?_
      rw [List.drop_of_length_le (by simp [optsL]; omega)] at hS
      cases hS
    have hw := walk_nil hP on mn gn os given (takenN p.gs given) (opts_rng hos) (by omega) given.length given (takenN p.gs given) hlt hgr rfl
    rw [hos] at hw
    obtain ⟨W, hW⟩ : ∃ W, writeF p.gs ((optsL p l).drop given.length) given given.length = W := ⟨_, rfl⟩
    rw [hW] at hw
    simp only [hW]
    (conv => whnf); repeat' ((first | apply CondA.plain | refine' go_pg8 | fail) <;> (conv => whnf))
    refine CallA.loc [2] [] rfl rfl (hw.mono ?_)
    rintro _ _ ⟨rfl, nb, rfl⟩
    rcases Decidable.em (W.length ≤ 4000) with hle | hle
    · have htk : W.take 4001 = W := List.take_of_length_le (by omega)
      rw [decide_eq_true hle, htk]
      rw [if_neg (by simp), if_pos hle]
      (conv => whnf); repeat' ((first | apply CondA.plain | refine' go_pg8 | fail) <;> (conv => whnf))
      (refine RetK.frz _ _ _ [3] ?_; refine' RetK.auto (.tup [.p (.list nb (W.map pI)), .p (pI 0)]) ([]) rfl rfl rfl rfl _ _ _ <;> repeat' (first | exact trivial | refine And.intro ?_ ?_ | with_reducible rfl | (refine pIEq ?_; (first | omega | (simp only [lenS] at *; omega) | grind)) | (refine bufMap ?_) | (refine bufNil ?_) | (refine bufEq ?_) | rfl))
      all_goals first | exact ⟨nb, rfl⟩ | rfl
    · rw [decide_eq_false hle]
      rw [if_neg (by simp), if_neg hle]
      (conv => whnf); repeat' ((first | apply CondA.plain | refine' go_pg8 | fail) <;> (conv => whnf))
      (refine' RetK.auto (.tup [.p (.list true []), .p (pI 3)]) ([]) rfl rfl rfl rfl _ _ _ <;> repeat' (first | exact trivial | refine And.intro ?_ ?_ | with_reducible rfl | (refine pIEq ?_; (first | omega | (simp only [lenS] at *; omega) | grind)) | (refine bufMap ?_) | (refine bufNil ?_) | (refine bufEq ?_) | rfl))
      exact ⟨true, rfl⟩
end Go.Proofs.Ytnogpkaehiapfaa
