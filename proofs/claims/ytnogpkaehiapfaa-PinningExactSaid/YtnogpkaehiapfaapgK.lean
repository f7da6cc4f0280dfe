/- Pinning: the walk, for Size. -/
import Derived.Test.Ytnogpkaehiapfaapg7
namespace Go.Proofs.Ytnogpkaehiapfaa
set_option linter.unusedSimpArgs false
set_option linter.unusedVariables false
set_option linter.unnecessarySimpa false
open Go.Abs
set_option maxRecDepth 100000
def NC (n : Nat) : AH := [some (.cells [.p (pI n)])]
/-- Kept for later: a goal of a walk's step. -/
theorem park_pgK {P : Prop} (x : P) (_ : x = x) : P := x
/-- One step of a walk. -/
theorem go_pgK {P : Prop} (h : P := by
  (first | ((first | apply LenA.map | apply NilA.map | apply NilA.mk); intro _) | ((first | apply NW.as | apply ValA.as); with_reducible assumption) | ((first | apply NW.i64 | apply NW.u32 | apply NW.u64 | apply NW.u8 | apply InA.nat | apply InA.map | apply AppA.snoc (f := pI) (a := _) rfl | apply AppA.one (f := pI) (a := _) rfl | apply AppA.snoc (f := pB) (a := _) rfl | apply AppA.one (f := pB) (a := _) rfl | apply AppA.snoc (f := pU) (a := _) rfl | apply AppA.one (f := pU) (a := _) rfl | apply AppA.snoc (f := fI) (a := _) rfl | apply AppA.one (f := fI) (a := _) rfl | apply AppA.map | apply AppA.nil | apply CutA.lo | apply CutA.hi); (first | omega | (simp only [lenS] at *; omega) | grind)) | ((first | (apply RemA.as; assumption) | apply RemA.self); (first | omega | (simp only [lenS] at *; omega) | grind)) | (apply ValA.as; assumption) | apply ValA.self | (apply NW.as; assumption) | (apply SzA.map; (intro _; rfl)) | with_reducible apply br_pt | with_reducible apply br_pf | with_reducible apply br_mt | with_reducible apply br_mf | apply Both.mk | ((first | apply br_T | apply br_F | apply br_mT | apply br_mF); assumption) | ((first | apply br_lss | apply br_leq | apply br_gtr | apply br_geq | apply br_dec | apply br_beq | apply br_bne | apply br_beqB | apply br_bneB | apply br_not | apply br_m | apply br_intro) <;> intro h0 <;> first | (exfalso; first | omega | exact tf h0 (by assumption) | exact tf (by assumption) h0 | exact h0 (by assumption) | exact h0 rfl | exact of_decide_eq_false h0 rfl) | skip) | refine ArrA.mk _ rfl rfl ?_ | (apply IdxA.lit; omega; exact rfl) | ((first | apply IdxA.of_nat | (apply IdxA.of_map; (first | omega | (simp only [lenS] at *; omega) | grind))); rotate_left; (first | omega | (simp only [lenS] at *; omega) | grind)) | apply AppC.own | apply CutO.part | apply IsL.set (f := pI) (a := _) rfl | apply IsL.rep (f := pI) (a := _) rfl | apply IsL.set (f := pB) (a := _) rfl | apply IsL.rep (f := pB) (a := _) rfl | apply IsL.set (f := pU) (a := _) rfl | apply IsL.rep (f := pU) (a := _) rfl | apply IsL.set (f := fI) (a := _) rfl | apply IsL.rep (f := fI) (a := _) rfl | apply IsL.lit (f := pI) [] rfl | apply IsL.lit (f := pI) [_] rfl | apply IsL.lit (f := pB) [] rfl | apply IsL.lit (f := pB) [_] rfl | apply IsL.lit (f := pU) [] rfl | apply IsL.lit (f := pU) [_] rfl | apply IsL.lit (f := fI) [] rfl | apply IsL.lit (f := fI) [_] rfl | (apply And.intro; (first | with_reducible rfl | (show (_ : AV) = _; rfl) | (first | omega | (simp only [lenS] at *; omega) | grind)))) <;> (solve_by_elim (newGoals := .nonDependentOnly) (symm := false) (exfalso := false) (transparency := .reducible) only [rfl, park_pgK])) : P := h
theorem svisit_call (n : Nat) (d : Int) (h : n ≤ 100000) : ACall Try.prog 49 [.p (pI d), .ptr 0 0] (NC n) fun r H => r = .p (pB (decide (n + 1 ≤ 4000))) ∧ H = NC (n + 1) := by
  refine acall_enter Try.func49 rfl rfl tabOK rfl ?_
  have e : decide ((n : Int) + 1 ≤ 4000) = decide (n + 1 ≤ 4000) := decide_eq_decide.2 (by omega)
  (conv => whnf); repeat' ((first | apply CondA.plain | refine' go_pgK | (apply DrawA.quiet (by kernel_rfl) (by kernel_rfl); (conv => whnf); fail_if_success (show False))) <;> (conv => whnf))
  (refine' RetK.auto (.p (pB (decide ((n : Int) + 1 ≤ 4000)))) (NC (n + 1)) rfl rfl rfl rfl _ _ _ <;> repeat' (first | exact trivial | refine And.intro ?_ ?_ | with_reducible rfl | (refine pIEq ?_; (first | omega | (simp only [lenS] at *; omega) | grind)) | (refine bufMap ?_) | (refine bufNil ?_) | (refine bufEq ?_) | rfl))
  exact by rw [e]
set_option maxHeartbeats 16000000 in
theorem swalk_call {p : Pin} (hP : VP p) (on mn gn : Bool) (os : List (Bool × List Int)) (given : List Int) (t0 : Nat)
    (hos : ∀ x ∈ os, ∀ g ∈ x.2, 0 ≤ g ∧ g < p.gs.length) (hol : os.length ≤ 10) : ∀ (j k n : Nat) (us : List Int) (t : Nat), k + j = os.length → n ≤ 4000 → (∀ g ∈ us, 0 ≤ g ∧ g < p.gs.length) → t = takenN p.gs us →
    ACall Try.prog 47 [.p (probV on os mn (masksG p.gs) gn given t0), .p (pI k), .p (pU t), .clo (.func 49) [.ptr 0 0]] (NC n) fun r H =>
      r = .p (pB (decide (n + (writeF p.gs ((os.map (·.2)).drop k) us k).length ≤ 4000))) ∧ H = NC (min (n + (writeF p.gs ((os.map (·.2)).drop k) us k).length) 4001)
  | 0, k, n, us, t, hk, hn, hr, ht => by
    refine acall_enter Try.func47 rfl rfl tabOK rfl ?_
    have e : writeF p.gs ((os.map (·.2)).drop k) us k = [] := by rw [List.drop_of_length_le (by rw [List.length_map]; omega)]; rfl
    have e2 : min (n + ([] : List Int).length) 4001 = n := by show min (n + 0) 4001 = n; omega
    have e3 : decide (n + ([] : List Int).length ≤ 4000) = true := decide_eq_true hn
    rw [e, e2, e3]
    (conv => whnf); repeat' ((first | apply CondA.plain | refine' go_pgK | (apply DrawA.quiet (by kernel_rfl) (by kernel_rfl); (conv => whnf); fail_if_success (show False))) <;> (conv => whnf))
    (refine' RetK.auto (.p (pB true)) (NC n) rfl rfl rfl rfl _ _ _ <;> repeat' (first | exact trivial | refine And.intro ?_ ?_ | with_reducible rfl | (refine pIEq ?_; (first | omega | (simp only [lenS] at *; omega) | grind)) | (refine bufMap ?_) | (refine bufNil ?_) | (refine bufEq ?_) | rfl))
  | j + 1, k, n, us, t, hk, hn, hr, ht => by
    have IH := swalk_call hP on mn gn os given t0 hos hol j (k + 1)
    refine acall_enter Try.func47 rfl rfl tabOK rfl ?_
    have hlt : k < os.length := by omega
    obtain ⟨⟨ob, o⟩, ho⟩ : ∃ o, os[k] = o := ⟨_, rfl⟩
    have ho1 : os[((k : Nat) : Int).toNat]? = some (ob, o) := by rw [Int.toNat_natCast, List.getElem?_eq_getElem hlt, ho]
    have hor := hos (ob, o) (by rw [← ho]; exact List.getElem_mem _)
    have hopt : (os.map (·.2)).drop k = o :: (os.map (·.2)).drop (k + 1) := by
      rw [List.drop_eq_getElem_cons (by rw [List.length_map]; exact hlt), List.getElem_map, ho]
    rw [hopt, writeF]
    obtain ⟨R, hR⟩ : ∃ R, (os.map (·.2)).drop (k + 1) = R := ⟨_, rfl⟩
    rw [hR]
    obtain ⟨F, hF⟩ : ∃ F : Int → List Int, F = fun g => if freeG_ p.gs us g then writeF p.gs R (us ++ [g]) (k + 1) else [] := ⟨_, rfl⟩
    rw [← hF, List.length_cons]
    (conv => whnf); repeat' ((first | apply CondA.plain | refine' go_pgK | fail) <;> (conv => whnf))
    refine CallA.loc [0] [] rfl rfl ((svisit_call n (k : Int) (by omega)).mono ?_)
    rintro _ _ ⟨rfl, rfl⟩
    rcases Decidable.em (n + 1 ≤ 4000) with hv | hv
    rotate_left
    · have e1 : min (n + ((o.flatMap F).length + 1)) 4001 = n + 1 := by omega
      have e2 : ¬ n + ((o.flatMap F).length + 1) ≤ 4000 := by omega
      rw [e1, decide_eq_false e2, decide_eq_false hv]
      (conv => whnf); repeat' ((first | apply CondA.plain | refine' go_pgK | fail) <;> (conv => whnf))
      (refine' RetK.auto (.p (pB false)) (NC (n + 1)) rfl rfl rfl rfl _ _ _ <;> repeat' (first | exact trivial | refine And.intro ?_ ?_ | with_reducible rfl | (refine pIEq ?_; (first | omega | (simp only [lenS] at *; omega) | grind)) | (refine bufMap ?_) | (refine bufNil ?_) | (refine bufEq ?_) | rfl))
    rw [decide_eq_true hv]
    (conv => whnf); repeat' ((first | (apply IdxA.at_ (f := fI) (ob, o) (Int.natCast_nonneg k) ho1) | apply CondA.plain | refine' go_pgK | fail) <;> (conv => whnf))
    refine loop_rule (fun (⟨c, N⟩ : Nat × Nat) => ⟨[(1, .p (pI k)), (2, .p (pU t)), (3, .clo (.func 49) [.ptr 0 0]), (4, .ptr 1 0), (24, .p (fI (ob, o))), (25, .p (pI o.length)), (26, .p (pI c))], NC N ++ [some (.cells [.p (.list on (os.map fI)), .p (.list mn ((masksG p.gs).map pU)), .p (.list gn (given.map pI)), .p (pU t0)])]⟩) (fun (⟨c, N⟩ : Nat × Nat) => c ≤ o.length ∧ N = n + (((o.take c).flatMap F).length + 1) ∧ N ≤ 4000) (fun (⟨c, N⟩ : Nat × Nat) => o.length - c) (0, n + 1) ?_ ?_ ?_; (refine SubA.auto rfl rfl rfl rfl ?_ ?_ <;> repeat' (first | exact trivial | refine And.intro ?_ ?_ | with_reducible rfl | (refine pIEq ?_; (first | omega | (simp only [lenS] at *; omega) | grind)) | (refine bufMap ?_) | (refine bufNil ?_) | (refine bufEq ?_) | rfl))
    · exact ⟨Nat.zero_le _, by simp, by omega⟩
    rintro ⟨c, N⟩ ⟨hc, hN, hNl⟩
    rcases Nat.lt_or_ge c o.length with hl2 | hge
    rotate_left
    · rw [List.take_of_length_le hge] at hN
      rw [← hN, decide_eq_true hNl, Nat.min_eq_left (by omega)]
      (conv => whnf); repeat' ((first | apply CondA.plain | refine' go_pgK | fail) <;> (conv => whnf))
      (refine' RetK.auto (.p (pB true)) (NC N) rfl rfl rfl rfl _ _ _ <;> repeat' (first | exact trivial | refine And.intro ?_ ?_ | with_reducible rfl | (refine pIEq ?_; (first | omega | (simp only [lenS] at *; omega) | grind)) | (refine bufMap ?_) | (refine bufNil ?_) | (refine bufEq ?_) | rfl))
    obtain ⟨g, hg⟩ : ∃ g, o[c] = g := ⟨_, rfl⟩
    have hg1 : o[((c : Nat) : Int).toNat]? = some g := by rw [Int.toNat_natCast, List.getElem?_eq_getElem hl2, hg]
    have hgr := hor g (by show g ∈ o; rw [← hg]; exact List.getElem_mem _)
    obtain ⟨z, rfl⟩ : ∃ z : Nat, g = z := ⟨g.toNat, by omega⟩
    have hzl : z < p.gs.length := by omega
    have hm1 := masksG_at hzl
    have htl := takenN_lt hP hr
    have hmkl := maskN_lt (pins_rng hP hgr.1 hgr.2)
    have hta := taken_and hP hr hgr.1 hgr.2
    rw [← ht] at htl hta
    have hsn := takenN_snoc p.gs us z
    rw [← ht] at hsn
    have hr2 : ∀ y ∈ us ++ [(z : Int)], 0 ≤ y ∧ y < p.gs.length := fun y hy => by
      rcases List.mem_append.1 hy with hy | hy
      · exact hr y hy
      · rw [List.mem_singleton.1 hy]; exact hgr
    obtain ⟨mk, hmk⟩ : ∃ mk, maskN (pinsOf p.gs z) = mk := ⟨_, rfl⟩
    rw [hmk] at hm1 hmkl hta hsn
    have ha := and64u htl hmkl
    have ho2 := or64u htl hmkl
    have htk : ((o.take (c + 1)).flatMap F).length = ((o.take c).flatMap F).length + (F z).length := by
      rw [List.take_succ_eq_append_getElem hl2, List.flatMap_append, hg]
      simp only [List.flatMap_cons, List.flatMap_nil, List.append_nil, List.length_append]
    have htot : (o.flatMap F).length = ((o.take (c + 1)).flatMap F).length + ((o.drop (c + 1)).flatMap F).length := by
      rw [← List.length_append, ← List.flatMap_append, List.take_append_drop]
    obtain ⟨w, hw⟩ : ∃ w, t &&& mk = w := ⟨_, rfl⟩
    rw [hw] at ha hta
    rcases Decidable.em (w = 0) with hw0 | hw0
    rotate_left
    · rw [decide_eq_false hw0] at hta
      have hFz : F (z : Int) = [] := by rw [hF]; show (if _ then _ else _) = _; rw [← hta]; rfl
      rw [hFz] at htk
      (conv => whnf); repeat' ((first | (apply IdxA.at_ (f := pI) (z : Int) (Int.natCast_nonneg c) hg1) | apply CondA.plain | refine' go_pgK | fail) <;> (conv => whnf))
      apply DrawA.tail 20 (by kernel_rfl) (by kernel_rfl)
      (conv => whnf); repeat' ((first | (apply IdxA.at_ (f := pU) mk (Int.natCast_nonneg z) hm1) | apply CondA.plain | refine' go_pgK | fail) <;> (conv => whnf))
      (refine' ⟨(c + 1, N), _, _, _⟩; rotate_right; (refine SubA.auto rfl rfl rfl rfl ?_ ?_ <;> repeat' (first | exact trivial | refine And.intro ?_ ?_ | with_reducible rfl | (refine pIEq ?_; (first | omega | (simp only [lenS] at *; omega) | grind)) | (refine bufMap ?_) | (refine bufNil ?_) | (refine bufEq ?_) | rfl)); rotate_right; (first | omega | (simp only []; omega) | (simp; omega) | (first | omega | (simp only [lenS] at *; omega) | grind)))
      exact ⟨by omega, by rw [htk]; exact hN, hNl⟩
    subst hw0
    rw [decide_eq_true rfl] at hta
    have hFz : F (z : Int) = writeF p.gs R (us ++ [(z : Int)]) (k + 1) := by rw [hF]; show (if _ then _ else _) = _; rw [← hta, if_pos rfl]
    have IH2 := IH N (us ++ [(z : Int)]) (t ||| mk) (by omega) hNl hr2 hsn.symm
    rw [hR, ← hFz] at IH2
    (conv => whnf); repeat' ((first | (apply IdxA.at_ (f := pI) (z : Int) (Int.natCast_nonneg c) hg1) | apply CondA.plain | refine' go_pgK | fail) <;> (conv => whnf))
    apply DrawA.tail 20 (by kernel_rfl) (by kernel_rfl)
    (conv => whnf); repeat' ((first | (apply IdxA.at_ (f := pU) mk (Int.natCast_nonneg z) hm1) | apply CondA.plain | refine' go_pgK | fail) <;> (conv => whnf))
    refine CallA.loc [0] [] rfl rfl (IH2.mono ?_)
    rintro _ _ ⟨rfl, rfl⟩
    rcases Decidable.em (N + (F z).length ≤ 4000) with hle | hle
    · rw [decide_eq_true hle, Nat.min_eq_left (by omega)]
      (conv => whnf); repeat' ((first | apply CondA.plain | refine' go_pgK | fail) <;> (conv => whnf))
      (refine' ⟨(c + 1, N + (F z).length), _, _, _⟩; rotate_right; (refine SubA.auto rfl rfl rfl rfl ?_ ?_ <;> repeat' (first | exact trivial | refine And.intro ?_ ?_ | with_reducible rfl | (refine pIEq ?_; (first | omega | (simp only [lenS] at *; omega) | grind)) | (refine bufMap ?_) | (refine bufNil ?_) | (refine bufEq ?_) | rfl)); rotate_right; (first | omega | (simp only []; omega) | (simp; omega) | (first | omega | (simp only [lenS] at *; omega) | grind)))
      exact ⟨by omega, by omega, hle⟩
    · have e1 : min (n + ((o.flatMap F).length + 1)) 4001 = min (N + (F z).length) 4001 := by omega
      have e2 : ¬ n + ((o.flatMap F).length + 1) ≤ 4000 := by omega
      rw [e1, decide_eq_false e2, decide_eq_false hle]
      (conv => whnf); repeat' ((first | apply CondA.plain | refine' go_pgK | fail) <;> (conv => whnf))
      (refine' RetK.auto (.p (pB false)) (NC (min (N + (F z).length) 4001)) rfl rfl rfl rfl _ _ _ <;> repeat' (first | exact trivial | refine And.intro ?_ ?_ | with_reducible rfl | (refine pIEq ?_; (first | omega | (simp only [lenS] at *; omega) | grind)) | (refine bufMap ?_) | (refine bufNil ?_) | (refine bufEq ?_) | rfl))
/-- What Size answers. -/
def sizeF (p : Pin) (l : List ByteArray) (given : List Int) : Int × Int := if badF p l given ≠ 0 then (0, badF p l given) else (((min (writeF p.gs ((optsL p l).drop given.length) given given.length).length 4001 : Nat) : Int), 0)
theorem Size_call (p : Pin) (nl gn : Bool) (l : List ByteArray) (given : List Int) : ACall Try.prog 21 [.p p.pv, .p (.list nl (l.map pS)), .p (.list gn (given.map pI))] [] fun r H => r = .tup [.p (pI (sizeF p l given).1), .p (pI (sizeF p l given).2)] ∧ H = [] := by
  refine acall_enter Try.func21 rfl rfl tabOK rfl ?_
  (conv => whnf); repeat' ((first | apply CondA.plain | refine' go_pgK | (apply DrawA.quiet (by kernel_rfl) (by kernel_rfl); (conv => whnf); fail_if_success (show False))) <;> (conv => whnf))
  refine CallA.loc [] [] rfl rfl ((build_call p nl gn l given).mono ?_)
  rintro _ _ ⟨rfl, ⟨he, rfl⟩ | ⟨he, on, os, mn, hos, rfl⟩⟩
  · have e : sizeF p l given = (0, badF p l given) := by rw [sizeF, if_pos he]
    rw [e]
    obtain ⟨E, hE⟩ : ∃ E, badF p l given = E := ⟨_, rfl⟩
    rw [hE] at he ⊢
    (conv => whnf); repeat' ((first | apply CondA.plain | refine' go_pgK | (apply DrawA.quiet (by kernel_rfl) (by kernel_rfl); (conv => whnf); fail_if_success (show False))) <;> (conv => whnf))
    (refine' RetK.auto (.tup [.p (pI 0), .p (pI E)]) ([]) rfl rfl rfl rfl _ _ _ <;> repeat' (first | exact trivial | refine And.intro ?_ ?_ | with_reducible rfl | (refine pIEq ?_; (first | omega | (simp only [lenS] at *; omega) | grind)) | (refine bufMap ?_) | (refine bufNil ?_) | (refine bufEq ?_) | rfl))
  obtain ⟨hR, hfit⟩ := badF_ok he
  have hP := valid_of hR.1
  have hl10 := hR.2.1
  obtain ⟨hgl, hgr⟩ := fitsB_rng hfit
  have hol : os.length = l.length := by
    have := congrArg List.length hos
    simp [optsL] at this
    exact this
  have hw := swalk_call hP on mn gn os given (takenN p.gs given) (opts_rng hos) (by omega) (os.length - given.length) given.length 0 given (takenN p.gs given) (by omega) (by omega) hgr rfl
  rw [hos, Nat.zero_add] at hw
  rw [sizeF, if_neg (by rw [he]; simp)]
  obtain ⟨W, hW⟩ : ∃ W, writeF p.gs ((optsL p l).drop given.length) given given.length = W := ⟨_, rfl⟩
  rw [hW] at hw ⊢
  (conv => whnf); repeat' ((first | apply CondA.plain | refine' go_pgK | fail) <;> (conv => whnf))
  refine CallA.loc [2] [] rfl rfl (hw.mono ?_)
  rintro _ _ ⟨rfl, rfl⟩
  (conv => whnf); repeat' ((first | apply CondA.plain | refine' go_pgK | fail) <;> (conv => whnf))
  (refine' RetK.auto (.tup [.p (pI ((min W.length 4001 : Nat) : Int)), .p (pI 0)]) ([]) rfl rfl rfl rfl _ _ _ <;> repeat' (first | exact trivial | refine And.intro ?_ ?_ | with_reducible rfl | (refine pIEq ?_; (first | omega | (simp only [lenS] at *; omega) | grind)) | (refine bufMap ?_) | (refine bufNil ?_) | (refine bufEq ?_) | rfl))
end Go.Proofs.Ytnogpkaehiapfaa
