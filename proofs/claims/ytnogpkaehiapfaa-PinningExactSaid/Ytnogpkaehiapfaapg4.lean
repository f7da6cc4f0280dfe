/- Pinning: the search. -/
import Derived.Test.Ytnogpkaehiapfaapg3
namespace Go.Proofs.Ytnogpkaehiapfaa
set_option linter.unusedSimpArgs false
set_option linter.unusedVariables false
set_option linter.unnecessarySimpa false
open Go.Abs
set_option maxRecDepth 100000
/-- The least groups for some demands, beside others. -/
def srch (gs : List Grp) : List (List Int) → List Int → Option (List Int)
  | [], _ => some []
  | o :: r, us => o.findSome? fun g => if freeG_ gs us g then (srch gs r (us ++ [g])).map (g :: ·) else none
/-- The boxes that a search shares: the groups' buffer lies where it did, or it has moved. -/
def SH (p : Pin) (on mn gn cn : Bool) (os : List (Bool × List Int)) (given : List Int) (t0 : Nat) (ch : List Int) : Bool → Bool → List Int → AH
  | false, nb, grp => [some (.cells [.buf 4]), some (.cells [.p (.list cn (ch.map pI))]), some (.cells [.p (.list on (os.map fI)), .p (.list mn ((masksG p.gs).map pU)), .p (.list gn (given.map pI)), .p (pU t0)]), some (.cells [.clo (.func 71) [.ptr 0 0, .ptr 1 0, .ptr 2 0, .ptr 3 0]]), some (AO.buf 3 nb (grp.map pI))]
  | true, nb, grp => [some (.cells [.buf 5]), some (.cells [.p (.list cn (ch.map pI))]), some (.cells [.p (.list on (os.map fI)), .p (.list mn ((masksG p.gs).map pU)), .p (.list gn (given.map pI)), .p (pU t0)]), some (.cells [.clo (.func 71) [.ptr 0 0, .ptr 1 0, .ptr 2 0, .ptr 3 0]]), none, some (AO.buf 3 nb (grp.map pI))]
def optsC (os : List (Bool × List Int)) (ch : List Int) : List (List Int) := ch.map fun c => (os.getD c.toNat (true, [])).2
/-- Kept for later: a goal of a walk's step. -/
theorem park_pg4 {P : Prop} (x : P) (_ : x = x) : P := x
/-- One step of a walk. -/
theorem go_pg4 {P : Prop} (h : P := by
  (first | ((first | apply LenA.map | apply NilA.map | apply NilA.mk); intro _) | ((first | apply NW.as | apply ValA.as); with_reducible assumption) | ((first | apply NW.i64 | apply NW.u32 | apply NW.u64 | apply NW.u8 | apply InA.nat | apply InA.map | apply AppA.snoc (f := pI) (a := _) rfl | apply AppA.one (f := pI) (a := _) rfl | apply AppA.snoc (f := pB) (a := _) rfl | apply AppA.one (f := pB) (a := _) rfl | apply AppA.snoc (f := pU) (a := _) rfl | apply AppA.one (f := pU) (a := _) rfl | apply AppA.snoc (f := fI) (a := _) rfl | apply AppA.one (f := fI) (a := _) rfl | apply AppA.map | apply AppA.nil | apply CutA.lo | apply CutA.hi); (first | omega | (simp only [lenS] at *; omega) | grind)) | ((first | (apply RemA.as; assumption) | apply RemA.self); (first | omega | (simp only [lenS] at *; omega) | grind)) | (apply ValA.as; assumption) | apply ValA.self | (apply NW.as; assumption) | (apply SzA.map; (intro _; rfl)) | with_reducible apply br_pt | with_reducible apply br_pf | with_reducible apply br_mt | with_reducible apply br_mf | apply Both.mk | ((first | apply br_T | apply br_F | apply br_mT | apply br_mF); assumption) | ((first | apply br_lss | apply br_leq | apply br_gtr | apply br_geq | apply br_dec | apply br_beq | apply br_bne | apply br_beqB | apply br_bneB | apply br_not | apply br_m | apply br_intro) <;> intro h0 <;> first | (exfalso; first | omega | exact tf h0 (by assumption) | exact tf (by assumption) h0 | exact h0 (by assumption) | exact h0 rfl | exact of_decide_eq_false h0 rfl) | skip) | refine ArrA.mk _ rfl rfl ?_ | (apply IdxA.lit; omega; exact rfl) | ((first | apply IdxA.of_nat | (apply IdxA.of_map; (first | omega | (simp only [lenS] at *; omega) | grind))); rotate_left; (first | omega | (simp only [lenS] at *; omega) | grind)) | apply AppC.own | apply CutO.part | apply IsL.set (f := pI) (a := _) rfl | apply IsL.rep (f := pI) (a := _) rfl | apply IsL.set (f := pB) (a := _) rfl | apply IsL.rep (f := pB) (a := _) rfl | apply IsL.set (f := pU) (a := _) rfl | apply IsL.rep (f := pU) (a := _) rfl | apply IsL.set (f := fI) (a := _) rfl | apply IsL.rep (f := fI) (a := _) rfl | apply IsL.lit (f := pI) [] rfl | apply IsL.lit (f := pI) [_] rfl | apply IsL.lit (f := pB) [] rfl | apply IsL.lit (f := pB) [_] rfl | apply IsL.lit (f := pU) [] rfl | apply IsL.lit (f := pU) [_] rfl | apply IsL.lit (f := fI) [] rfl | apply IsL.lit (f := fI) [_] rfl | (apply And.intro; (first | with_reducible rfl | (show (_ : AV) = _; rfl) | (first | omega | (simp only [lenS] at *; omega) | grind)))) <;> (solve_by_elim (newGoals := .nonDependentOnly) (symm := false) (exfalso := false) (transparency := .reducible) only [rfl, park_pg4])) : P := h
set_option maxHeartbeats 16000000 in
theorem search_call {p : Pin} (hP : VP p) (on mn gn cn : Bool) (os : List (Bool × List Int)) (given : List Int) (t0 : Nat) (ch u0 : List Int)
    (hch : ∀ c ∈ ch, 0 ≤ c ∧ c < os.length) (hos : ∀ x ∈ os, ∀ g ∈ x.2, 0 ≤ g ∧ g < p.gs.length) (hcl : ch.length ≤ 10) : ∀ (k : Nat) (nb : Bool) (grp : List Int) (t : Nat), grp.length + k = ch.length → (∀ g ∈ u0 ++ grp, 0 ≤ g ∧ g < p.gs.length) → t = takenN p.gs (u0 ++ grp) →
    ACall Try.prog 71 [.p (pU t), .ptr 0 0, .ptr 1 0, .ptr 2 0, .ptr 3 0] (SH p on mn gn cn os given t0 ch false nb grp) fun r H =>
      r = .p (pB (srch p.gs (optsC os (ch.drop grp.length)) (u0 ++ grp)).isSome) ∧ ∃ b nb', H = SH p on mn gn cn os given t0 ch b nb' (grp ++ (srch p.gs (optsC os (ch.drop grp.length)) (u0 ++ grp)).getD [])
  | 0, nb, grp, t, hk, hr, ht => by
    refine acall_enter Try.func71 rfl rfl tabOK rfl ?_
    have e : srch p.gs (optsC os (ch.drop grp.length)) (u0 ++ grp) = some [] := by rw [List.drop_of_length_le (by omega)]; rfl
    rw [e]
    (conv => whnf); repeat' ((first | apply CondA.plain | refine' go_pg4 | (apply DrawA.quiet (by kernel_rfl) (by kernel_rfl); (conv => whnf); fail_if_success (show False))) <;> (conv => whnf))
    (refine' RetK.auto (.p (pB true)) (SH p on mn gn cn os given t0 ch false nb grp) rfl rfl rfl rfl _ _ _ <;> repeat' (first | exact trivial | refine And.intro ?_ ?_ | with_reducible rfl | (refine pIEq ?_; (first | omega | (simp only [lenS] at *; omega) | grind)) | (refine bufMap ?_) | (refine bufNil ?_) | (refine bufEq ?_) | rfl))
    exact ⟨false, nb, by simp⟩
  | k + 1, nb, grp, t, hk, hr, ht => by
    have IH := search_call hP on mn gn cn os given t0 ch u0 hch hos hcl k
    refine acall_enter Try.func71 rfl rfl tabOK rfl ?_
    have hlt : grp.length < ch.length := by omega
    obtain ⟨c0, hc0⟩ : ∃ c0, ch[grp.length] = c0 := ⟨_, rfl⟩
    have hc1 : ch[((grp.length : Nat) : Int).toNat]? = some c0 := by rw [Int.toNat_natCast, List.getElem?_eq_getElem hlt, hc0]
    have hcr := hch c0 (by rw [← hc0]; exact List.getElem_mem _)
    obtain ⟨⟨ob, o⟩, ho⟩ : ∃ o, os[c0.toNat]'(by omega) = o := ⟨_, rfl⟩
    have ho1 : os[c0.toNat]? = some (ob, o) := by rw [List.getElem?_eq_getElem (by omega), ho]
    have hor := hos (ob, o) (by rw [← ho]; exact List.getElem_mem _)
    have hopt : optsC os (ch.drop grp.length) = o :: optsC os (ch.drop (grp.length + 1)) := by
      rw [List.drop_eq_getElem_cons hlt, hc0]
      show (os.getD c0.toNat (true, [])).2 :: _ = _
      rw [List.getD_eq_getElem?_getD, ho1]; rfl
    rw [hopt, srch]
    obtain ⟨R, hR⟩ : ∃ R, optsC os (ch.drop (grp.length + 1)) = R := ⟨_, rfl⟩
    rw [hR]
    have hcg : (0 : Int) ≤ (grp.length : Nat) := Int.natCast_nonneg _
    (conv => whnf); repeat' ((first | apply CondA.plain | refine' go_pg4 | fail) <;> (conv => whnf))
    apply DrawA.quiet (by kernel_rfl) (by kernel_rfl)
    (conv => whnf); repeat' ((first | (apply IdxA.at_ (f := pI) c0 hcg hc1) | (apply IdxA.at_ (f := fI) (ob, o) hcr.1 ho1) | apply CondA.plain | refine' go_pg4 | fail) <;> (conv => whnf))
    obtain ⟨F, hF⟩ : ∃ F : Int → Option (List Int), F = fun g => if freeG_ p.gs (u0 ++ grp) g then (srch p.gs R (u0 ++ grp ++ [g])).map (g :: ·) else none := ⟨_, rfl⟩
    rw [← hF]
    refine loop_rule (fun (⟨c, b, nb⟩ : Nat × Bool × Bool) => ⟨[(0, .p (pU t)), (1, .ptr 0 0), (3, .ptr 2 0), (4, .ptr 3 0), (22, .p (fI (ob, o))), (23, .p (pI o.length)), (24, .p (pI c))], SH p on mn gn cn os given t0 ch b nb grp⟩) (fun (⟨c, b, nb⟩ : Nat × Bool × Bool) => c ≤ o.length ∧ o.findSome? F = (o.drop c).findSome? F) (fun (⟨c, b, nb⟩ : Nat × Bool × Bool) => o.length - c) (0, false, nb) ?_ ?_ ?_; (refine SubA.auto rfl rfl rfl rfl ?_ ?_ <;> repeat' (first | exact trivial | refine And.intro ?_ ?_ | with_reducible rfl | (refine pIEq ?_; (first | omega | (simp only [lenS] at *; omega) | grind)) | (refine bufMap ?_) | (refine bufNil ?_) | (refine bufEq ?_) | rfl))
    · exact ⟨Nat.zero_le _, rfl⟩
    rintro ⟨c, b, nb⟩ ⟨hc, hfs⟩
    rcases Nat.lt_or_ge c o.length with hl2 | hge
    rotate_left
    · rw [List.drop_of_length_le hge, List.findSome?_nil] at hfs
      rw [hfs]
      cases b
      · (conv => whnf); repeat' ((first | apply CondA.plain | refine' go_pg4 | fail) <;> (conv => whnf))
        (refine' RetK.auto (.p (pB false)) (SH p on mn gn cn os given t0 ch false nb grp) rfl rfl rfl rfl _ _ _ <;> repeat' (first | exact trivial | refine And.intro ?_ ?_ | with_reducible rfl | (refine pIEq ?_; (first | omega | (simp only [lenS] at *; omega) | grind)) | (refine bufMap ?_) | (refine bufNil ?_) | (refine bufEq ?_) | rfl))
        exact ⟨false, nb, by simp⟩
      · (conv => whnf); repeat' ((first | apply CondA.plain | refine' go_pg4 | fail) <;> (conv => whnf))
        refine' RetK.mk _ _ _ [5] (.p (pB false)) (SH p on mn gn cn os given t0 ch true nb grp) rfl rfl _ rfl rfl ⟨rfl, true, nb, by simp⟩
        (repeat' (first | exact trivial | refine And.intro ?_ ?_ | with_reducible rfl | (refine pIEq ?_; (first | omega | (simp only [lenS] at *; omega) | grind)) | (refine bufMap ?_) | (refine bufNil ?_) | (refine bufEq ?_) | rfl))
    obtain ⟨g, hg⟩ : ∃ g, o[c] = g := ⟨_, rfl⟩
    have hg1 : o[((c : Nat) : Int).toNat]? = some g := by rw [Int.toNat_natCast, List.getElem?_eq_getElem hl2, hg]
    have hgr := hor g (by show g ∈ o; rw [← hg]; exact List.getElem_mem _)
    obtain ⟨z, rfl⟩ : ∃ z : Nat, g = z := ⟨g.toNat, by omega⟩
    have hzl : z < p.gs.length := by omega
    have hm1 := masksG_at hzl
    have htl := takenN_lt hP hr
    have hmkl := maskN_lt (pins_rng hP hgr.1 hgr.2)
    have hta := taken_and hP hr hgr.1 hgr.2
    rw [← ht] at htl hta
    have hsn := takenN_snoc p.gs (u0 ++ grp) z
    rw [← ht, List.append_assoc] at hsn
    have hr2 : ∀ y ∈ u0 ++ (grp ++ [(z : Int)]), 0 ≤ y ∧ y < p.gs.length := fun y hy => by
      rw [← List.append_assoc] at hy
      rcases List.mem_append.1 hy with hy | hy
      · exact hr y hy
      · rw [List.mem_singleton.1 hy]; exact hgr
    obtain ⟨mk, hmk⟩ : ∃ mk, maskN (pinsOf p.gs z) = mk := ⟨_, rfl⟩
    rw [hmk] at hm1 hmkl hta hsn
    have ha := and64u htl hmkl
    have ho2 := or64u htl hmkl
    rw [List.drop_eq_getElem_cons hl2, List.findSome?_cons, hg] at hfs
    obtain ⟨w, hw⟩ : ∃ w, t &&& mk = w := ⟨_, rfl⟩
    rw [hw] at ha hta
    rcases Decidable.em (w = 0) with hw0 | hw0
    rotate_left
    · rw [decide_eq_false hw0] at hta
      have hFz : F (z : Int) = none := by rw [hF]; show (if _ then _ else _) = _; rw [← hta]; rfl
      rw [hFz] at hfs
      cases b
      · (conv => whnf); repeat' ((first | (apply IdxA.at_ (f := pI) (z : Int) (Int.natCast_nonneg c) hg1) | (apply IdxA.at_ (f := pU) mk (Int.natCast_nonneg z) hm1) | apply CondA.plain | refine' go_pg4 | fail) <;> (conv => whnf))
        (refine' ⟨(c + 1, false, nb), _, _, _⟩; rotate_right; (refine SubA.auto rfl rfl rfl rfl ?_ ?_ <;> repeat' (first | exact trivial | refine And.intro ?_ ?_ | with_reducible rfl | (refine pIEq ?_; (first | omega | (simp only [lenS] at *; omega) | grind)) | (refine bufMap ?_) | (refine bufNil ?_) | (refine bufEq ?_) | rfl)); rotate_right; (first | omega | (simp only []; omega) | (simp; omega) | (first | omega | (simp only [lenS] at *; omega) | grind)))
        exact ⟨by omega, hfs⟩
      · (conv => whnf); repeat' ((first | (apply IdxA.at_ (f := pI) (z : Int) (Int.natCast_nonneg c) hg1) | (apply IdxA.at_ (f := pU) mk (Int.natCast_nonneg z) hm1) | apply CondA.plain | refine' go_pg4 | fail) <;> (conv => whnf))
        (refine' ⟨(c + 1, true, nb), _, _, _⟩; rotate_right; (refine SubA.auto rfl rfl rfl rfl ?_ ?_ <;> repeat' (first | exact trivial | refine And.intro ?_ ?_ | with_reducible rfl | (refine pIEq ?_; (first | omega | (simp only [lenS] at *; omega) | grind)) | (refine bufMap ?_) | (refine bufNil ?_) | (refine bufEq ?_) | rfl)); rotate_right; (first | omega | (simp only []; omega) | (simp; omega) | (first | omega | (simp only [lenS] at *; omega) | grind)))
        exact ⟨by omega, hfs⟩
    subst hw0
    rw [decide_eq_true rfl] at hta
    have hFz : F (z : Int) = (srch p.gs R (u0 ++ (grp ++ [(z : Int)]))).map ((z : Int) :: ·) := by rw [hF]; show (if _ then _ else _) = _; rw [← hta, if_pos rfl, List.append_assoc]
    rw [hFz] at hfs
    have IH2 := fun nb2 => IH nb2 (grp ++ [(z : Int)]) (t ||| mk) (by rw [List.length_append]; show grp.length + 1 + k = _; omega) hr2 hsn.symm
    have hgl : (grp ++ [(z : Int)]).length = grp.length + 1 := by simp
    rw [hgl, hR] at IH2
    obtain ⟨Sv, hSv⟩ : ∃ Sv, srch p.gs R (u0 ++ (grp ++ [(z : Int)])) = Sv := ⟨_, rfl⟩
    rw [hSv] at IH2 hfs
    have htk : (grp ++ [(z : Int)]).take grp.length = grp := by rw [List.take_left']; rfl
    have hcut : List.take ((((grp ++ [(z : Int)]).length : Nat) : Int) - 1).toNat ((grp ++ [(z : Int)]).map pI) = grp.map pI := by
      rw [← List.map_take, show ((((grp ++ [(z : Int)]).length : Nat) : Int) - 1).toNat = grp.length by rw [hgl]; omega, htk]
    cases b
    · (conv => whnf); repeat' ((first | (apply IdxA.at_ (f := pI) (z : Int) (Int.natCast_nonneg c) hg1) | (apply IdxA.at_ (f := pU) mk (Int.natCast_nonneg z) hm1) | apply CondA.plain | refine' go_pg4 | fail) <;> (conv => whnf))
      apply DrawA.tail 8 (by kernel_rfl) (by kernel_rfl)
      (conv => whnf); repeat' ((first | (apply IdxA.at_ (f := pI) (z : Int) (Int.natCast_nonneg c) hg1) | (apply IdxA.at_ (f := pU) mk (Int.natCast_nonneg z) hm1) | apply CondA.plain | refine' go_pg4 | fail) <;> (conv => whnf))
      refine CallA.loc [0, 1, 2, 3, 6] [] rfl rfl ((IH2 _).mono ?_)
      rintro _ _ ⟨rfl, b', nb', rfl⟩
      cases Sv with
      | some sv =>
        have e : List.findSome? F o = some ((z : Int) :: sv) := hfs
        rw [e]
        cases b'
        · (conv => whnf); repeat' ((first | apply CondA.plain | refine' go_pg4 | fail) <;> (conv => whnf))
          refine' RetK.mk _ _ _ [6] (.p (pB true)) (SH p on mn gn cn os given t0 ch true nb' (grp ++ [(z : Int)] ++ sv)) rfl rfl _ rfl rfl ⟨rfl, true, nb', by simp⟩
          (repeat' (first | exact trivial | refine And.intro ?_ ?_ | with_reducible rfl | (refine pIEq ?_; (first | omega | (simp only [lenS] at *; omega) | grind)) | (refine bufMap ?_) | (refine bufNil ?_) | (refine bufEq ?_) | rfl))
        · (conv => whnf); repeat' ((first | apply CondA.plain | refine' go_pg4 | fail) <;> (conv => whnf))
          refine' RetK.mk _ _ _ [7] (.p (pB true)) (SH p on mn gn cn os given t0 ch true nb' (grp ++ [(z : Int)] ++ sv)) rfl rfl _ rfl rfl ⟨rfl, true, nb', by simp⟩
          (repeat' (first | exact trivial | refine And.intro ?_ ?_ | with_reducible rfl | (refine pIEq ?_; (first | omega | (simp only [lenS] at *; omega) | grind)) | (refine bufMap ?_) | (refine bufNil ?_) | (refine bufEq ?_) | rfl))
      | none =>
        rw [show grp ++ [(z : Int)] ++ (none : Option (List Int)).getD [] = grp ++ [(z : Int)] by simp]
        cases b'
        · (conv => whnf); repeat' ((first | (refine CutO.own ?_) | (refine IsL.mk (grp.map pI) hcut ?_) | apply CondA.plain | refine' go_pg4 | fail) <;> (conv => whnf))
          (refine' ⟨(c + 1, true, nb'), _, _, _⟩; rotate_right; (refine SubA.auto rfl rfl rfl rfl ?_ ?_ <;> repeat' (first | exact trivial | refine And.intro ?_ ?_ | with_reducible rfl | (refine pIEq ?_; (first | omega | (simp only [lenS] at *; omega) | grind)) | (refine bufMap ?_) | (refine bufNil ?_) | (refine bufEq ?_) | rfl)); rotate_right; (first | omega | (simp only []; omega) | (simp; omega) | (first | omega | (simp only [lenS] at *; omega) | grind)))
          exact ⟨by omega, hfs⟩
        · (conv => whnf); repeat' ((first | (refine CutO.own ?_) | (refine IsL.mk (grp.map pI) hcut ?_) | apply CondA.plain | refine' go_pg4 | fail) <;> (conv => whnf))
          (refine' ⟨(c + 1, true, nb'), _, _, _⟩; rotate_right; (refine SubA.auto rfl rfl rfl rfl ?_ ?_ <;> repeat' (first | exact trivial | refine And.intro ?_ ?_ | with_reducible rfl | (refine pIEq ?_; (first | omega | (simp only [lenS] at *; omega) | grind)) | (refine bufMap ?_) | (refine bufNil ?_) | (refine bufEq ?_) | rfl)); rotate_right; (first | omega | (simp only []; omega) | (simp; omega) | (first | omega | (simp only [lenS] at *; omega) | grind)))
          exact ⟨by omega, hfs⟩
    · (conv => whnf); repeat' ((first | (apply IdxA.at_ (f := pI) (z : Int) (Int.natCast_nonneg c) hg1) | (apply IdxA.at_ (f := pU) mk (Int.natCast_nonneg z) hm1) | apply CondA.plain | refine' go_pg4 | fail) <;> (conv => whnf))
      apply DrawA.tail 8 (by kernel_rfl) (by kernel_rfl)
      (conv => whnf); repeat' ((first | (apply IdxA.at_ (f := pI) (z : Int) (Int.natCast_nonneg c) hg1) | (apply IdxA.at_ (f := pU) mk (Int.natCast_nonneg z) hm1) | apply CondA.plain | refine' go_pg4 | fail) <;> (conv => whnf))
      refine CallA.loc [0, 1, 2, 3, 7] [] rfl rfl ((IH2 _).mono ?_)
      rintro _ _ ⟨rfl, b', nb', rfl⟩
      cases Sv with
      | some sv =>
        have e : List.findSome? F o = some ((z : Int) :: sv) := hfs
        rw [e]
        cases b'
        · (conv => whnf); repeat' ((first | apply CondA.plain | refine' go_pg4 | fail) <;> (conv => whnf))
          refine' RetK.mk _ _ _ [7] (.p (pB true)) (SH p on mn gn cn os given t0 ch true nb' (grp ++ [(z : Int)] ++ sv)) rfl rfl _ rfl rfl ⟨rfl, true, nb', by simp⟩
          (repeat' (first | exact trivial | refine And.intro ?_ ?_ | with_reducible rfl | (refine pIEq ?_; (first | omega | (simp only [lenS] at *; omega) | grind)) | (refine bufMap ?_) | (refine bufNil ?_) | (refine bufEq ?_) | rfl))
        · (conv => whnf); repeat' ((first | apply CondA.plain | refine' go_pg4 | fail) <;> (conv => whnf))
          refine' RetK.mk _ _ _ [8] (.p (pB true)) (SH p on mn gn cn os given t0 ch true nb' (grp ++ [(z : Int)] ++ sv)) rfl rfl _ rfl rfl ⟨rfl, true, nb', by simp⟩
          (repeat' (first | exact trivial | refine And.intro ?_ ?_ | with_reducible rfl | (refine pIEq ?_; (first | omega | (simp only [lenS] at *; omega) | grind)) | (refine bufMap ?_) | (refine bufNil ?_) | (refine bufEq ?_) | rfl))
      | none =>
        rw [show grp ++ [(z : Int)] ++ (none : Option (List Int)).getD [] = grp ++ [(z : Int)] by simp]
        cases b'
        · (conv => whnf); repeat' ((first | (refine CutO.own ?_) | (refine IsL.mk (grp.map pI) hcut ?_) | apply CondA.plain | refine' go_pg4 | fail) <;> (conv => whnf))
          (refine' ⟨(c + 1, true, nb'), _, _, _⟩; rotate_right; (refine SubA.auto rfl rfl rfl rfl ?_ ?_ <;> repeat' (first | exact trivial | refine And.intro ?_ ?_ | with_reducible rfl | (refine pIEq ?_; (first | omega | (simp only [lenS] at *; omega) | grind)) | (refine bufMap ?_) | (refine bufNil ?_) | (refine bufEq ?_) | rfl)); rotate_right; (first | omega | (simp only []; omega) | (simp; omega) | (first | omega | (simp only [lenS] at *; omega) | grind)))
          exact ⟨by omega, hfs⟩
        · (conv => whnf); repeat' ((first | (refine CutO.own ?_) | (refine IsL.mk (grp.map pI) hcut ?_) | apply CondA.plain | refine' go_pg4 | fail) <;> (conv => whnf))
          (refine' ⟨(c + 1, true, nb'), _, _, _⟩; rotate_right; (refine SubA.auto rfl rfl rfl rfl ?_ ?_ <;> repeat' (first | exact trivial | refine And.intro ?_ ?_ | with_reducible rfl | (refine pIEq ?_; (first | omega | (simp only [lenS] at *; omega) | grind)) | (refine bufMap ?_) | (refine bufNil ?_) | (refine bufEq ?_) | rfl)); rotate_right; (first | omega | (simp only []; omega) | (simp; omega) | (first | omega | (simp only [lenS] at *; omega) | grind)))
          exact ⟨by omega, hfs⟩
end Go.Proofs.Ytnogpkaehiapfaa
