/- Pinning: Assign. -/
import Derived.Test.Ytnogpkaehiapfaapg5
namespace Go.Proofs.Ytnogpkaehiapfaa
set_option linter.unusedSimpArgs false
set_option linter.unusedVariables false
set_option linter.unnecessarySimpa false
open Go.Abs
set_option maxRecDepth 100000
def asgF (p : Pin) (l : List ByteArray) (given : List Int) : List Int × Int := if badF p l given ≠ 0 then ([], badF p l given) else match srch p.gs ((optsL p l).drop given.length) given with
  | none => ([], 9)
  | some x => (given ++ x, 0)
theorem badF_ok {p : Pin} {l : List ByteArray} {given : List Int} (h : badF p l given = 0) : rightP p l ∧ fitsB p.gs (optsL p l) [] given = true := by
  unfold badF at h
  split at h
  · rename_i hr
    split at h
    · rename_i hf
      exact ⟨hr, hf⟩
    · cases h
  · cases h
theorem fitsB_rng {p : Pin} : ∀ {l : List ByteArray} {us given : List Int}, fitsB p.gs (optsL p l) us given = true → given.length ≤ l.length ∧ ∀ g ∈ given, 0 ≤ g ∧ g < p.gs.length
  | _, _, [], _ => ⟨Nat.zero_le _, fun g hg => by cases hg⟩
  | [], _, _ :: _, h => by cases h
  | f :: r, us, g :: gr, h => by
    rw [optsL, List.map_cons, fitsB, Bool.and_eq_true, Bool.and_eq_true] at h
    obtain ⟨⟨h1, _⟩, h3⟩ := h
    obtain ⟨h4, h5⟩ := fitsB_rng (l := r) h3
    refine ⟨by simp; omega, fun y hy => ?_⟩
    rcases List.mem_cons.1 hy with rfl | hy
    · exact offersF_in (List.contains_iff_mem.1 h1)
    · exact h5 y hy
theorem upF_rng {a b : Nat} : ∀ c ∈ upF a b, 0 ≤ c ∧ c < b := fun c hc => by
  unfold upF at hc
  obtain ⟨i, hi, rfl⟩ := List.mem_map.1 hc
  have := List.mem_range.1 hi
  omega
theorem optsC_up {os : List (Bool × List Int)} {a : Nat} : optsC os (upF a os.length) = (os.map (·.2)).drop a := by
  refine List.ext_getElem (by simp [optsC, upF]) fun i h1 h2 => ?_
  have h3 : a + i < os.length := by
    simp [optsC, upF] at h1
    omega
  simp only [optsC, upF, List.getElem_map, List.getElem_range, List.getElem_drop, Int.toNat_natCast]
  rw [List.getD_eq_getElem?_getD, List.getElem?_eq_getElem h3]; rfl
theorem opts_rng {p : Pin} {l : List ByteArray} {os : List (Bool × List Int)} (h : os.map (·.2) = optsL p l) : ∀ x ∈ os, ∀ g ∈ x.2, 0 ≤ g ∧ g < p.gs.length := fun x hx g hg => by
  have hm : x.2 ∈ os.map (·.2) := List.mem_map.2 ⟨x, hx, rfl⟩
  rw [h, optsL] at hm
  obtain ⟨f, _, hf⟩ := List.mem_map.1 hm
  exact offersF_in (f := f) (by rw [hf]; exact hg)
def a4Sc : Sc := (.frz 0 (.frz 1 (.one 2 (.one 3 (.take 4 (.take 5 (.take 6 (.take 7 (.take 8 .done)))))))))
theorem upF_len (a b : Nat) : (upF a b).length = b - a := by simp [upF]
theorem srch_len {gs : List Grp} : ∀ {os : List (List Int)} {us x : List Int}, srch gs os us = some x → x.length = os.length
  | [], us, x, h => by
    rw [srch] at h
    injection h with h
    rw [← h]; rfl
  | o :: r, us, x, h => by
    rw [srch] at h
    obtain ⟨g, _, hg⟩ := List.exists_of_findSome?_eq_some h
    split at hg
    · obtain ⟨y, hy, rfl⟩ := Option.map_eq_some_iff.1 hg
      simp [srch_len hy]
    · cases hg
/-- Results that are frozen: a list and a number. -/
def F2 (xs : List Int) (e : Int) (r : AV) (H : AH) : Prop := (∃ n, r = .tup [.p (.list n (xs.map pI)), .p (pI e)]) ∧ H = []
/-- Kept for later: a goal of a walk's step. -/
theorem park_pg6 {P : Prop} (x : P) (_ : x = x) : P := x
/-- One step of a walk. -/
theorem go_pg6 {P : Prop} (h : P := by
  (first | ((first | apply LenA.map | apply NilA.map | apply NilA.mk); intro _) | ((first | apply NW.as | apply ValA.as); with_reducible assumption) | ((first | apply NW.i64 | apply NW.u32 | apply NW.u64 | apply NW.u8 | apply InA.nat | apply InA.map | apply AppA.snoc (f := pI) (a := _) rfl | apply AppA.one (f := pI) (a := _) rfl | apply AppA.snoc (f := pB) (a := _) rfl | apply AppA.one (f := pB) (a := _) rfl | apply AppA.map | apply AppA.nil | apply CutA.lo | apply CutA.hi); (first | omega | (simp only [lenS] at *; omega) | grind)) | ((first | (apply RemA.as; assumption) | apply RemA.self); (first | omega | (simp only [lenS] at *; omega) | grind)) | (apply ValA.as; assumption) | apply ValA.self | (apply NW.as; assumption) | (apply SzA.map; (intro _; rfl)) | with_reducible apply br_pt | with_reducible apply br_pf | with_reducible apply br_mt | with_reducible apply br_mf | apply Both.mk | ((first | apply br_T | apply br_F | apply br_mT | apply br_mF); assumption) | ((first | apply br_lss | apply br_leq | apply br_gtr | apply br_geq | apply br_dec | apply br_beq | apply br_bne | apply br_beqB | apply br_bneB | apply br_not | apply br_m | apply br_intro) <;> intro h0 <;> first | (exfalso; first | omega | exact tf h0 (by assumption) | exact tf (by assumption) h0 | exact h0 (by assumption) | exact h0 rfl | exact of_decide_eq_false h0 rfl) | skip) | refine ArrA.mk _ rfl rfl ?_ | (apply IdxA.lit; omega; exact rfl) | ((first | apply IdxA.of_nat | (apply IdxA.of_map; (first | omega | (simp only [lenS] at *; omega) | grind))); rotate_left; (first | omega | (simp only [lenS] at *; omega) | grind)) | apply AppC.own | apply CutO.part | apply IsL.set (f := pI) (a := _) rfl | apply IsL.rep (f := pI) (a := _) rfl | apply IsL.set (f := pB) (a := _) rfl | apply IsL.rep (f := pB) (a := _) rfl | apply IsL.lit (f := pI) [] rfl | apply IsL.lit (f := pI) [_] rfl | apply IsL.lit (f := pB) [] rfl | apply IsL.lit (f := pB) [_] rfl | (apply And.intro; (first | with_reducible rfl | (show (_ : AV) = _; rfl) | (first | omega | (simp only [lenS] at *; omega) | grind)))) <;> (solve_by_elim (newGoals := .nonDependentOnly) (symm := false) (exfalso := false) (transparency := .reducible) only [rfl, park_pg6])) : P := h
set_option maxHeartbeats 8000000 in
theorem Assign_call (p : Pin) (nl gn : Bool) (l : List ByteArray) (given : List Int) : ACall Try.prog 17 [.p p.pv, .p (.list nl (l.map pS)), .p (.list gn (given.map pI))] [] (F2 (asgF p l given).1 (asgF p l given).2) := by
  refine acall_enter Try.func17 rfl rfl tabOK rfl ?_
  (conv => whnf); repeat' ((first | apply CondA.plain | refine' go_pg6 | (apply DrawA.quiet (by kernel_rfl) (by kernel_rfl); (conv => whnf); fail_if_success (show False))) <;> (conv => whnf))
  refine CallA.loc [] [] rfl rfl ((build_call p nl gn l given).mono ?_)
  rintro _ _ ⟨rfl, ⟨he, rfl⟩ | ⟨he, on, os, mn, hos, rfl⟩⟩
  · have e : asgF p l given = ([], badF p l given) := by rw [asgF, if_pos he]
    rw [e]
    obtain ⟨E, hE⟩ : ∃ E, badF p l given = E := ⟨_, rfl⟩
    rw [hE] at he ⊢
    (conv => whnf); repeat' ((first | apply CondA.plain | refine' go_pg6 | (apply DrawA.quiet (by kernel_rfl) (by kernel_rfl); (conv => whnf); fail_if_success (show False))) <;> (conv => whnf))
    (refine' RetK.auto (.tup [.p (.list true []), .p (pI E)]) ([]) rfl rfl rfl rfl _ _ _ <;> repeat' (first | exact trivial | refine And.intro ?_ ?_ | with_reducible rfl | (refine pIEq ?_; (first | omega | (simp only [lenS] at *; omega) | grind)) | (refine bufMap ?_) | (refine bufNil ?_) | (refine bufEq ?_) | rfl))
    exact ⟨true, rfl⟩
  obtain ⟨hR, hfit⟩ := badF_ok he
  have hP := valid_of hR.1
  have hl10 := hR.2.1
  obtain ⟨hgl, hgr⟩ := fitsB_rng hfit
  have hol : os.length = l.length := by
    have := congrArg List.length hos
    simp [optsL] at this
    exact this
  have hfc := fun cn => first_call hP on mn gn cn os given (upF given.length os.length) hgr (fun c hc => by have := upF_rng c hc; omega) (opts_rng hos) (by rw [upF_len]; omega)
  rw [optsC_up, hos] at hfc
  have e : asgF p l given = match srch p.gs ((optsL p l).drop given.length) given with
    | none => ([], 9)
    | some x => (given ++ x, 0) := by rw [asgF, if_neg (by rw [he]; simp)]
  rw [e]
  obtain ⟨S, hS⟩ : ∃ S, srch p.gs ((optsL p l).drop given.length) given = S := ⟨_, rfl⟩
  rw [hS] at hfc ⊢
  have hop := open_call on mn gn os (masksG p.gs) given (takenN p.gs given) (by omega) (by omega)
  (conv => whnf); repeat' ((first | apply CondA.plain | refine' go_pg6 | fail) <;> (conv => whnf))
  refine DrawA.retire 8 1 [.list on (os.map fI), .list mn ((masksG p.gs).map pU), .list gn (given.map pI), pU (takenN p.gs given)] rfl rfl ?_
  apply DrawA.orders a4Sc (by kernel_rfl) (by kernel_rfl) (by kernel_rfl)
  (conv => whnf); repeat' ((first | apply CondA.plain | refine' go_pg6 | ((refine CallA.fresh _ hop ?_; rintro _ ⟨n1, rfl⟩))) <;> (conv => whnf))
  refine CallA.loc [] [] rfl rfl ((hfc _).mono ?_)
  rintro _ _ ⟨⟨n2, rfl⟩, rfl⟩
  cases S with
  | none =>
    (conv => whnf); repeat' ((first | apply CondA.plain | refine' go_pg6 | fail) <;> (conv => whnf))
    (refine' RetK.auto (.tup [.p (.list true []), .p (pI 9)]) ([]) rfl rfl rfl rfl _ _ _ <;> repeat' (first | exact trivial | refine And.intro ?_ ?_ | with_reducible rfl | (refine pIEq ?_; (first | omega | (simp only [lenS] at *; omega) | grind)) | (refine bufMap ?_) | (refine bufNil ?_) | (refine bufEq ?_) | rfl))
    exact ⟨true, rfl⟩
  | some x =>
    have hsl := srch_len hS
    rw [List.length_drop] at hsl
    have hol2 : (optsL p l).length = l.length := by simp [optsL]
    have hcat : catL [(gn, given), (n2, x)] = given ++ x := by simp [catL]
    have hxl : (catL [(gn, given), (n2, x)]).length ≤ 100000 := by rw [hcat, List.length_append]; omega
    (conv => whnf); repeat' ((first | (refine IsL.lit (f := fI) [(gn, given), (n2, x)] rfl ?_) | apply CondA.plain | refine' go_pg6 | ((refine CallA.fresh _ (Concat_call _ [(gn, given), (n2, x)] hxl) ?_; rintro _ ⟨n3, rfl⟩))) <;> (conv => whnf))
    rw [hcat]
    (refine' RetK.auto (.tup [.p (.list n3 ((given ++ x).map pI)), .p (pI 0)]) ([]) rfl rfl rfl rfl _ _ _ <;> repeat' (first | exact trivial | refine And.intro ?_ ?_ | with_reducible rfl | (refine pIEq ?_; (first | omega | (simp only [lenS] at *; omega) | grind)) | (refine bufMap ?_) | (refine bufNil ?_) | (refine bufEq ?_) | rfl))
    exact ⟨n3, rfl⟩
end Go.Proofs.Ytnogpkaehiapfaa
