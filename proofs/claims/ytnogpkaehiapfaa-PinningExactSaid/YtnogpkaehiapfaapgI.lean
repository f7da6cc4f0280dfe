/- PinningGiven. -/
import Derived.Test.YtnogpkaehiapfaapgC
import Derived.Test.YtnogpkaehiapfaapgB
namespace Go.Proofs.Ytnogpkaehiapfaa
set_option linter.unusedSimpArgs false
set_option linter.unusedVariables false
set_option linter.unnecessarySimpa false
open Go.Abs
set_option maxRecDepth 100000
theorem Assign_to {p : Pin} {l : List ByteArray} {g x : List Int} {e : Int} (h : asgF p l g = (x, e)) (nl gn : Bool) : ACall Try.prog 17 [.p p.pv, .p (.list nl (l.map pS)), .p (.list gn (g.map pI))] [] (F2 x e) := by
  have := Assign_call p nl gn l g
  rwa [h] at this
theorem wordsL_word : ∀ x ∈ wordsL, wordF x = true := by decide +kernel
theorem made_right {p : Pin} (hp : MadeP p) {l : List ByteArray} (hl : l.length ≤ 10) (hw : ∀ x ∈ l, x ∈ wordsL) : rightP p l :=
  ⟨valid_mk hp.valid, hl, fun ⟨f, hf, h⟩ => by rw [wordsL_word f (hw f hf)] at h; cases h⟩
theorem badF_nil {p : Pin} {l : List ByteArray} (hR : rightP p l) : badF p l [] = 0 := by
  have f1 : ∀ gs opts us, fitsB gs opts us [] = true := fun gs opts us => by cases opts <;> rfl
  rw [badF, if_pos hR, f1]; rfl
theorem asg_nil {p : Pin} {l : List ByteArray} (hR : rightP p l) : asgF p l [] = match srch p.gs (optsL p l) [] with
    | none => ([], 9)
    | some x => (x, 0) := by
  rw [asgF, if_neg (by rw [badF_nil hR]; simp)]
  rfl
theorem asg_app {p : Pin} (hp : MadeP p) {l : List ByteArray} (hl : l.length ≤ 9) (hw : ∀ x ∈ l, x ∈ wordsL) (h : srch p.gs (optsL p l) [] = none) : asgF p (l ++ [nUart]) [] = ([], 9) := by
  have hR : rightP p (l ++ [nUart]) := made_right hp (by simp; omega) fun x hx => by
    rcases List.mem_append.1 hx with hx | hx
    · exact hw x hx
    · rw [List.mem_singleton.1 hx]; decide +kernel
  rw [asg_nil hR]
  cases hs : srch p.gs (optsL p (l ++ [nUart])) [] with
  | none => rfl
  | some x =>
    have e : optsL p (l ++ [nUart]) = optsL p l ++ optsL p [nUart] := by simp [optsL]
    rw [e] at hs
    have := sat_sub (List.sublist_append_left (optsL p l) (optsL p [nUart])) (us := []) (fun u hu => hu) (by rw [hs]; rfl)
    rw [h] at this
    cases this
theorem optsL_take (p : Pin) (l : List ByteArray) (n : Nat) : optsL p (l.take n) = (optsL p l).take n := by simp [optsL, List.map_take]
theorem asg_pre {p : Pin} {l : List ByteArray} (hR : rightP p l) {x : List Int} (h : srch p.gs (optsL p l) [] = some x) (n : Nat) (hn : n ≤ l.length) : asgF p l (x.take n) = (x, 0) := by
  obtain ⟨h1, h2⟩ := srch_fit h
  rw [opts_len] at h1
  have e : optsL p l = (optsL p l).take n ++ (optsL p l).drop n := (List.take_append_drop _ _).symm
  have hn2 : ((optsL p l).take n).length = n := by rw [List.length_take, opts_len]; omega
  have hs := h
  rw [e] at hs
  obtain ⟨h3, _⟩ := srch_split hs
  rw [hn2, List.nil_append] at h3
  have hb : badF p l (x.take n) = 0 := by rw [badF, if_pos hR, fits_iff.2 ((fits_iff.1 h2).take n)]; rfl
  have hl : (x.take n).length = n := by rw [List.length_take]; omega
  rw [asgF, if_neg (by rw [hb]; simp), hl, h3]
  show (x.take n ++ x.drop n, (0 : Int)) = _
  rw [List.take_append_drop]
theorem right_take {p : Pin} {l : List ByteArray} (hR : rightP p l) (n : Nat) : rightP p (l.take n) := by
  refine ⟨hR.1, by rw [List.length_take]; have := hR.2.1; omega, fun ⟨f, hf, h⟩ => hR.2.2 ⟨f, List.mem_of_mem_take hf, h⟩⟩
theorem asg_less {p : Pin} {l : List ByteArray} (hR : rightP p l) {x : List Int} (h : srch p.gs (optsL p l) [] = some x) (n : Nat) (hn : n ≤ l.length) : ∃ z, asgF p (l.take n) [] = (z, 0) ∧ z.length = n ∧ badF p l z = 0 := by
  have hs := sat_sub (List.take_sublist n (optsL p l)) (us := []) (fun u hu => hu) (by rw [h]; rfl)
  obtain ⟨z, hz⟩ := Option.isSome_iff_exists.1 hs
  obtain ⟨h1, h2⟩ := srch_fit hz
  rw [List.length_take, opts_len] at h1
  refine ⟨z, ?_, by omega, ?_⟩
  · rw [asg_nil (right_take hR n), optsL_take, hz]
  · have hf := fits_iff.1 h2
    have : Fit p.gs (optsL p l) [] z := by
      refine ⟨by rw [opts_len]; omega, fun i hi hi2 => ?_, hf.us, hf.pw⟩
      have := hf.opt i hi (by rw [List.length_take, opts_len]; omega)
      rwa [List.getElem_take] at this
    rw [badF, if_pos hR, fits_iff.2 this]; rfl
theorem asg_on {p : Pin} {l : List ByteArray} {z : List Int} (hb : badF p l z = 0) : asgF p l z = ([], 9) ∨ ∃ w, asgF p l z = (z ++ w, 0) ∧ (z ++ w).length = l.length ∧ badF p l (z ++ w) = 0 := by
  obtain ⟨hR, hfit⟩ := badF_ok hb
  rw [asgF, if_neg (by rw [hb]; simp)]
  cases hs : srch p.gs ((optsL p l).drop z.length) z with
  | none => exact .inl rfl
  | some w =>
    obtain ⟨h1, h2⟩ := fit_all hfit hs
    rw [opts_len] at h1
    exact .inr ⟨w, rfl, h1, by rw [badF, if_pos hR, fits_iff.2 h2]; rfl⟩
def g8SC0 : Sc := (.one 3 (.one 4 (.one 5 (.take 6 (.take 7 (.take 8 (.take 9 (.take 10 .done))))))))
def g8SC1 : Sc := (.one 2 (.one 4 (.one 5 (.take 6 (.take 7 (.take 8 (.take 9 (.take 10 .done))))))))
def g8Sc : Sc := (.frz 0 (.take 1 (.two 2 3 g8SC0 g8SC1)))
def g12Sc : Sc := (.frz 0 (.take 1 (.take 2 (.take 3 (.take 4 (.one 5 (.take 6 (.take 7 (.take 8 (.take 9 (.take 10 .done)))))))))))
def g13Sc : Sc := (.frz 0 (.take 1 (.take 2 (.take 3 (.one 4 (.take 5 (.take 6 (.take 7 (.take 8 (.take 9 .done))))))))))
/-- Kept for later: a goal of a walk's step. -/
theorem park_pgI {P : Prop} (x : P) (_ : x = x) : P := x
/-- One step of a walk. -/
theorem go_pgI {P : Prop} (h : P := by
  (first | ((first | apply LenA.map | apply NilA.map | apply NilA.mk); intro _) | ((first | apply NW.as | apply ValA.as); with_reducible assumption) | ((first | apply NW.i64 | apply NW.u32 | apply NW.u64 | apply NW.u8 | apply InA.nat | apply InA.map | apply AppA.snoc (f := pI) (a := _) rfl | apply AppA.one (f := pI) (a := _) rfl | apply AppA.snoc (f := pB) (a := _) rfl | apply AppA.one (f := pB) (a := _) rfl | apply AppA.snoc (f := pS) (a := _) rfl | apply AppA.one (f := pS) (a := _) rfl | apply AppA.map | apply AppA.nil | apply CutA.lo | apply CutA.hi); (first | omega | (simp only [lenS] at *; omega) | grind)) | ((first | (apply RemA.as; assumption) | apply RemA.self); (first | omega | (simp only [lenS] at *; omega) | grind)) | (apply ValA.as; assumption) | apply ValA.self | (apply NW.as; assumption) | (apply SzA.map; (intro _; rfl)) | with_reducible apply br_pt | with_reducible apply br_pf | with_reducible apply br_mt | with_reducible apply br_mf | apply Both.mk | ((first | apply br_T | apply br_F | apply br_mT | apply br_mF); assumption) | ((first | apply br_lss | apply br_leq | apply br_gtr | apply br_geq | apply br_dec | apply br_beq | apply br_bne | apply br_beqB | apply br_bneB | apply br_not | apply br_m | apply br_intro) <;> intro h0 <;> first | (exfalso; first | omega | exact tf h0 (by assumption) | exact tf (by assumption) h0 | exact h0 (by assumption) | exact h0 rfl | exact of_decide_eq_false h0 rfl) | skip) | refine ArrA.mk _ rfl rfl ?_ | (apply IdxA.lit; omega; exact rfl) | ((first | apply IdxA.of_nat | (apply IdxA.of_map; (first | omega | (simp only [lenS] at *; omega) | grind))); rotate_left; (first | omega | (simp only [lenS] at *; omega) | grind)) | apply AppC.own | apply CutO.part | apply IsL.set (f := pI) (a := _) rfl | apply IsL.rep (f := pI) (a := _) rfl | apply IsL.set (f := pB) (a := _) rfl | apply IsL.rep (f := pB) (a := _) rfl | apply IsL.set (f := pS) (a := _) rfl | apply IsL.rep (f := pS) (a := _) rfl | apply IsL.lit (f := pI) [] rfl | apply IsL.lit (f := pI) [_] rfl | apply IsL.lit (f := pB) [] rfl | apply IsL.lit (f := pB) [_] rfl | apply IsL.lit (f := pS) [] rfl | apply IsL.lit (f := pS) [_] rfl | (apply And.intro; (first | with_reducible rfl | (show (_ : AV) = _; rfl) | (first | omega | (simp only [lenS] at *; omega) | grind)))) <;> (solve_by_elim (newGoals := .nonDependentOnly) (symm := false) (exfalso := false) (transparency := .reducible) only [rfl, park_pgI])) : P := h
set_option maxHeartbeats 8000000 in
theorem PinningGiven_call (nl : Bool) (ts : List Int) (a : Int) (ha : 0 ≤ a ∧ a ≤ 255) : ACall Try.prog 4 [.p (.list nl (ts.map pI)), .p (.v (.int .u8 a))] [] fun r H => r = .p (pB true) := by
  refine acall_enter Try.func4 rfl rfl tabOK rfl ?_
  (conv => whnf); repeat' ((first | apply CondA.plain | refine' go_pgI | (apply DrawA.quiet (by kernel_rfl) (by kernel_rfl); (conv => whnf); fail_if_success (show False)) | (refine CallA.scalar (sane23_call) ?_)) <;> (conv => whnf))
  · (refine RetK.p ?_ <;> repeat' (first | exact trivial | refine And.intro ?_ ?_ | with_reducible rfl | (refine pIEq ?_; (first | omega | (simp only [lenS] at *; omega) | grind)) | (refine bufMap ?_) | (refine bufNil ?_) | (refine bufEq ?_) | rfl); all_goals try first | refine pBEq ?_ | refine pIEq ?_)
  refine CallA.loc [] [] rfl rfl ((New_call nl ts).mono ?_)
  rintro r H ⟨ts', rfl, rfl⟩
  (conv => whnf); repeat' ((first | apply CondA.plain | refine' go_pgI | (apply DrawA.quiet (by kernel_rfl) (by kernel_rfl); (conv => whnf); fail_if_success (show False))) <;> (conv => whnf))
  refine CallA.loc [0] [] rfl rfl ((Pinout_call nl ts' 0 (Nat.zero_le _)).mono ?_)
  rintro _ _ ⟨p, i, hp, hi, rfl, rfl⟩
  (conv => whnf); repeat' ((first | apply CondA.plain | refine' go_pgI | (apply DrawA.quiet (by kernel_rfl) (by kernel_rfl); (conv => whnf); fail_if_success (show False))) <;> (conv => whnf))
  refine CallA.loc [0] [] rfl rfl ((Demands_call nl ts' i hi 6 (by omega)).mono ?_)
  rintro _ _ ⟨l, nb, i2, hl, hw, hi2, rfl, rfl⟩
  have hR := made_right hp (by omega) hw
  obtain ⟨n, hn⟩ : ∃ n : Nat, a.tmod ((l.length : Int) + 1) = n := ⟨(a.tmod ((l.length : Int) + 1)).toNat, by rw [Int.tmod_eq_emod_of_nonneg ha.1]; have := Int.emod_nonneg a (show ((l.length : Int) + 1) ≠ 0 by omega); omega⟩
  have hnl : n ≤ l.length := by
    rw [Int.tmod_eq_emod_of_nonneg ha.1] at hn
    have := Int.emod_lt_of_pos a (show 0 < ((l.length : Int) + 1) by omega)
    omega
  have ea := asg_nil hR
  cases hS : srch p.gs (optsL p l) [] with
  | none =>
    rw [hS] at ea
    have ea : asgF p l [] = ([], 9) := ea
    (conv => whnf); repeat' ((first | apply CondA.plain | refine' go_pgI | (apply DrawA.quiet (by kernel_rfl) (by kernel_rfl); (conv => whnf); fail_if_success (show False))) <;> (conv => whnf))
    refine CallA.loc [] [] rfl rfl ((Assign_to ea nb true).mono ?_)
    rintro _ _ ⟨⟨n1, rfl⟩, rfl⟩
    have e2 := asg_app hp (by omega) hw hS
    (conv => whnf); repeat' ((first | apply CondA.plain | refine' go_pgI | fail) <;> (conv => whnf))
    refine DrawA.retire 6 1 [pI p.n, .list p.nl (p.gs.map Grp.pv)] rfl rfl ?_
    apply DrawA.orders g8Sc (by kernel_rfl) (by kernel_rfl) (by kernel_rfl)
    (conv => whnf); repeat' ((first | (refine IsL.lit (f := pS) [nUart] rfl ?_) | apply CondA.plain | refine' go_pgI | fail) <;> (conv => whnf))
    all_goals
      refine CallA.loc [] [4] rfl rfl ((Assign_to e2 _ true).mono ?_)
      rintro _ _ ⟨⟨n2, rfl⟩, rfl⟩
      (conv => whnf); repeat' ((first | apply CondA.plain | refine' go_pgI | (apply DrawA.quiet (by kernel_rfl) (by kernel_rfl); (conv => whnf); fail_if_success (show False)) | (refine CallA.scalar (sane23_call) ?_)) <;> (conv => whnf))
      (refine RetK.p ?_ <;> repeat' (first | exact trivial | refine And.intro ?_ ?_ | with_reducible rfl | (refine pIEq ?_; (first | omega | (simp only [lenS] at *; omega) | grind)) | (refine bufMap ?_) | (refine bufNil ?_) | (refine bufEq ?_) | rfl); all_goals try first | refine pBEq ?_ | refine pIEq ?_)
  | some x =>
    rw [hS] at ea
    have ea : asgF p l [] = (x, 0) := ea
    obtain ⟨hxl, _⟩ := srch_fit hS
    rw [opts_len] at hxl
    have e2 := asg_pre hR hS n hnl
    obtain ⟨z, e3, hzl, hbz⟩ := asg_less hR hS n hnl
    have e4 := asg_on hbz
    have htx : List.take ((n : Nat) : Int).toNat (x.map pI) = (x.take n).map pI := by rw [Int.toNat_natCast, List.map_take]
    have htl : List.take ((n : Nat) : Int).toNat (l.map pS) = (l.take n).map pS := by rw [Int.toNat_natCast, List.map_take]
    (conv => whnf); repeat' ((first | apply CondA.plain | refine' go_pgI | (apply DrawA.quiet (by kernel_rfl) (by kernel_rfl); (conv => whnf); fail_if_success (show False))) <;> (conv => whnf))
    refine CallA.loc [] [] rfl rfl ((Assign_to ea nb true).mono ?_)
    rintro _ _ ⟨⟨n1, rfl⟩, rfl⟩
    (conv => whnf); repeat' ((first | apply CondA.plain | refine' go_pgI | fail) <;> (conv => whnf))
    refine DrawA.retire 6 1 [pI p.n, .list p.nl (p.gs.map Grp.pv)] rfl rfl ?_
    apply DrawA.orders g12Sc (by kernel_rfl) (by kernel_rfl) (by kernel_rfl)
    (conv => whnf); repeat' ((first | (refine CutA.mk ((x.take n).map pI) (by omega) htx ?_) | apply CondA.plain | refine' go_pgI | fail) <;> (conv => whnf))
    refine CallA.loc [] [] rfl rfl ((Assign_to e2 nb _).mono ?_)
    rintro _ _ ⟨⟨n2, rfl⟩, rfl⟩
    (conv => whnf); repeat' ((first | apply CondA.plain | refine' go_pgI | fail) <;> (conv => whnf))
    apply DrawA.orders g13Sc (by kernel_rfl) (by kernel_rfl) (by kernel_rfl)
    (conv => whnf); repeat' ((first | (refine CutA.mk ((l.take n).map pS) (by omega) htl ?_) | apply CondA.plain | refine' go_pgI | fail) <;> (conv => whnf))
    refine CallA.loc [] [] rfl rfl ((Assign_to e3 _ true).mono ?_)
    rintro _ _ ⟨⟨n3, rfl⟩, rfl⟩
    (conv => whnf); repeat' ((first | apply CondA.plain | refine' go_pgI | ((refine CallA.scalar (Ints_call _ _ x x) ?_; rw [decide_eq_true rfl]))) <;> (conv => whnf))
    rcases e4 with e4 | ⟨w, e4, hwl, hbw⟩
    · refine CallA.loc [] [] rfl rfl ((Assign_to e4 nb _).mono ?_)
      rintro _ _ ⟨⟨n4, rfl⟩, rfl⟩
      (conv => whnf); repeat' ((first | apply CondA.plain | refine' go_pgI | (refine CallA.scalar (sane23_call) ?_)) <;> (conv => whnf))
      (refine RetK.p ?_ <;> repeat' (first | exact trivial | refine And.intro ?_ ?_ | with_reducible rfl | (refine pIEq ?_; (first | omega | (simp only [lenS] at *; omega) | grind)) | (refine bufMap ?_) | (refine bufNil ?_) | (refine bufEq ?_) | rfl); all_goals try first | refine pBEq ?_ | refine pIEq ?_)
    · refine CallA.loc [] [] rfl rfl ((Assign_to e4 nb _).mono ?_)
      rintro _ _ ⟨⟨n4, rfl⟩, rfl⟩
      have htw : List.drop (Int.toNat 0) (List.take ((n : Nat) : Int).toNat (z ++ w)) = z := by rw [Int.toNat_natCast, List.take_left' hzl]; rfl
      have hm : decide (badF p l (z ++ w) = 0 ∧ (z ++ w).length = l.length) = true := decide_eq_true ⟨hbw, hwl⟩
      (conv => whnf); repeat' ((first | apply CondA.plain | refine' go_pgI | ((refine CallA.scalar (Ints_call _ _ _ z) ?_; rw [htw, decide_eq_true rfl])) | ((refine CallA.scalar (Meets_call p nb n4 l (z ++ w)) ?_; rw [hm])) | (refine CallA.scalar (sane23_call) ?_)) <;> (conv => whnf))
      (refine RetK.p ?_ <;> repeat' (first | exact trivial | refine And.intro ?_ ?_ | with_reducible rfl | (refine pIEq ?_; (first | omega | (simp only [lenS] at *; omega) | grind)) | (refine bufMap ?_) | (refine bufNil ?_) | (refine bufEq ?_) | rfl); all_goals try first | refine pBEq ?_ | refine pIEq ?_)
end Go.Proofs.Ytnogpkaehiapfaa
