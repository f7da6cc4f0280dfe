/- PinningMoves. -/
import Derived.Test.YtnogpkaehiapfaapgI
import Derived.Test.YtnogpkaehiapfaapgV
namespace Go.Proofs.Ytnogpkaehiapfaa
set_option linter.unusedSimpArgs false
set_option linter.unusedVariables false
set_option linter.unnecessarySimpa false
open Go.Abs
set_option maxRecDepth 100000
theorem ren_next {gs : List Grp} {c : Nat} (h : c < gs.length) : (renG (gs.take c) ++ gs.drop c).set c (renF gs[c]) = renG (gs.take (c + 1)) ++ gs.drop (c + 1) := by
  have hl : (renG (gs.take c)).length = c := by simp [renG]; omega
  rw [List.set_append_right _ _ (by omega), hl, Nat.sub_self, List.drop_eq_getElem_cons h, List.set_cons_zero, List.take_succ_eq_append_getElem h, renG, renG, List.map_append, List.append_assoc]
  rfl
theorem ren_at {gs : List Grp} {c : Nat} (h : c < gs.length) : (renG (gs.take c) ++ gs.drop c)[((c : Nat) : Int).toNat]? = some gs[c] := by
  have hl : (renG (gs.take c)).length = c := by simp [renG]; omega
  rw [Int.toNat_natCast, List.getElem?_append_right (by omega), hl, Nat.sub_self, List.getElem?_drop]
  simp [h]
theorem ren_len {gs : List Grp} {c : Nat} : (renG (gs.take c) ++ gs.drop c).length = gs.length := by simp [renG]; omega
theorem asg_bad {p : Pin} {l : List ByteArray} (hR : rightP p l) {x : List Int} (h : srch p.gs (optsL p l) [] = some x) : badF p l x = 0 := by
  obtain ⟨_, h2⟩ := srch_fit h
  rw [badF, if_pos hR, h2]; rfl
theorem bad_swap {p : Pin} {l : List ByteArray} (hR : rightP p l) {x : List Int} (h : srch p.gs (optsL p l) [] = some x) {i k : Nat} (hi : i < l.length) (hk : k < l.length) (hl : x.length = l.length) :
    badF p ((l.set i l[k]).set k l[i]) ((x.set i (x[k]'(by omega))).set k (x[i]'(by omega))) = 0 := by
  obtain ⟨h1, h2⟩ := srch_fit h
  have hf := fit_swap h1 (show i < x.length by omega) (show k < x.length by omega) (fits_iff.1 h2)
  have e : optsL p ((l.set i l[k]).set k l[i]) = ((optsL p l).set i ((optsL p l)[k]'(by rw [opts_len]; exact hk))).set k ((optsL p l)[i]'(by rw [opts_len]; exact hi)) := by
    simp [optsL, List.map_set]
  have hR2 : rightP p ((l.set i l[k]).set k l[i]) := by
    refine ⟨hR.1, by simpa using hR.2.1, fun ⟨f, hf, hw⟩ => hR.2.2 ⟨f, ?_, hw⟩⟩
    exact (List.set_set_perm hi hk).mem_iff.1 hf
  rw [badF, if_pos hR2, e, fits_iff.2 hf]; rfl
theorem renF_name {g : Grp} (h : g.name.size ≤ 1000) : (⟨#[120]⟩ : ByteArray).size + g.name.size ≤ 9223372036854775807 := by
  have h1 : (⟨#[120]⟩ : ByteArray).size = 1 := rfl
  omega
def m12SC0 : Sc := (.one 11 (.take 12 (.one 13 (.take 14 (.one 15 .done)))))
def m12SC1 : Sc := (.one 7 (.take 12 (.one 13 (.take 14 (.one 15 .done)))))
def m12Sc : Sc := (.take 0 (.take 1 (.take 2 (.take 3 (.take 4 (.take 5 (.take 6 (.take 8 (.take 9 (.take 10 (.two 7 11 m12SC0 m12SC1)))))))))))
def m19SC0 : Sc := (.one 4 (.take 6 (.take 7 (.one 8 (.take 9 (.take 10 (.take 11 (.one 12 .done))))))))
def m19SC1 : Sc := (.one 8 (.take 9 (.take 10 (.take 11 (.one 12 .done)))))
def m19SC2 : Sc := (.take 9 (.one 1 (.take 10 (.take 11 (.one 12 .done)))))
def m19SC3 : Sc := (.take 6 (.take 7 (.two 1 8 m19SC1 m19SC2)))
def m19Sc : Sc := (.take 0 (.take 2 (.take 3 (.take 5 (.two 1 4 m19SC0 m19SC3)))))
/-- Kept for later: a goal of a walk's step. -/
theorem park_pgJ {P : Prop} (x : P) (_ : x = x) : P := x
/-- One step of a walk. -/
theorem go_pgJ {P : Prop} (h : P := by
  (first | ((first | apply LenA.map | apply NilA.map | apply NilA.mk); intro _) | ((first | apply NW.as | apply ValA.as); with_reducible assumption) | ((first | apply NW.i64 | apply NW.u32 | apply NW.u64 | apply NW.u8 | apply InA.nat | apply InA.map | apply AppA.snoc (f := pI) (a := _) rfl | apply AppA.one (f := pI) (a := _) rfl | apply AppA.snoc (f := pB) (a := _) rfl | apply AppA.one (f := pB) (a := _) rfl | apply AppA.snoc (f := pS) (a := _) rfl | apply AppA.one (f := pS) (a := _) rfl | apply AppA.snoc (f := Grp.pv) (a := _) rfl | apply AppA.one (f := Grp.pv) (a := _) rfl | (apply AppA.snoc (f := Grp.pv) (a := ⟨_, _, _, _, _⟩); dsimp only [Grp.pv]; exact rfl) | (apply AppA.one (f := Grp.pv) (a := ⟨_, _, _, _, _⟩); dsimp only [Grp.pv]; exact rfl) | apply AppA.map | apply AppA.nil | apply CutA.lo | apply CutA.hi); (first | omega | (simp only [lenS] at *; omega) | grind)) | ((first | (apply RemA.as; assumption) | apply RemA.self); (first | omega | (simp only [lenS] at *; omega) | grind)) | (apply ValA.as; assumption) | apply ValA.self | (apply NW.as; assumption) | (apply SzA.map; (intro _; rfl)) | with_reducible apply br_pt | with_reducible apply br_pf | with_reducible apply br_mt | with_reducible apply br_mf | apply Both.mk | ((first | apply br_T | apply br_F | apply br_mT | apply br_mF); assumption) | ((first | apply br_lss | apply br_leq | apply br_gtr | apply br_geq | apply br_dec | apply br_beq | apply br_bne | apply br_beqB | apply br_bneB | apply br_not | apply br_m | apply br_intro) <;> intro h0 <;> first | (exfalso; first | omega | exact tf h0 (by assumption) | exact tf (by assumption) h0 | exact h0 (by assumption) | exact h0 rfl | exact of_decide_eq_false h0 rfl) | skip) | refine ArrA.mk _ rfl rfl ?_ | (apply IdxA.lit; omega; exact rfl) | ((first | apply IdxA.of_nat | (apply IdxA.of_map; (first | omega | (simp only [lenS] at *; omega) | grind))); rotate_left; (first | omega | (simp only [lenS] at *; omega) | grind)) | apply AppC.own | apply CutO.part | apply IsL.set (f := pI) (a := _) rfl | apply IsL.rep (f := pI) (a := _) rfl | apply IsL.set (f := pB) (a := _) rfl | apply IsL.rep (f := pB) (a := _) rfl | apply IsL.set (f := pS) (a := _) rfl | apply IsL.rep (f := pS) (a := _) rfl | apply IsL.set (f := Grp.pv) (a := _) rfl | apply IsL.rep (f := Grp.pv) (a := _) rfl | (apply IsL.set (f := Grp.pv) (a := ⟨_, _, _, _, _⟩); dsimp only [Grp.pv]; exact rfl) | (apply IsL.rep (f := Grp.pv) (a := ⟨_, _, _, _, _⟩); dsimp only [Grp.pv]; exact rfl) | apply IsL.lit (f := pI) [] rfl | apply IsL.lit (f := pB) [] rfl | apply IsL.lit (f := pS) [] rfl | apply IsL.lit (f := Grp.pv) [] rfl | apply IsL.lit (f := Grp.pv) [] rfl | (apply And.intro; (first | with_reducible rfl | (show (_ : AV) = _; rfl) | (first | omega | (simp only [lenS] at *; omega) | grind)))) <;> (solve_by_elim (newGoals := .nonDependentOnly) (symm := false) (exfalso := false) (transparency := .reducible) only [rfl, park_pgJ])) : P := h
set_option maxHeartbeats 16000000 in
theorem PinningMoves_call (nl : Bool) (ts : List Int) (a b : Int) (ha : 0 ≤ a ∧ a ≤ 255) (hb : 0 ≤ b ∧ b ≤ 255) : ACall Try.prog 5 [.p (.list nl (ts.map pI)), .p (.v (.int .u8 a)), .p (.v (.int .u8 b))] [] fun r H => r = .p (pB true) := by
  refine acall_enter Try.func5 rfl rfl tabOK rfl ?_
  (conv => whnf); repeat' ((first | apply CondA.plain | refine' go_pgJ | (apply DrawA.quiet (by kernel_rfl) (by kernel_rfl); (conv => whnf); fail_if_success (show False)) | (refine CallA.scalar (sane23_call) ?_)) <;> (conv => whnf))
  · (refine RetK.p ?_ <;> repeat' (first | exact trivial | refine And.intro ?_ ?_ | with_reducible rfl | (refine pIEq ?_; (first | omega | (simp only [lenS] at *; omega) | grind)) | (refine bufMap ?_) | (refine bufNil ?_) | (refine bufEq ?_) | rfl); all_goals try first | refine pBEq ?_ | refine pIEq ?_)
  refine CallA.loc [] [] rfl rfl ((New_call nl ts).mono ?_)
  rintro r H ⟨ts', rfl, rfl⟩
  (conv => whnf); repeat' ((first | apply CondA.plain | refine' go_pgJ | (apply DrawA.quiet (by kernel_rfl) (by kernel_rfl); (conv => whnf); fail_if_success (show False))) <;> (conv => whnf))
  refine CallA.loc [0] [] rfl rfl ((Pinout_call nl ts' 0 (Nat.zero_le _)).mono ?_)
  rintro _ _ ⟨p, i, hp, hi, rfl, rfl⟩
  (conv => whnf); repeat' ((first | apply CondA.plain | refine' go_pgJ | (apply DrawA.quiet (by kernel_rfl) (by kernel_rfl); (conv => whnf); fail_if_success (show False))) <;> (conv => whnf))
  refine CallA.loc [0] [] rfl rfl ((Demands_call nl ts' i hi 5 (by omega)).mono ?_)
  rintro _ _ ⟨l, nb, i2, hl, hw, hi2, rfl, rfl⟩
  have hR := made_right hp (by omega) hw
  have hl5 := hp.len
  have ea := asg_nil hR
  cases hS : srch p.gs (optsL p l) [] with
  | none =>
    rw [hS] at ea
    have ea : asgF p l [] = ([], 9) := ea
    (conv => whnf); repeat' ((first | apply CondA.plain | refine' go_pgJ | (apply DrawA.quiet (by kernel_rfl) (by kernel_rfl); (conv => whnf); fail_if_success (show False))) <;> (conv => whnf))
    refine CallA.loc [] [] rfl rfl ((Assign_to ea nb true).mono ?_)
    rintro _ _ ⟨⟨n1, rfl⟩, rfl⟩
    (conv => whnf); repeat' ((first | apply CondA.plain | refine' go_pgJ | (apply DrawA.quiet (by kernel_rfl) (by kernel_rfl); (conv => whnf); fail_if_success (show False)) | (refine CallA.scalar (sane23_call) ?_)) <;> (conv => whnf))
    (refine RetK.p ?_ <;> repeat' (first | exact trivial | refine And.intro ?_ ?_ | with_reducible rfl | (refine pIEq ?_; (first | omega | (simp only [lenS] at *; omega) | grind)) | (refine bufMap ?_) | (refine bufNil ?_) | (refine bufEq ?_) | rfl); all_goals try first | refine pBEq ?_ | refine pIEq ?_)
  | some x =>
    rw [hS] at ea
    have ea : asgF p l [] = (x, 0) := ea
    obtain ⟨hxl, _⟩ := srch_fit hS
    rw [opts_len] at hxl
    (conv => whnf); repeat' ((first | apply CondA.plain | refine' go_pgJ | (apply DrawA.quiet (by kernel_rfl) (by kernel_rfl); (conv => whnf); fail_if_success (show False))) <;> (conv => whnf))
    refine CallA.loc [] [] rfl rfl ((Assign_to ea nb true).mono ?_)
    rintro _ _ ⟨⟨n1, rfl⟩, rfl⟩
    rcases Nat.eq_zero_or_pos l.length with hz | hz
    · (conv => whnf); repeat' ((first | apply CondA.plain | refine' go_pgJ | (apply DrawA.quiet (by kernel_rfl) (by kernel_rfl); (conv => whnf); fail_if_success (show False)) | (refine CallA.scalar (sane23_call) ?_)) <;> (conv => whnf))
      (refine RetK.p ?_ <;> repeat' (first | exact trivial | refine And.intro ?_ ?_ | with_reducible rfl | (refine pIEq ?_; (first | omega | (simp only [lenS] at *; omega) | grind)) | (refine bufMap ?_) | (refine bufNil ?_) | (refine bufEq ?_) | rfl); all_goals try first | refine pBEq ?_ | refine pIEq ?_)
    obtain ⟨y, hy⟩ : ∃ n : Nat, a.tmod (l.length : Int) = n := ⟨(a.tmod (l.length : Int)).toNat, by rw [Int.tmod_eq_emod_of_nonneg ha.1]; have := Int.emod_nonneg a (show (l.length : Int) ≠ 0 by omega); omega⟩
    have hyl : y < l.length := by
      rw [Int.tmod_eq_emod_of_nonneg ha.1] at hy
      have := Int.emod_lt_of_pos a (show 0 < (l.length : Int) by omega)
      omega
    obtain ⟨k, hk⟩ : ∃ n : Nat, b.tmod (l.length : Int) = n := ⟨(b.tmod (l.length : Int)).toNat, by rw [Int.tmod_eq_emod_of_nonneg hb.1]; have := Int.emod_nonneg b (show (l.length : Int) ≠ 0 by omega); omega⟩
    have hkl : k < l.length := by
      rw [Int.tmod_eq_emod_of_nonneg hb.1] at hk
      have := Int.emod_lt_of_pos b (show 0 < (l.length : Int) by omega)
      omega
    have hyx : y < x.length := by omega
    have hkx : k < x.length := by omega
    have hbs := bad_swap hR hS hyl hkl hxl
    have hbx := asg_bad hR hS
    have hml : ((l.set y l[k]).set k l[y]).length = l.length := by simp
    have hzl : ((x.set y x[k]).set k x[y]).length = l.length := by simp; omega
    (conv => whnf); repeat' ((first | apply CondA.plain | refine' go_pgJ | fail) <;> (conv => whnf))
    apply DrawA.quiet (by kernel_rfl) (by kernel_rfl)
    (conv => whnf); repeat' ((first | apply CondA.plain | refine' go_pgJ | fail) <;> (conv => whnf))
    refine DrawA.meet (fun (nb2 : Bool) => ⟨[(8, .ptr 1 0), (9, .p (.list nb (l.map pS))), (10, .p (.list n1 (x.map pI))), (12, .p (pI y)), (13, .p (pI k)), (14, .p (.list nb2 (((l.set y l[k]).set k l[y]).map pS))), (15, .buf 2)], src nl ts' i2 ++ [some (.cells [.p (pI p.n), .p (.list p.nl (p.gs.map Grp.pv))]), some (AO.buf 3 ((x.map pI).isEmpty && true) (x.map pI))]⟩) (fun (nb2 : Bool) => True) (DrawB.orders m12Sc (by kernel_rfl) (by kernel_rfl) (by kernel_rfl) ?_) ?_
    · (conv => whnf); repeat' ((first | apply CondA.plain | refine' go_pgJ | fail) <;> (conv => whnf))
      all_goals
        (refine' ⟨(l.map pS).isEmpty && true, _, _⟩; rotate_right; (refine SubA.thawed _ [2] [14] ?_; refine SubA.auto rfl rfl rfl rfl ?_ ?_ <;> repeat' (first | exact trivial | refine And.intro ?_ ?_ | with_reducible rfl | (refine pIEq ?_; (first | omega | (simp only [lenS] at *; omega) | grind)) | (refine bufMap ?_) | (refine bufNil ?_) | (refine bufEq ?_) | rfl)); rotate_right; (first | omega | (simp only []; omega) | (simp; omega) | (first | omega | (simp only [lenS] at *; omega) | grind)))
        all_goals first | trivial | skip
    rintro nb2 _
    (conv => whnf); repeat' ((first | apply CondA.plain | refine' go_pgJ | fail) <;> (conv => whnf))
    refine DrawA.meet (fun (nb3 : Bool) => ⟨[(8, .ptr 1 0), (9, .p (.list nb (l.map pS))), (10, .p (.list n1 (x.map pI))), (14, .p (.list nb2 (((l.set y l[k]).set k l[y]).map pS))), (15, .p (.list nb3 (((x.set y x[k]).set k x[y]).map pI)))], src nl ts' i2 ++ [some (.cells [.p (pI p.n), .p (.list p.nl (p.gs.map Grp.pv))])]⟩) (fun (nb3 : Bool) => True) (DrawB.orders m12Sc (by kernel_rfl) (by kernel_rfl) (by kernel_rfl) ?_) ?_
    · (conv => whnf); repeat' ((first | apply CondA.plain | refine' go_pgJ | fail) <;> (conv => whnf))
      all_goals
        (refine' ⟨(x.map pI).isEmpty && true, _, _⟩; rotate_right; (refine SubA.thawed _ [2] [15] ?_; refine SubA.auto rfl rfl rfl rfl ?_ ?_ <;> repeat' (first | exact trivial | refine And.intro ?_ ?_ | with_reducible rfl | (refine pIEq ?_; (first | omega | (simp only [lenS] at *; omega) | grind)) | (refine bufMap ?_) | (refine bufNil ?_) | (refine bufEq ?_) | rfl)); rotate_right; (first | omega | (simp only []; omega) | (simp; omega) | (first | omega | (simp only [lenS] at *; omega) | grind)))
        all_goals first | trivial | skip
    rintro nb3 _
    (conv => whnf); repeat' ((first | apply CondA.plain | refine' go_pgJ | fail) <;> (conv => whnf))
    refine loop_rule (fun (c : Nat) => ⟨[(8, .ptr 1 0), (9, .p (.list nb (l.map pS))), (10, .p (.list n1 (x.map pI))), (14, .p (.list nb2 (((l.set y l[k]).set k l[y]).map pS))), (15, .p (.list nb3 (((x.set y x[k]).set k x[y]).map pI))), (16, .ptr 2 0), (106, .p (pI p.gs.length)), (107, .p (pI c))], src nl ts' i2 ++ [some (.cells [.p (pI p.n), .p (.list p.nl (p.gs.map Grp.pv))]), some (.cells [.p (pI p.n), .buf 3]), some (AO.buf 43 ((p.gs.map Grp.pv).isEmpty && true) ((renG (p.gs.take c) ++ p.gs.drop c).map Grp.pv))]⟩) (fun (c : Nat) => c ≤ p.gs.length) (fun (c : Nat) => p.gs.length - c) 0 ?_ ?_ ?_; (refine SubA.auto rfl rfl rfl rfl ?_ ?_ <;> repeat' (first | exact trivial | refine And.intro ?_ ?_ | with_reducible rfl | (refine pIEq ?_; (first | omega | (simp only [lenS] at *; omega) | grind)) | (refine bufMap ?_) | (refine bufNil ?_) | (refine bufEq ?_) | rfl))
    · exact Nat.zero_le _
    rintro c hc
    rcases Nat.lt_or_ge c p.gs.length with hlt | hge
    · have hg1 := ren_at hlt
      have hnx := ren_next hlt
      have hrl := ren_len (gs := p.gs) (c := c)
      have hgn := (hp.gs c hlt).name
      have hst : (⟨#[120]⟩ : ByteArray).size + (p.gs[c].name).size ≤ 9223372036854775807 := renF_name (by rw [hgn]; have : (nmG c).size = 2 := rfl; omega)
      obtain ⟨g, hg⟩ : ∃ g, p.gs[c] = g := ⟨_, rfl⟩
      rw [hg] at hg1 hnx hst
      obtain ⟨rs, hrs⟩ : ∃ rs, renG (p.gs.take c) ++ p.gs.drop c = rs := ⟨_, rfl⟩
      rw [hrs] at hg1 hnx hrl
      rw [hrs]
      have hcr : c < rs.length := by omega
      (conv => whnf); repeat' ((first | apply CondA.plain | refine' go_pgJ | fail) <;> (conv => whnf))
      apply DrawA.orders m19Sc (by kernel_rfl) (by kernel_rfl) (by kernel_rfl)
      (conv => whnf); repeat' ((first | (apply IdxA.at_ (f := Grp.pv) g (Int.natCast_nonneg c) hg1) | (refine StrA.mk hst ?_) | (refine IsL.set (f := Grp.pv) (a := renF g) rfl ?_) | apply CondA.plain | refine' go_pgJ | fail) <;> (conv => whnf))
      all_goals
        (refine' ⟨c + 1, _, _, _⟩; rotate_right; (refine SubA.auto rfl rfl rfl rfl ?_ ?_ <;> repeat' (first | exact trivial | refine And.intro ?_ ?_ | with_reducible rfl | (refine pIEq ?_; (first | omega | (simp only [lenS] at *; omega) | grind)) | (refine bufMap ?_) | (refine bufNil ?_) | (refine bufEq ?_) | rfl)); rotate_right; (first | omega | (simp only []; omega) | (simp; omega) | (first | omega | (simp only [lenS] at *; omega) | grind)))
        all_goals first | exact hlt | exact hnx | skip
    obtain rfl : c = p.gs.length := by omega
    have hrn : renG (p.gs.take p.gs.length) ++ p.gs.drop p.gs.length = renG p.gs := by simp
    rw [hrn]
    have e5 := fun nb5 => (asg_ren (q := ⟨p.n, nb5, renG p.gs⟩) hp rfl rfl l).trans ea
    (conv => whnf); repeat' ((first | apply CondA.plain | refine' go_pgJ | fail) <;> (conv => whnf))
    refine CallA.loc [] [3] rfl rfl ((Assign_to (e5 _) nb true).mono ?_)
    rintro _ _ ⟨⟨n4, rfl⟩, rfl⟩
    have hm1 : decide (badF p l x = 0 ∧ x.length = l.length) = true := decide_eq_true ⟨hbx, hxl⟩
    have hm2 : decide (badF p ((l.set y l[k]).set k l[y]) ((x.set y x[k]).set k x[y]) = 0 ∧ ((x.set y x[k]).set k x[y]).length = ((l.set y l[k]).set k l[y]).length) = true := decide_eq_true ⟨hbs, by omega⟩
    (conv => whnf); repeat' ((first | apply CondA.plain | refine' go_pgJ | ((refine CallA.scalar (Meets_call p nb n1 l x) ?_; rw [hm1])) | ((refine CallA.scalar (Meets_call p nb2 nb3 ((l.set y l[k]).set k l[y]) ((x.set y x[k]).set k x[y])) ?_; rw [hm2])) | ((refine CallA.scalar (Ints_call _ _ x x) ?_; rw [decide_eq_true rfl])) | (refine CallA.scalar (sane23_call) ?_)) <;> (conv => whnf))
    (refine RetK.p ?_ <;> repeat' (first | exact trivial | refine And.intro ?_ ?_ | with_reducible rfl | (refine pIEq ?_; (first | omega | (simp only [lenS] at *; omega) | grind)) | (refine bufMap ?_) | (refine bufNil ?_) | (refine bufEq ?_) | rfl); all_goals try first | refine pBEq ?_ | refine pIEq ?_)
end Go.Proofs.Ytnogpkaehiapfaa
