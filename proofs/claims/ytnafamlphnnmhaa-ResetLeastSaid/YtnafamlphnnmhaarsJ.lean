/- ResetLeast (walk). -/
import Derived.Test.YtnafamlphnnmhaarsG
namespace Go.Proofs.Ytnafamlphnnmhaa
set_option linter.unusedSimpArgs false
set_option linter.unusedVariables false
set_option linter.unnecessarySimpa false
open Go.Abs
set_option maxRecDepth 100000
theorem clo_rch {l : List Rst} {A : List Bool} (hd : Down l) (hA : Clo l A) {i j : Nat} (h : Rch l 0 i j) (hi : A.getD i false = true) : A.getD j false = true := by
  induction h with
  | refl => exact hi
  | @tail k j h hn hk hj ih =>
    obtain ⟨q, hq, e⟩ := List.getElem_of_mem hj
    have := hA.2 k hk ih q hq
    rw [e] at this
    exact this
theorem less_self {l : List Rst} {A : List Bool} (hd : Down l) {k : Nat} (hk : k < l.length) : (lessS l A k).getD k false = false := by
  rw [lessS_get hk, (abvB_iff hd hk hk).2 (.refl _)]; simp
theorem single {l : List Rst} {A : List Bool} (hv : rstOk l = 0) (hA : Clo l A) {k : Nat} (hk : k < l.length) (h1 : (relL l A k).length = 1) : lessS l (orS A (needL l [(k : Int)]) l.length) k = A := by
  have hd := (rstOk_zero hv).2.1
  have hns := need_self hd hk
  have hkA : A.getD k false = false := by
    cases hb : A.getD k false with
    | false => rfl
    | true =>
      exfalso
      have e : (List.range l.length).filter (relP l A k) = [] := List.filter_eq_nil_iff.2 fun x hx => by
        have hx' := List.mem_range.1 hx
        rw [relP]
        cases hn : (needL l [(k : Int)]).getD x false with
        | false => simp
        | true =>
          obtain ⟨i, hi, hR⟩ := ((needL_spec hd (lines := [(k : Int)]) (by simp; omega)).2 x hx').1 hn
          have : i = k := by have := List.mem_singleton.1 hi; omega
          subst this
          rw [clo_rch hd hA hR hb]; simp
      rw [relL, e] at h1
      simp at h1
  have hone : ∀ j, j < l.length → relP l A k j = true → j = k := by
    intro j hj hp
    have hkm : k ∈ (List.range l.length).filter (relP l A k) := List.mem_filter.2 ⟨List.mem_range.2 hk, by rw [relP, hns, hkA]; rfl⟩
    have hjm : j ∈ (List.range l.length).filter (relP l A k) := List.mem_filter.2 ⟨List.mem_range.2 hj, hp⟩
    rw [relL, List.length_map] at h1
    obtain ⟨x, hx⟩ := List.length_eq_one_iff.1 h1
    rw [hx] at hkm hjm
    rw [List.mem_singleton.1 hkm, List.mem_singleton.1 hjm]
  refine getD_ext (by rw [lessS_len, hA.1]) fun j hj => ?_
  rw [lessS_len] at hj
  rw [lessS_get hj, orS_get hj]
  cases ha : A.getD j false with
  | true =>
    cases hb : abvB l k j with
    | false => rfl
    | true =>
      have := clo_rch hd hA ((abvB_iff hd hk hj).1 hb) ha
      rw [hkA] at this; cases this
  | false =>
    cases hn : (needL l [(k : Int)]).getD j false with
    | false => rfl
    | true =>
      have := hone j hj (by rw [relP, hn, ha]; rfl)
      subst this
      rw [(abvB_iff hd hk hk).2 (.refl _)]; rfl
set_option maxHeartbeats 16000000 in
theorem ResetLeast_call (n0 : Bool) (ts : List Int) (a : Int) (ha : 0 ≤ a ∧ a ≤ 255) :
    ACall Try.prog 5 [.p (.list n0 (ts.map pI)), .p (.v (.int .u8 a))] [] fun r H => r = .p (pB true) := by
  refine acall_enter Try.func5 rfl rfl tabOK rfl ?_
  (conv => whnf); repeat' ((first | ((first | apply LenA.map | apply NilA.map | apply NilA.mk); intro _) | apply CondA.plain | ((first | apply NW.as | apply ValA.as); with_reducible assumption) | ((first | apply NW.i64 | apply NW.u32 | apply NW.u64 | apply NW.u8 | apply InA.nat | apply InA.map | apply AppA.snoc (f := pI) (a := _) rfl | apply AppA.one (f := pI) (a := _) rfl | apply AppA.snoc (f := pB) (a := _) rfl | apply AppA.one (f := pB) (a := _) rfl | apply AppA.map | apply AppA.nil | apply CutA.lo | apply CutA.hi); (first | omega | (simp only [lenS] at *; omega) | grind)) | ((first | (apply RemA.as; assumption) | apply RemA.self); (first | omega | (simp only [lenS] at *; omega) | grind)) | (apply ValA.as; assumption) | apply ValA.self | (apply NW.as; assumption) | (apply SzA.map; (intro _; rfl)) | with_reducible apply br_pt | with_reducible apply br_pf | with_reducible apply br_mt | with_reducible apply br_mf | apply Both.mk | ((first | apply br_T | apply br_F | apply br_mT | apply br_mF); assumption) | ((first | apply br_lss | apply br_leq | apply br_gtr | apply br_geq | apply br_dec | apply br_beq | apply br_bne | apply br_beqB | apply br_bneB | apply br_not | apply br_m | apply br_intro) <;> intro h0 <;> first | (exfalso; first | omega | exact tf h0 (by assumption) | exact tf (by assumption) h0 | exact h0 (by assumption) | exact h0 rfl | exact of_decide_eq_false h0 rfl) | skip) | refine ArrA.mk _ rfl rfl ?_ | (apply IdxA.lit; omega; exact rfl) | ((first | apply IdxA.of_nat | (apply IdxA.of_map; (first | omega | (simp only [lenS] at *; omega) | grind))); rotate_left; (first | omega | (simp only [lenS] at *; omega) | grind)) | apply AppC.own | apply IsL.set (f := pI) (a := _) rfl | apply IsL.rep (f := pI) (a := _) rfl | apply IsL.set (f := pB) (a := _) rfl | apply IsL.rep (f := pB) (a := _) rfl | apply IsL.lit (f := pI) [] rfl | apply IsL.lit (f := pI) [_] rfl | apply IsL.lit (f := pB) [] rfl | apply IsL.lit (f := pB) [_] rfl | (apply And.intro; (first | with_reducible rfl | (show (_ : AV) = _; rfl) | (first | omega | (simp only [lenS] at *; omega) | grind))) | (apply DrawA.quiet (by kernel_rfl) (by kernel_rfl); (conv => whnf); fail_if_success (show False)) | (refine CallA.scalar (sane24_call) ?_)) <;> (conv => whnf))
  · (refine RetK.p ?_ <;> repeat' (first | exact trivial | refine And.intro ?_ ?_ | with_reducible rfl | (refine pIEq ?_; (first | omega | (simp only [lenS] at *; omega) | grind)) | (refine bufMap ?_) | (refine bufNil ?_) | (refine bufEq ?_) | rfl); all_goals try first | refine pBEq ?_ | refine pIEq ?_)
  refine CallA.loc [] [] rfl rfl ((New_call n0 ts).mono ?_)
  rintro r H ⟨ts', rfl, rfl⟩
  (conv => whnf); repeat' ((first | ((first | apply LenA.map | apply NilA.map | apply NilA.mk); intro _) | apply CondA.plain | ((first | apply NW.as | apply ValA.as); with_reducible assumption) | ((first | apply NW.i64 | apply NW.u32 | apply NW.u64 | apply NW.u8 | apply InA.nat | apply InA.map | apply AppA.snoc (f := pI) (a := _) rfl | apply AppA.one (f := pI) (a := _) rfl | apply AppA.snoc (f := pB) (a := _) rfl | apply AppA.one (f := pB) (a := _) rfl | apply AppA.map | apply AppA.nil | apply CutA.lo | apply CutA.hi); (first | omega | (simp only [lenS] at *; omega) | grind)) | ((first | (apply RemA.as; assumption) | apply RemA.self); (first | omega | (simp only [lenS] at *; omega) | grind)) | (apply ValA.as; assumption) | apply ValA.self | (apply NW.as; assumption) | (apply SzA.map; (intro _; rfl)) | with_reducible apply br_pt | with_reducible apply br_pf | with_reducible apply br_mt | with_reducible apply br_mf | apply Both.mk | ((first | apply br_T | apply br_F | apply br_mT | apply br_mF); assumption) | ((first | apply br_lss | apply br_leq | apply br_gtr | apply br_geq | apply br_dec | apply br_beq | apply br_bne | apply br_beqB | apply br_bneB | apply br_not | apply br_m | apply br_intro) <;> intro h0 <;> first | (exfalso; first | omega | exact tf h0 (by assumption) | exact tf (by assumption) h0 | exact h0 (by assumption) | exact h0 rfl | exact of_decide_eq_false h0 rfl) | skip) | refine ArrA.mk _ rfl rfl ?_ | (apply IdxA.lit; omega; exact rfl) | ((first | apply IdxA.of_nat | (apply IdxA.of_map; (first | omega | (simp only [lenS] at *; omega) | grind))); rotate_left; (first | omega | (simp only [lenS] at *; omega) | grind)) | apply AppC.own | apply IsL.set (f := pI) (a := _) rfl | apply IsL.rep (f := pI) (a := _) rfl | apply IsL.set (f := pB) (a := _) rfl | apply IsL.rep (f := pB) (a := _) rfl | apply IsL.lit (f := pI) [] rfl | apply IsL.lit (f := pI) [_] rfl | apply IsL.lit (f := pB) [] rfl | apply IsL.lit (f := pB) [_] rfl | (apply And.intro; (first | with_reducible rfl | (show (_ : AV) = _; rfl) | (first | omega | (simp only [lenS] at *; omega) | grind))) | (apply DrawA.quiet (by kernel_rfl) (by kernel_rfl); (conv => whnf); fail_if_success (show False))) <;> (conv => whnf))
  refine CallA.loc [0] [] rfl rfl ((Resets_call n0 ts' 0 (Nat.zero_le _) 10 (by omega)).mono ?_)
  rintro r H ⟨l, nl, i1, hO, hl, hi1, rfl, rfl⟩
  have hv := okr_ok hO (by omega)
  obtain ⟨h32, hd, _⟩ := rstOk_zero hv
  rcases Nat.eq_zero_or_pos l.length with hz | hp
  · have ez : decide (rstOk l = 0 ∧ Clo l []) = true := decide_eq_true ⟨hv, clo_nil hz⟩
    (conv => whnf); repeat' ((first | ((first | apply LenA.map | apply NilA.map | apply NilA.mk); intro _) | apply CondA.plain | ((first | apply NW.as | apply ValA.as); with_reducible assumption) | ((first | apply NW.i64 | apply NW.u32 | apply NW.u64 | apply NW.u8 | apply InA.nat | apply InA.map | apply AppA.snoc (f := pI) (a := _) rfl | apply AppA.one (f := pI) (a := _) rfl | apply AppA.snoc (f := pB) (a := _) rfl | apply AppA.one (f := pB) (a := _) rfl | apply AppA.map | apply AppA.nil | apply CutA.lo | apply CutA.hi); (first | omega | (simp only [lenS] at *; omega) | grind)) | ((first | (apply RemA.as; assumption) | apply RemA.self); (first | omega | (simp only [lenS] at *; omega) | grind)) | (apply ValA.as; assumption) | apply ValA.self | (apply NW.as; assumption) | (apply SzA.map; (intro _; rfl)) | with_reducible apply br_pt | with_reducible apply br_pf | with_reducible apply br_mt | with_reducible apply br_mf | apply Both.mk | ((first | apply br_T | apply br_F | apply br_mT | apply br_mF); assumption) | ((first | apply br_lss | apply br_leq | apply br_gtr | apply br_geq | apply br_dec | apply br_beq | apply br_bne | apply br_beqB | apply br_bneB | apply br_not | apply br_m | apply br_intro) <;> intro h0 <;> first | (exfalso; first | omega | exact tf h0 (by assumption) | exact tf (by assumption) h0 | exact h0 (by assumption) | exact h0 rfl | exact of_decide_eq_false h0 rfl) | skip) | refine ArrA.mk _ rfl rfl ?_ | (apply IdxA.lit; omega; exact rfl) | ((first | apply IdxA.of_nat | (apply IdxA.of_map; (first | omega | (simp only [lenS] at *; omega) | grind))); rotate_left; (first | omega | (simp only [lenS] at *; omega) | grind)) | apply AppC.own | apply IsL.set (f := pI) (a := _) rfl | apply IsL.rep (f := pI) (a := _) rfl | apply IsL.set (f := pB) (a := _) rfl | apply IsL.rep (f := pB) (a := _) rfl | apply IsL.lit (f := pI) [] rfl | apply IsL.lit (f := pI) [_] rfl | apply IsL.lit (f := pB) [] rfl | apply IsL.lit (f := pB) [_] rfl | (apply And.intro; (first | with_reducible rfl | (show (_ : AV) = _; rfl) | (first | omega | (simp only [lenS] at *; omega) | grind))) | (apply DrawA.quiet (by kernel_rfl) (by kernel_rfl); (conv => whnf); fail_if_success (show False)) | ((refine CallA.scalar (Closed_call nl true l []) ?_; rw [ez])) | (refine CallA.scalar (sane24_call) ?_)) <;> (conv => whnf))
    (refine RetK.p ?_ <;> repeat' (first | exact trivial | refine And.intro ?_ ?_ | with_reducible rfl | (refine pIEq ?_; (first | omega | (simp only [lenS] at *; omega) | grind)) | (refine bufMap ?_) | (refine bufNil ?_) | (refine bufEq ?_) | rfl); all_goals try first | refine pBEq ?_ | refine pIEq ?_)
  · obtain ⟨k, hk, hkl⟩ := u8_mod2 ha hp
    (conv => whnf); repeat' ((first | ((first | apply LenA.map | apply NilA.map | apply NilA.mk); intro _) | apply CondA.plain | ((first | apply NW.as | apply ValA.as); with_reducible assumption) | ((first | apply NW.i64 | apply NW.u32 | apply NW.u64 | apply NW.u8 | apply InA.nat | apply InA.map | apply AppA.snoc (f := pI) (a := _) rfl | apply AppA.one (f := pI) (a := _) rfl | apply AppA.snoc (f := pB) (a := _) rfl | apply AppA.one (f := pB) (a := _) rfl | apply AppA.map | apply AppA.nil | apply CutA.lo | apply CutA.hi); (first | omega | (simp only [lenS] at *; omega) | grind)) | ((first | (apply RemA.as; assumption) | apply RemA.self); (first | omega | (simp only [lenS] at *; omega) | grind)) | (apply ValA.as; assumption) | apply ValA.self | (apply NW.as; assumption) | (apply SzA.map; (intro _; rfl)) | with_reducible apply br_pt | with_reducible apply br_pf | with_reducible apply br_mt | with_reducible apply br_mf | apply Both.mk | ((first | apply br_T | apply br_F | apply br_mT | apply br_mF); assumption) | ((first | apply br_lss | apply br_leq | apply br_gtr | apply br_geq | apply br_dec | apply br_beq | apply br_bne | apply br_beqB | apply br_bneB | apply br_not | apply br_m | apply br_intro) <;> intro h0 <;> first | (exfalso; first | omega | exact tf h0 (by assumption) | exact tf (by assumption) h0 | exact h0 (by assumption) | exact h0 rfl | exact of_decide_eq_false h0 rfl) | skip) | refine ArrA.mk _ rfl rfl ?_ | (apply IdxA.lit; omega; exact rfl) | ((first | apply IdxA.of_nat | (apply IdxA.of_map; (first | omega | (simp only [lenS] at *; omega) | grind))); rotate_left; (first | omega | (simp only [lenS] at *; omega) | grind)) | apply AppC.own | apply IsL.set (f := pI) (a := _) rfl | apply IsL.rep (f := pI) (a := _) rfl | apply IsL.set (f := pB) (a := _) rfl | apply IsL.rep (f := pB) (a := _) rfl | apply IsL.lit (f := pI) [] rfl | apply IsL.lit (f := pI) [_] rfl | apply IsL.lit (f := pB) [] rfl | apply IsL.lit (f := pB) [_] rfl | (apply And.intro; (first | with_reducible rfl | (show (_ : AV) = _; rfl) | (first | omega | (simp only [lenS] at *; omega) | grind))) | (apply DrawA.orders rgS (by kernel_rfl) (by kernel_rfl) (by kernel_rfl))) <;> (conv => whnf))
    refine CallA.loc [0] [] rfl rfl ((State_call nl n0 l ts' i1 hi1 (by omega)).mono ?_)
    rintro _ _ ⟨lines, n2, i2, hln, hi2, rfl, rfl⟩
    have hA : Clo l (nedL l lines) := ned_clo hv hln
    obtain ⟨A, hAe⟩ : ∃ A, nedL l lines = A := ⟨_, rfl⟩
    rw [hAe] at hA ⊢
    have hal := hA.1
    have hX := need_clo hv hkl
    have hU := orS_clo hd hA hX
    have hD := lessS_clo hd hA hkl
    have d1 : chkE l A (k : Int) = 0 := chkE_zero.2 ⟨hv, hA, by omega, by omega⟩
    have d2 : (if chkE l A (k : Int) = 0 then relL l A ((k : Int)).toNat else []) = relL l A k := if_pos d1
    have d3 : (if chkE l A (k : Int) = 0 then asL l A ((k : Int)).toNat else []) = asL l A k := if_pos d1
    have d4 := rel_apply hv hA hkl
    have d5 := as_apply hv hA hkl
    obtain ⟨q1, q2⟩ := ned_one hv hkl
    have e1 : chkE l (orS A (needL l [(k : Int)]) l.length) (k : Int) = 0 := chkE_zero.2 ⟨hv, hU, by omega, by omega⟩
    have e2 : (if chkE l (orS A (needL l [(k : Int)]) l.length) (k : Int) = 0 then asL l (orS A (needL l [(k : Int)]) l.length) ((k : Int)).toNat else []) = asL l (orS A (needL l [(k : Int)]) l.length) k := if_pos e1
    have e3 := as_apply hv hU hkl
    have hsing := single hv hA hkl
    have g1 : ∀ j, j < l.length → (orS A (needL l [(k : Int)]) l.length).getD j false = (A.getD j false || (needL l [(k : Int)]).getD j false) := fun j hj => orS_get hj
    have g2 : ∀ j, j < l.length → (lessS l A k).getD j false = (A.getD j false && !abvB l k j) := fun j hj => lessS_get hj
    have g3 := need_self hd hkl
    have g4 := less_self (A := A) hd hkl
    obtain ⟨X, hXe⟩ : ∃ X, needL l [(k : Int)] = X := ⟨_, rfl⟩
    rw [hXe] at hX hU d4 q2 e1 e2 e3 hsing g1 g3
    obtain ⟨U, hUe⟩ : ∃ U, orS A X l.length = U := ⟨_, rfl⟩
    rw [hUe] at hU d4 e1 e2 e3 hsing g1
    obtain ⟨Dn, hDe⟩ : ∃ D, lessS l A k = D := ⟨_, rfl⟩
    rw [hDe] at hD d5 g2 g4
    obtain ⟨W, hWe⟩ : ∃ W, relL l A k = W := ⟨_, rfl⟩
    rw [hWe] at d2 d4 hsing
    obtain ⟨V, hVe⟩ : ∃ V, asL l A k = V := ⟨_, rfl⟩
    rw [hVe] at d3 d5
    have d4s : (applyR l A W).st = U := by rw [d4]
    have d4e : (applyR l A W).e = 0 := by rw [d4]
    have d5s : (applyR l A V).st = Dn := by rw [d5]
    have d5e : (applyR l A V).e = 0 := by rw [d5]
    have lX := hX.1
    have lU := hU.1
    have lD := hD.1
    have al : A.length ≤ 1000000 := by omega
    have ul : U.length ≤ 1000000 := by omega
    have uk : U[k]'(by omega) = true := by rw [← getD_at (by omega), g1 k hkl, g3]; simp
    have dk : Dn[k]'(by omega) = false := by rw [← getD_at (by omega), g4]
    (conv => whnf); repeat' ((first | ((first | apply LenA.map | apply NilA.map | apply NilA.mk); intro _) | apply CondA.plain | ((first | apply NW.as | apply ValA.as); with_reducible assumption) | ((first | apply NW.i64 | apply NW.u32 | apply NW.u64 | apply NW.u8 | apply InA.nat | apply InA.map | apply AppA.snoc (f := pI) (a := _) rfl | apply AppA.one (f := pI) (a := _) rfl | apply AppA.snoc (f := pB) (a := _) rfl | apply AppA.one (f := pB) (a := _) rfl | apply AppA.map | apply AppA.nil | apply CutA.lo | apply CutA.hi); (first | omega | (simp only [lenS] at *; omega) | grind)) | ((first | (apply RemA.as; assumption) | apply RemA.self); (first | omega | (simp only [lenS] at *; omega) | grind)) | (apply ValA.as; assumption) | apply ValA.self | (apply NW.as; assumption) | (apply SzA.map; (intro _; rfl)) | with_reducible apply br_pt | with_reducible apply br_pf | with_reducible apply br_mt | with_reducible apply br_mf | apply Both.mk | ((first | apply br_T | apply br_F | apply br_mT | apply br_mF); assumption) | ((first | apply br_lss | apply br_leq | apply br_gtr | apply br_geq | apply br_dec | apply br_beq | apply br_bne | apply br_beqB | apply br_bneB | apply br_not | apply br_m | apply br_intro) <;> intro h0 <;> first | (exfalso; first | omega | exact tf h0 (by assumption) | exact tf (by assumption) h0 | exact h0 (by assumption) | exact h0 rfl | exact of_decide_eq_false h0 rfl) | skip) | refine ArrA.mk _ rfl rfl ?_ | (apply IdxA.lit; omega; exact rfl) | ((first | apply IdxA.of_nat | (apply IdxA.of_map; (first | omega | (simp only [lenS] at *; omega) | grind))); rotate_left; (first | omega | (simp only [lenS] at *; omega) | grind)) | apply AppC.own | apply IsL.set (f := pI) (a := _) rfl | apply IsL.rep (f := pI) (a := _) rfl | apply IsL.set (f := pB) (a := _) rfl | apply IsL.rep (f := pB) (a := _) rfl | apply IsL.lit (f := pI) [] rfl | apply IsL.lit (f := pI) [_] rfl | apply IsL.lit (f := pB) [] rfl | apply IsL.lit (f := pB) [_] rfl | (apply And.intro; (first | with_reducible rfl | (show (_ : AV) = _; rfl) | (first | omega | (simp only [lenS] at *; omega) | grind))) | ((refine CallA.fresh _ (Release_call nl n2 l A k) ?_; rintro _ ⟨m1, rfl⟩; rw [d2, d1])) | ((refine CallA.fresh _ (Apply_call nl n2 m1 l A W al) ?_; rintro _ ⟨m2, rfl⟩; rw [d4s, d4e])) | ((refine CallA.fresh _ (Assert_call nl n2 l A k) ?_; rintro _ ⟨m3, rfl⟩; rw [d3, d1])) | ((refine CallA.fresh _ (Apply_call nl n2 m3 l A V al) ?_; rintro _ ⟨m4, rfl⟩; rw [d5s, d5e]))) <;> (conv => whnf))
    refine CallA.loc [] [1] rfl rfl ((Needed_call nl false l [(k : Int)]).mono ?_)
    rintro _ _ ⟨m5, rfl, rfl⟩
    rw [q1, q2]
    (conv => whnf); repeat' ((first | ((first | apply LenA.map | apply NilA.map | apply NilA.mk); intro _) | apply CondA.plain | ((first | apply NW.as | apply ValA.as); with_reducible assumption) | ((first | apply NW.i64 | apply NW.u32 | apply NW.u64 | apply NW.u8 | apply InA.nat | apply InA.map | apply AppA.snoc (f := pI) (a := _) rfl | apply AppA.one (f := pI) (a := _) rfl | apply AppA.snoc (f := pB) (a := _) rfl | apply AppA.one (f := pB) (a := _) rfl | apply AppA.map | apply AppA.nil | apply CutA.lo | apply CutA.hi); (first | omega | (simp only [lenS] at *; omega) | grind)) | ((first | (apply RemA.as; assumption) | apply RemA.self); (first | omega | (simp only [lenS] at *; omega) | grind)) | (apply ValA.as; assumption) | apply ValA.self | (apply NW.as; assumption) | (apply SzA.map; (intro _; rfl)) | with_reducible apply br_pt | with_reducible apply br_pf | with_reducible apply br_mt | with_reducible apply br_mf | apply Both.mk | ((first | apply br_T | apply br_F | apply br_mT | apply br_mF); assumption) | ((first | apply br_lss | apply br_leq | apply br_gtr | apply br_geq | apply br_dec | apply br_beq | apply br_bne | apply br_beqB | apply br_bneB | apply br_not | apply br_m | apply br_intro) <;> intro h0 <;> first | (exfalso; first | omega | exact tf h0 (by assumption) | exact tf (by assumption) h0 | exact h0 (by assumption) | exact h0 rfl | exact of_decide_eq_false h0 rfl | (exact tf uk h0) | (exact tf h0 dk)) | skip) | refine ArrA.mk _ rfl rfl ?_ | (apply IdxA.lit; omega; exact rfl) | ((first | apply IdxA.of_nat | (apply IdxA.of_map; (first | omega | (simp only [lenS] at *; omega) | grind))); rotate_left; (first | omega | (simp only [lenS] at *; omega) | grind)) | apply AppC.own | apply IsL.set (f := pI) (a := _) rfl | apply IsL.rep (f := pI) (a := _) rfl | apply IsL.set (f := pB) (a := _) rfl | apply IsL.rep (f := pB) (a := _) rfl | apply IsL.lit (f := pI) [] rfl | apply IsL.lit (f := pI) [_] rfl | apply IsL.lit (f := pB) [] rfl | apply IsL.lit (f := pB) [_] rfl | (apply And.intro; (first | with_reducible rfl | (show (_ : AV) = _; rfl) | (first | omega | (simp only [lenS] at *; omega) | grind)))) <;> (conv => whnf))
    refine loop_rule (fun (c : Nat) => ⟨[(6, .p (.list nl (l.map Rst.pv))), (7, .p (.list n2 (A.map pB))), (8, .p (pI k)), (9, .p (.list m1 (W.map Wr.pv))), (11, .p (.list m2 (U.map pB))), (16, .p (.list m4 (Dn.map pB))), (19, .p (.list m5 (X.map pB))), (143, .p (pI l.length)), (144, .p (pI c))], []⟩) (fun (c : Nat) => c ≤ l.length) (fun (c : Nat) => l.length - c) 0 ?_ ?_ ?_; (refine SubA.auto rfl rfl rfl rfl ?_ ?_ <;> repeat' (first | exact trivial | refine And.intro ?_ ?_ | with_reducible rfl | (refine pIEq ?_; (first | omega | (simp only [lenS] at *; omega) | grind)) | (refine bufMap ?_) | (refine bufNil ?_) | (refine bufEq ?_) | rfl))
    · exact Nat.zero_le _
    rintro c hc
    have hc : c ≤ l.length := hc
    rcases Nat.lt_or_ge c l.length with hlt | hge
    · have f1 := g1 c hlt
      have f2 := g2 c hlt
      rw [getD_at (by omega), getD_at (by omega), getD_at (by omega)] at f1
      rw [getD_at (by omega), getD_at (by omega)] at f2
      obtain ⟨q3, q4⟩ := ned_one hv hlt
      have hN := need_clo hv hlt
      have lN := hN.1
      have hab : abvB l k c = (needL l [(c : Int)])[k]'(by omega) := by rw [abvB, getD_at (by omega)]
      rw [hab] at f2
      obtain ⟨N, hNe⟩ : ∃ N, needL l [(c : Int)] = N := ⟨_, rfl⟩
      simp only [hNe] at f2 lN q4
      generalize hx : A[c]'(by omega) = x at f1 f2
      generalize hy : X[c]'(by omega) = y at f1
      generalize hz : N[k]'(by omega) = z at f2
      cases x <;> cases y <;> cases z
      all_goals
        (first | (have f1' : U[c]'(by omega) = true := f1) | (have f1' : U[c]'(by omega) = false := f1))
        (first | (have f2' : Dn[c]'(by omega) = true := f2) | (have f2' : Dn[c]'(by omega) = false := f2))
        clear f1 f2
        (conv => whnf); repeat' ((first | ((first | apply LenA.map | apply NilA.map | apply NilA.mk); intro _) | apply CondA.plain | ((first | apply NW.as | apply ValA.as); with_reducible assumption) | ((first | apply NW.i64 | apply NW.u32 | apply NW.u64 | apply NW.u8 | apply InA.nat | apply InA.map | apply AppA.snoc (f := pI) (a := _) rfl | apply AppA.one (f := pI) (a := _) rfl | apply AppA.snoc (f := pB) (a := _) rfl | apply AppA.one (f := pB) (a := _) rfl | apply AppA.map | apply AppA.nil | apply CutA.lo | apply CutA.hi); (first | omega | (simp only [lenS] at *; omega) | grind)) | ((first | (apply RemA.as; assumption) | apply RemA.self); (first | omega | (simp only [lenS] at *; omega) | grind)) | (apply ValA.as; assumption) | apply ValA.self | (apply NW.as; assumption) | (apply SzA.map; (intro _; rfl)) | with_reducible apply br_pt | with_reducible apply br_pf | with_reducible apply br_mt | with_reducible apply br_mf | apply Both.mk | ((first | apply br_T | apply br_F | apply br_mT | apply br_mF); assumption) | ((first | apply br_lss | apply br_leq | apply br_gtr | apply br_geq | apply br_dec | apply br_beq | apply br_bne | apply br_beqB | apply br_bneB | apply br_not | apply br_m | apply br_intro) <;> intro h0 <;> first | (exfalso; first | omega | exact tf h0 (by assumption) | exact tf (by assumption) h0 | exact h0 (by assumption) | exact h0 rfl | exact of_decide_eq_false h0 rfl | (exact tf hx h0) | (exact tf h0 hx) | (exact tf f2' h0) | (exact tf h0 f2') | (exact h0 f1') | (exact h0 (f1'.trans hy.symm))) | skip) | refine ArrA.mk _ rfl rfl ?_ | (apply IdxA.lit; omega; exact rfl) | ((first | apply IdxA.of_nat | (apply IdxA.of_map; (first | omega | (simp only [lenS] at *; omega) | grind))); rotate_left; (first | omega | (simp only [lenS] at *; omega) | grind)) | apply AppC.own | apply IsL.set (f := pI) (a := _) rfl | apply IsL.rep (f := pI) (a := _) rfl | apply IsL.set (f := pB) (a := _) rfl | apply IsL.rep (f := pB) (a := _) rfl | apply IsL.lit (f := pI) [] rfl | apply IsL.lit (f := pI) [_] rfl | apply IsL.lit (f := pB) [] rfl | apply IsL.lit (f := pB) [_] rfl | (apply And.intro; (first | with_reducible rfl | (show (_ : AV) = _; rfl) | (first | omega | (simp only [lenS] at *; omega) | grind))) | (apply DrawA.quiet (by kernel_rfl) (by kernel_rfl); (conv => whnf); fail_if_success (show False))) <;> (conv => whnf))
      iterate 5
        · (refine' ⟨c + 1, _, _, _⟩; rotate_right; (refine SubA.auto rfl rfl rfl rfl ?_ ?_ <;> repeat' (first | exact trivial | refine And.intro ?_ ?_ | with_reducible rfl | (refine pIEq ?_; (first | omega | (simp only [lenS] at *; omega) | grind)) | (refine bufMap ?_) | (refine bufNil ?_) | (refine bufEq ?_) | rfl)); rotate_right; (first | omega | (simp only []; omega) | (simp; omega) | (first | omega | (simp only [lenS] at *; omega) | grind)))
          show c + 1 ≤ l.length
          omega
      · refine CallA.loc [] [0] rfl rfl ((Needed_call nl false l [(c : Int)]).mono ?_)
        rintro _ _ ⟨m6, rfl, rfl⟩
        rw [q3, q4]
        (conv => whnf); repeat' ((first | ((first | apply LenA.map | apply NilA.map | apply NilA.mk); intro _) | apply CondA.plain | ((first | apply NW.as | apply ValA.as); with_reducible assumption) | ((first | apply NW.i64 | apply NW.u32 | apply NW.u64 | apply NW.u8 | apply InA.nat | apply InA.map | apply AppA.snoc (f := pI) (a := _) rfl | apply AppA.one (f := pI) (a := _) rfl | apply AppA.snoc (f := pB) (a := _) rfl | apply AppA.one (f := pB) (a := _) rfl | apply AppA.map | apply AppA.nil | apply CutA.lo | apply CutA.hi); (first | omega | (simp only [lenS] at *; omega) | grind)) | ((first | (apply RemA.as; assumption) | apply RemA.self); (first | omega | (simp only [lenS] at *; omega) | grind)) | (apply ValA.as; assumption) | apply ValA.self | (apply NW.as; assumption) | (apply SzA.map; (intro _; rfl)) | with_reducible apply br_pt | with_reducible apply br_pf | with_reducible apply br_mt | with_reducible apply br_mf | apply Both.mk | ((first | apply br_T | apply br_F | apply br_mT | apply br_mF); assumption) | ((first | apply br_lss | apply br_leq | apply br_gtr | apply br_geq | apply br_dec | apply br_beq | apply br_bne | apply br_beqB | apply br_bneB | apply br_not | apply br_m | apply br_intro) <;> intro h0 <;> first | (exfalso; first | omega | exact tf h0 (by assumption) | exact tf (by assumption) h0 | exact h0 (by assumption) | exact h0 rfl | exact of_decide_eq_false h0 rfl | (exact tf hz h0)) | skip) | refine ArrA.mk _ rfl rfl ?_ | (apply IdxA.lit; omega; exact rfl) | ((first | apply IdxA.of_nat | (apply IdxA.of_map; (first | omega | (simp only [lenS] at *; omega) | grind))); rotate_left; (first | omega | (simp only [lenS] at *; omega) | grind)) | apply AppC.own | apply IsL.set (f := pI) (a := _) rfl | apply IsL.rep (f := pI) (a := _) rfl | apply IsL.set (f := pB) (a := _) rfl | apply IsL.rep (f := pB) (a := _) rfl | apply IsL.lit (f := pI) [] rfl | apply IsL.lit (f := pI) [_] rfl | apply IsL.lit (f := pB) [] rfl | apply IsL.lit (f := pB) [_] rfl | (apply And.intro; (first | with_reducible rfl | (show (_ : AV) = _; rfl) | (first | omega | (simp only [lenS] at *; omega) | grind))) | (apply DrawA.quiet (by kernel_rfl) (by kernel_rfl); (conv => whnf); fail_if_success (show False))) <;> (conv => whnf))
        (refine' ⟨c + 1, _, _, _⟩; rotate_right; (refine SubA.auto rfl rfl rfl rfl ?_ ?_ <;> repeat' (first | exact trivial | refine And.intro ?_ ?_ | with_reducible rfl | (refine pIEq ?_; (first | omega | (simp only [lenS] at *; omega) | grind)) | (refine bufMap ?_) | (refine bufNil ?_) | (refine bufEq ?_) | rfl)); rotate_right; (first | omega | (simp only []; omega) | (simp; omega) | (first | omega | (simp only [lenS] at *; omega) | grind)))
        show c + 1 ≤ l.length
        omega
      · (refine' ⟨c + 1, _, _, _⟩; rotate_right; (refine SubA.auto rfl rfl rfl rfl ?_ ?_ <;> repeat' (first | exact trivial | refine And.intro ?_ ?_ | with_reducible rfl | (refine pIEq ?_; (first | omega | (simp only [lenS] at *; omega) | grind)) | (refine bufMap ?_) | (refine bufNil ?_) | (refine bufEq ?_) | rfl)); rotate_right; (first | omega | (simp only []; omega) | (simp; omega) | (first | omega | (simp only [lenS] at *; omega) | grind)))
        show c + 1 ≤ l.length
        omega
      · refine CallA.loc [] [0] rfl rfl ((Needed_call nl false l [(c : Int)]).mono ?_)
        rintro _ _ ⟨m6, rfl, rfl⟩
        rw [q3, q4]
        (conv => whnf); repeat' ((first | ((first | apply LenA.map | apply NilA.map | apply NilA.mk); intro _) | apply CondA.plain | ((first | apply NW.as | apply ValA.as); with_reducible assumption) | ((first | apply NW.i64 | apply NW.u32 | apply NW.u64 | apply NW.u8 | apply InA.nat | apply InA.map | apply AppA.snoc (f := pI) (a := _) rfl | apply AppA.one (f := pI) (a := _) rfl | apply AppA.snoc (f := pB) (a := _) rfl | apply AppA.one (f := pB) (a := _) rfl | apply AppA.map | apply AppA.nil | apply CutA.lo | apply CutA.hi); (first | omega | (simp only [lenS] at *; omega) | grind)) | ((first | (apply RemA.as; assumption) | apply RemA.self); (first | omega | (simp only [lenS] at *; omega) | grind)) | (apply ValA.as; assumption) | apply ValA.self | (apply NW.as; assumption) | (apply SzA.map; (intro _; rfl)) | with_reducible apply br_pt | with_reducible apply br_pf | with_reducible apply br_mt | with_reducible apply br_mf | apply Both.mk | ((first | apply br_T | apply br_F | apply br_mT | apply br_mF); assumption) | ((first | apply br_lss | apply br_leq | apply br_gtr | apply br_geq | apply br_dec | apply br_beq | apply br_bne | apply br_beqB | apply br_bneB | apply br_not | apply br_m | apply br_intro) <;> intro h0 <;> first | (exfalso; first | omega | exact tf h0 (by assumption) | exact tf (by assumption) h0 | exact h0 (by assumption) | exact h0 rfl | exact of_decide_eq_false h0 rfl | (exact tf hz h0)) | skip) | refine ArrA.mk _ rfl rfl ?_ | (apply IdxA.lit; omega; exact rfl) | ((first | apply IdxA.of_nat | (apply IdxA.of_map; (first | omega | (simp only [lenS] at *; omega) | grind))); rotate_left; (first | omega | (simp only [lenS] at *; omega) | grind)) | apply AppC.own | apply IsL.set (f := pI) (a := _) rfl | apply IsL.rep (f := pI) (a := _) rfl | apply IsL.set (f := pB) (a := _) rfl | apply IsL.rep (f := pB) (a := _) rfl | apply IsL.lit (f := pI) [] rfl | apply IsL.lit (f := pI) [_] rfl | apply IsL.lit (f := pB) [] rfl | apply IsL.lit (f := pB) [_] rfl | (apply And.intro; (first | with_reducible rfl | (show (_ : AV) = _; rfl) | (first | omega | (simp only [lenS] at *; omega) | grind))) | (apply DrawA.quiet (by kernel_rfl) (by kernel_rfl); (conv => whnf); fail_if_success (show False))) <;> (conv => whnf))
        (refine' ⟨c + 1, _, _, _⟩; rotate_right; (refine SubA.auto rfl rfl rfl rfl ?_ ?_ <;> repeat' (first | exact trivial | refine And.intro ?_ ?_ | with_reducible rfl | (refine pIEq ?_; (first | omega | (simp only [lenS] at *; omega) | grind)) | (refine bufMap ?_) | (refine bufNil ?_) | (refine bufEq ?_) | rfl)); rotate_right; (first | omega | (simp only []; omega) | (simp; omega) | (first | omega | (simp only [lenS] at *; omega) | grind)))
        show c + 1 ≤ l.length
        omega
    · rcases Nat.decEq W.length 1 with hw | hw
      · (conv => whnf); repeat' ((first | ((first | apply LenA.map | apply NilA.map | apply NilA.mk); intro _) | apply CondA.plain | ((first | apply NW.as | apply ValA.as); with_reducible assumption) | ((first | apply NW.i64 | apply NW.u32 | apply NW.u64 | apply NW.u8 | apply InA.nat | apply InA.map | apply AppA.snoc (f := pI) (a := _) rfl | apply AppA.one (f := pI) (a := _) rfl | apply AppA.snoc (f := pB) (a := _) rfl | apply AppA.one (f := pB) (a := _) rfl | apply AppA.map | apply AppA.nil | apply CutA.lo | apply CutA.hi); (first | omega | (simp only [lenS] at *; omega) | grind)) | ((first | (apply RemA.as; assumption) | apply RemA.self); (first | omega | (simp only [lenS] at *; omega) | grind)) | (apply ValA.as; assumption) | apply ValA.self | (apply NW.as; assumption) | (apply SzA.map; (intro _; rfl)) | with_reducible apply br_pt | with_reducible apply br_pf | with_reducible apply br_mt | with_reducible apply br_mf | apply Both.mk | ((first | apply br_T | apply br_F | apply br_mT | apply br_mF); assumption) | ((first | apply br_lss | apply br_leq | apply br_gtr | apply br_geq | apply br_dec | apply br_beq | apply br_bne | apply br_beqB | apply br_bneB | apply br_not | apply br_m | apply br_intro) <;> intro h0 <;> first | (exfalso; first | omega | exact tf h0 (by assumption) | exact tf (by assumption) h0 | exact h0 (by assumption) | exact h0 rfl | exact of_decide_eq_false h0 rfl | (exact hw (by omega))) | skip) | refine ArrA.mk _ rfl rfl ?_ | (apply IdxA.lit; omega; exact rfl) | ((first | apply IdxA.of_nat | (apply IdxA.of_map; (first | omega | (simp only [lenS] at *; omega) | grind))); rotate_left; (first | omega | (simp only [lenS] at *; omega) | grind)) | apply AppC.own | apply IsL.set (f := pI) (a := _) rfl | apply IsL.rep (f := pI) (a := _) rfl | apply IsL.set (f := pB) (a := _) rfl | apply IsL.rep (f := pB) (a := _) rfl | apply IsL.lit (f := pI) [] rfl | apply IsL.lit (f := pI) [_] rfl | apply IsL.lit (f := pB) [] rfl | apply IsL.lit (f := pB) [_] rfl | (apply And.intro; (first | with_reducible rfl | (show (_ : AV) = _; rfl) | (first | omega | (simp only [lenS] at *; omega) | grind))) | (refine CallA.scalar (sane24_call) ?_)) <;> (conv => whnf))
        (refine RetK.p ?_ <;> repeat' (first | exact trivial | refine And.intro ?_ ?_ | with_reducible rfl | (refine pIEq ?_; (first | omega | (simp only [lenS] at *; omega) | grind)) | (refine bufMap ?_) | (refine bufNil ?_) | (refine bufEq ?_) | rfl); all_goals try first | refine pBEq ?_ | refine pIEq ?_)
      · have hs := hsing hw
        obtain ⟨B, hB⟩ : ∃ B, asL l U k = B := ⟨_, rfl⟩
        rw [hB] at e2 e3
        have e3s : (applyR l U B).st = lessS l U k := by rw [e3]
        have e3e : (applyR l U B).e = 0 := by rw [e3]
        rw [hs] at e3s
        have k1 : decide (A = A) = true := decide_eq_true rfl
        (conv => whnf); repeat' ((first | ((first | apply LenA.map | apply NilA.map | apply NilA.mk); intro _) | apply CondA.plain | ((first | apply NW.as | apply ValA.as); with_reducible assumption) | ((first | apply NW.i64 | apply NW.u32 | apply NW.u64 | apply NW.u8 | apply InA.nat | apply InA.map | apply AppA.snoc (f := pI) (a := _) rfl | apply AppA.one (f := pI) (a := _) rfl | apply AppA.snoc (f := pB) (a := _) rfl | apply AppA.one (f := pB) (a := _) rfl | apply AppA.map | apply AppA.nil | apply CutA.lo | apply CutA.hi); (first | omega | (simp only [lenS] at *; omega) | grind)) | ((first | (apply RemA.as; assumption) | apply RemA.self); (first | omega | (simp only [lenS] at *; omega) | grind)) | (apply ValA.as; assumption) | apply ValA.self | (apply NW.as; assumption) | (apply SzA.map; (intro _; rfl)) | with_reducible apply br_pt | with_reducible apply br_pf | with_reducible apply br_mt | with_reducible apply br_mf | apply Both.mk | ((first | apply br_T | apply br_F | apply br_mT | apply br_mF); assumption) | ((first | apply br_lss | apply br_leq | apply br_gtr | apply br_geq | apply br_dec | apply br_beq | apply br_bne | apply br_beqB | apply br_bneB | apply br_not | apply br_m | apply br_intro) <;> intro h0 <;> first | (exfalso; first | omega | exact tf h0 (by assumption) | exact tf (by assumption) h0 | exact h0 (by assumption) | exact h0 rfl | exact of_decide_eq_false h0 rfl) | skip) | refine ArrA.mk _ rfl rfl ?_ | (apply IdxA.lit; omega; exact rfl) | ((first | apply IdxA.of_nat | (apply IdxA.of_map; (first | omega | (simp only [lenS] at *; omega) | grind))); rotate_left; (first | omega | (simp only [lenS] at *; omega) | grind)) | apply AppC.own | apply IsL.set (f := pI) (a := _) rfl | apply IsL.rep (f := pI) (a := _) rfl | apply IsL.set (f := pB) (a := _) rfl | apply IsL.rep (f := pB) (a := _) rfl | apply IsL.lit (f := pI) [] rfl | apply IsL.lit (f := pI) [_] rfl | apply IsL.lit (f := pB) [] rfl | apply IsL.lit (f := pB) [_] rfl | (apply And.intro; (first | with_reducible rfl | (show (_ : AV) = _; rfl) | (first | omega | (simp only [lenS] at *; omega) | grind))) | ((refine CallA.fresh _ (Assert_call nl m2 l U k) ?_; rintro _ ⟨m6, rfl⟩; rw [e2, e1])) | ((refine CallA.fresh _ (Apply_call nl m2 m6 l U B ul) ?_; rintro _ ⟨m7, rfl⟩; rw [e3s, e3e])) | ((refine CallA.scalar (Bools_call _ _ A A) ?_; rw [k1])) | (refine CallA.scalar (sane24_call) ?_)) <;> (conv => whnf))
        (refine RetK.p ?_ <;> repeat' (first | exact trivial | refine And.intro ?_ ?_ | with_reducible rfl | (refine pIEq ?_; (first | omega | (simp only [lenS] at *; omega) | grind)) | (refine bufMap ?_) | (refine bufNil ?_) | (refine bufEq ?_) | rfl); all_goals try first | refine pBEq ?_ | refine pIEq ?_)
end Go.Proofs.Ytnafamlphnnmhaa
