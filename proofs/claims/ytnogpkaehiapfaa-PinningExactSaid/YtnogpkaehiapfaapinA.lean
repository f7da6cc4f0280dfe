/- Made pinouts. -/
import Derived.Test.Ytnogpkaehiapfaapin8
import Derived.Test.Ytnogpkaehiapfaaboard2
namespace Go.Proofs.Ytnogpkaehiapfaa
set_option linter.unusedSimpArgs false
set_option linter.unusedVariables false
set_option linter.unnecessarySimpa false
open Go.Abs
set_option maxRecDepth 100000
def wordsL : List ByteArray := [sUart, ⟨#[115, 112, 105]⟩, ⟨#[105, 50, 99]⟩, ⟨#[112, 119, 109]⟩]
/-- Kept for later: a goal of a walk's step. -/
theorem park_pinA {P : Prop} (x : P) (_ : x = x) : P := x
/-- One step of a walk. -/
theorem go_pinA {P : Prop} (h : P := by
  (first | ((first | apply LenA.map | apply NilA.map | apply NilA.mk); intro _) | ((first | apply NW.as | apply ValA.as); with_reducible assumption) | ((first | apply NW.i64 | apply NW.u32 | apply NW.u64 | apply NW.u8 | apply InA.nat | apply InA.map | apply AppA.snoc (f := pI) (a := _) rfl | apply AppA.one (f := pI) (a := _) rfl | apply AppA.snoc (f := pB) (a := _) rfl | apply AppA.one (f := pB) (a := _) rfl | apply AppA.snoc (f := pS) (a := _) rfl | apply AppA.one (f := pS) (a := _) rfl | apply AppA.map | apply AppA.nil | apply CutA.lo | apply CutA.hi); (first | omega | (simp only [lenS] at *; omega) | grind)) | ((first | (apply RemA.as; assumption) | apply RemA.self); (first | omega | (simp only [lenS] at *; omega) | grind)) | (apply ValA.as; assumption) | apply ValA.self | (apply NW.as; assumption) | (apply SzA.map; (intro _; rfl)) | with_reducible apply br_pt | with_reducible apply br_pf | with_reducible apply br_mt | with_reducible apply br_mf | apply Both.mk | ((first | apply br_T | apply br_F | apply br_mT | apply br_mF); assumption) | ((first | apply br_lss | apply br_leq | apply br_gtr | apply br_geq | apply br_dec | apply br_beq | apply br_bne | apply br_beqB | apply br_bneB | apply br_not | apply br_m | apply br_intro) <;> intro h0 <;> first | (exfalso; first | omega | exact tf h0 (by assumption) | exact tf (by assumption) h0 | exact h0 (by assumption) | exact h0 rfl | exact of_decide_eq_false h0 rfl) | skip) | refine ArrA.mk _ rfl rfl ?_ | (apply IdxA.lit; omega; exact rfl) | ((first | apply IdxA.of_nat | (apply IdxA.of_map; (first | omega | (simp only [lenS] at *; omega) | grind))); rotate_left; (first | omega | (simp only [lenS] at *; omega) | grind)) | apply AppC.own | apply CutO.part | apply IsL.set (f := pI) (a := _) rfl | apply IsL.rep (f := pI) (a := _) rfl | apply IsL.set (f := pB) (a := _) rfl | apply IsL.rep (f := pB) (a := _) rfl | apply IsL.set (f := pS) (a := _) rfl | apply IsL.rep (f := pS) (a := _) rfl | apply IsL.lit (f := pI) [] rfl | apply IsL.lit (f := pI) [_] rfl | apply IsL.lit (f := pB) [] rfl | apply IsL.lit (f := pB) [_] rfl | apply IsL.lit (f := pS) [] rfl | apply IsL.lit (f := pS) [_] rfl | (apply And.intro; (first | with_reducible rfl | (show (_ : AV) = _; rfl) | (first | omega | (simp only [lenS] at *; omega) | grind)))) <;> (solve_by_elim (newGoals := .nonDependentOnly) (symm := false) (exfalso := false) (transparency := .reducible) only [rfl, park_pinA])) : P := h
theorem Words_call : ACall Try.prog 37 [] [] fun r H => r = .p (.list false (wordsL.map pS)) ∧ H = [] := by
  refine acall_enter Try.func37 rfl rfl tabOK rfl ?_
  (conv => whnf); repeat' ((first | (refine IsL.lit (f := pS) wordsL rfl ?_) | apply CondA.plain | refine' go_pinA | (apply DrawA.quiet (by kernel_rfl) (by kernel_rfl); (conv => whnf); fail_if_success (show False))) <;> (conv => whnf))
  (refine RetK.frz _ _ _ [0] ?_; refine' RetK.auto (.p (.list false (wordsL.map pS))) ([]) rfl rfl rfl rfl _ _ _ <;> repeat' (first | exact trivial | refine And.intro ?_ ?_ | with_reducible rfl | (refine pIEq ?_; (first | omega | (simp only [lenS] at *; omega) | grind)) | (refine bufMap ?_) | (refine bufNil ?_) | (refine bufEq ?_) | rfl))
/-- The name of a made group. -/
def nmG (c : Nat) : ByteArray := ⟨#[103]⟩ ++ bstr [97 + (c : Int)]
theorem nmG_word : ∀ c, c < 6 → wordF (nmG c) = true := by decide +kernel
theorem nmG_ne : ∀ c, c < 6 → ∀ d, d < c → nmG d ≠ nmG c := by decide +kernel
/-- A group that was made. -/
structure MadeG (n : Int) (c : Nat) (g : Grp) : Prop where
  name : g.name = nmG c
  pins : ∃ (a m : Nat), g.pins = (List.range (m + 1)).map (fun (i : Nat) => ((a + i : Nat) : Int)) ∧ ((a + m : Nat) : Int) < n
  funs : ∃ k, ∃ h : k < 4, g.funs = [wordsL[k]] ∨ g.funs = [wordsL[k], wordsL[(k + 1) % 4]'(Nat.mod_lt _ (by decide))]
structure MadeP (p : Pin) : Prop where
  n : 3 ≤ p.n ∧ p.n ≤ 9
  len : p.gs.length ≤ 5
  gs : ∀ c, (h : c < p.gs.length) → MadeG p.n c p.gs[c]
theorem MadeG.ok {n : Int} {c : Nat} {g : Grp} (h : MadeG n c g) (hc : c < 6) : GOK n g := by
  obtain ⟨h1, ⟨a, m, h2, h3⟩, k, hk, h4⟩ := h
  have hw : ∀ x ∈ wordsL, wordF x = true := by decide +kernel
  have hf : ∀ x ∈ g.funs, x ∈ wordsL := fun x hx => by
    rcases h4 with h4 | h4 <;> rw [h4] at hx
    · rw [List.mem_singleton.1 hx]; exact List.getElem_mem _
    · rcases List.mem_cons.1 hx with rfl | hx
      · exact List.getElem_mem _
      · rw [List.mem_singleton.1 hx]; exact List.getElem_mem _
  refine ⟨by rw [h1]; exact nmG_word c hc, fun e => ?_, fun e => ?_, ?_, fun x hx => ?_, fun j hj h0 => ?_, fun x hx => hw x (hf x hx), ?_⟩
  · rw [e] at h2
    have := congrArg List.length h2
    simp at this
  · rcases h4 with h4 | h4 <;> rw [e] at h4 <;> cases h4
  · rcases h4 with h4 | h4 <;> rw [h4] <;> simp
  · rw [h2] at hx
    obtain ⟨i, hi, rfl⟩ := List.mem_map.1 hx
    have := List.mem_range.1 hi
    omega
  · have hl : g.pins.length = m + 1 := by rw [h2]; simp
    have e : ∀ i, (hi : i < g.pins.length) → g.pins[i] = ((a + i : Nat) : Int) := fun i hi => by
      have : g.pins[i]? = ((List.range (m + 1)).map (fun (i : Nat) => ((a + i : Nat) : Int)))[i]? := by rw [h2]
      rw [List.getElem?_eq_getElem hi, List.getElem?_map, List.getElem?_range (by omega)] at this
      simpa using this
    rw [e j hj, e (j - 1) (by omega)]
    omega
  · rintro ⟨j, hj, hm⟩
    rcases h4 with h4 | h4
    · have : j = 0 := by rw [h4] at hj; simpa using hj
      subst this
      simp at hm
    · have hj2 : j < 2 := by rw [h4] at hj; simpa using hj
      have hd : ∀ k, (h : k < 4) → wordsL[(k + 1) % 4]'(Nat.mod_lt _ (by decide)) ≠ wordsL[k] := by decide +kernel
      rcases Nat.lt_or_ge j 1 with h5 | h5
      · have : j = 0 := by omega
        subst this
        simp at hm
      · have : j = 1 := by omega
        subst this
        have e0 : g.funs[1] = wordsL[(k + 1) % 4]'(Nat.mod_lt _ (by decide)) := by
          have : g.funs[1]? = [wordsL[k], wordsL[(k + 1) % 4]'(Nat.mod_lt _ (by decide))][1]? := by rw [h4]
          rw [List.getElem?_eq_getElem hj] at this
          simpa using this
        have e1 : g.funs.take 1 = [wordsL[k]] := by rw [h4]; rfl
        rw [e0, e1] at hm
        exact hd k hk (List.mem_singleton.1 hm)
theorem MadeP.valid {p : Pin} (h : MadeP p) : VP p := by
  have hn := h.n
  have hl := h.len
  refine ⟨by omega, by omega, fun g hg => ?_, fun i j hij hj e => ?_⟩
  · obtain ⟨c, hc, rfl⟩ := List.getElem_of_mem hg
    exact (h.gs c hc).ok (by omega)
  · rw [gs_getD (by omega), gs_getD hj, (h.gs i (by omega)).name, (h.gs j hj).name] at e
    exact nmG_ne j (by omega) i hij e
def piSC0 : Sc := (.one 2 (.take 6 (.load 7 (.one 8 (.one 9 (.take 10 (.one 11 .done)))))))
def piSC1 : Sc := (.one 8 (.one 9 (.take 10 (.one 11 .done))))
def piSC2 : Sc := (.one 1 (.one 9 (.take 10 (.one 11 .done))))
def piSC3 : Sc := (.take 6 (.load 7 (.two 1 8 piSC1 piSC2)))
def piSc : Sc := (.take 0 (.take 3 (.take 4 (.take 5 (.two 1 2 piSC0 piSC3)))))
set_option maxHeartbeats 8000000 in
theorem Pinout_call (nl : Bool) (ts : List Int) (i : Nat) (h : i ≤ ts.length) : ACall Try.prog 11 [.ptr 0 0] (src nl ts i) fun r H => ∃ (p : Pin) (i' : Nat), MadeP p ∧ i' ≤ ts.length ∧ r = .p p.pv ∧ H = src nl ts i' := by
  refine acall_enterDn 2 Try.func11 rfl rfl tabOK rfl ?_
  (conv => whnf); repeat' ((first | apply CondA.plain | refine' go_pinA | (apply DrawA.quiet (by kernel_rfl) (by kernel_rfl); (conv => whnf); fail_if_success (show False))) <;> (conv => whnf))
  refine CallA.loc [0] [] rfl rfl ((Range_call nl ts i h 3 9 (by omega) (by omega)).mono ?_)
  rintro _ _ ⟨n, i1, hn0, hn1, hi1, rfl, rfl⟩
  (conv => whnf); repeat' ((first | apply CondA.plain | refine' go_pinA | (apply DrawA.quiet (by kernel_rfl) (by kernel_rfl); (conv => whnf); fail_if_success (show False))) <;> (conv => whnf))
  refine CallA.loc [0] [] rfl rfl ((N_call nl ts i1 hi1 6 (by omega)).mono ?_)
  rintro _ _ ⟨v, i2, hv0, hv1, hi2, rfl, rfl⟩
  (conv => whnf); repeat' ((first | apply CondA.plain | refine' go_pinA | (apply DrawA.quiet (by kernel_rfl) (by kernel_rfl); (conv => whnf); fail_if_success (show False))) <;> (conv => whnf))
  have hinit : ∀ c, (h : c < ([] : List Grp).length) → MadeG n c ([] : List Grp)[c] := fun c h => by cases h
  refine loopD_rule (fun (⟨m, nb, gs, i⟩ : Nat × Bool × List Grp × Nat) => ⟨[(0, .ptr 0 0), (2, .ptr 1 0), (3, .ptr 2 0), (4, .p (pI m))], src nl ts i ++ [some (.cells [.p (pI 0), .p (.list true [])]), some (.cells [.p (pI n), .buf 3]), some (AO.buf 43 nb (gs.map Grp.pv))]⟩)
    (fun _ => []) (fun ⟨m, nb, gs, i⟩ => i ≤ ts.length ∧ m + gs.length ≤ 5 ∧ ∀ c, (h : c < gs.length) → MadeG n c gs[c]) (fun ⟨m, _, _, _⟩ => m) (v.toNat, true, [], i2) ?_ rfl ?_ ?_ ?_
  · refine SubC.cell _ 2 1 43 _ _ _ _ _ rfl rfl rfl (.sub _ (SubA.of [3] rfl ?_ ?_ rfl rfl)) <;> (repeat' (first | exact trivial | refine And.intro ?_ ?_ | with_reducible rfl | (refine pIEq ?_; (first | omega | (simp only [lenS] at *; omega) | grind)) | (refine bufMap ?_) | (refine bufNil ?_) | (refine bufEq ?_) | rfl))
  · exact ⟨hi2, by show v.toNat + 0 ≤ 5; omega, hinit⟩
  · rintro ⟨m, nb, gs, i⟩ _ x hx
    cases hx
  clear hinit hi2 hi1
  rintro ⟨m, nb, gs, i⟩ ⟨hi, hm, hgs⟩
  rcases Nat.eq_zero_or_pos m with hz | hz
  · subst hz
    (conv => whnf); repeat' ((first | apply CondA.plain | refine' go_pinA | (apply DrawA.quiet (by kernel_rfl) (by kernel_rfl); (conv => whnf); fail_if_success (show False))) <;> (conv => whnf))
    refine .nil _ ?_
    conv => whnf
    (refine RetK.frz _ _ _ [3] ?_; refine' RetK.auto (.p (⟨n, nb, gs⟩ : Pin).pv) (src nl ts i) rfl rfl rfl rfl _ _ _ <;> repeat' (first | exact trivial | refine And.intro ?_ ?_ | with_reducible rfl | (refine pIEq ?_; (first | omega | (simp only [lenS] at *; omega) | grind)) | (refine bufMap ?_) | (refine bufNil ?_) | (refine bufEq ?_) | rfl))
    exact ⟨⟨n, nb, gs⟩, i, ⟨by show 3 ≤ n ∧ n ≤ 9; omega, by show gs.length ≤ 5; omega, hgs⟩, hi, rfl, rfl⟩
  have hst : (⟨#[103]⟩ : ByteArray).size + (bstr [97 + (gs.length : Int)]).size ≤ 9223372036854775807 := by
    have h1 : (⟨#[103]⟩ : ByteArray).size = 1 := rfl
    have h2 : (bstr [97 + (gs.length : Int)]).size = 1 := rfl
    omega
  (conv => whnf); repeat' ((first | (refine IsL.lit (f := fun n : Int => PV.v (.int .u8 n)) [97 + (gs.length : Int)] rfl ?_) | (refine BytesA.mk [97 + (gs.length : Int)] rfl ?_) | (refine StrA.mk hst ?_) | apply CondA.plain | refine' go_pinA | (apply DrawA.quiet (by kernel_rfl) (by kernel_rfl); (conv => whnf); fail_if_success (show False))) <;> (conv => whnf))
  refine CallA.loc [0] [] rfl rfl ((N_call nl ts i hi n (by omega)).mono ?_)
  rintro _ _ ⟨a, i3, ha0, ha1, hi3, rfl, rfl⟩
  obtain ⟨a, rfl⟩ : ∃ b : Nat, a = b := ⟨a.toNat, by omega⟩
  (conv => whnf); repeat' ((first | apply CondA.plain | refine' go_pinA | (apply DrawA.quiet (by kernel_rfl) (by kernel_rfl); (conv => whnf); fail_if_success (show False))) <;> (conv => whnf))
  refine loopD_rule (fun (⟨k, nq, ps, i⟩ : Nat × Bool × List Int × Nat) => ⟨[(0, .ptr 0 0), (2, .ptr 1 0), (3, .ptr 2 0), (4, .p (pI m)), (5, .ptr 4 0), (6, .p (pI a)), (7, .p (pI ((a : Int) + k)))], src nl ts i ++ [some (.cells [.p (pI 0), .p (.list true [])]), some (.cells [.p (pI n), .buf 3]), some (AO.buf 43 nb (gs.map Grp.pv))] ++ [some (.cells [.p (pS (nmG gs.length)), .buf 5, .p (.list true [])]), some (AO.buf 3 nq (ps.map pI))]⟩)
    (fun _ => []) (fun ⟨k, nq, ps, i⟩ => i ≤ ts.length ∧ k ≤ 2 ∧ ps = (List.range k).map (fun (j : Nat) => ((a + j : Nat) : Int)) ∧ ((a + k : Nat) : Int) ≤ n) (fun ⟨k, _, _, _⟩ => 2 - k) (0, true, [], i3) ?_ rfl ?_ ?_ ?_
  · refine SubC.cell _ 5 1 3 _ _ _ _ _ rfl rfl rfl (.sub _ (SubA.of [3, 5, 6] rfl ?_ ?_ rfl rfl)) <;> (repeat' (first | exact trivial | refine And.intro ?_ ?_ | with_reducible rfl | (refine pIEq ?_; (first | omega | (simp only [lenS] at *; omega) | grind)) | (refine bufMap ?_) | (refine bufNil ?_) | (refine bufEq ?_) | rfl))
  · exact ⟨hi3, by omega, rfl, by omega⟩
  · rintro ⟨k, nq, ps, i⟩ _ x hx
    cases hx
  clear hi3 hi
  rintro ⟨k, nq, ps, i⟩ ⟨hi, hk2, hps, hkn⟩
  have hpl : ps.length = k := by rw [hps]; simp
  rcases Nat.lt_or_ge (a + k) n.toNat with hlt | hge
  · (conv => whnf); repeat' ((first | apply CondA.plain | refine' go_pinA | (apply DrawA.quiet (by kernel_rfl) (by kernel_rfl); (conv => whnf); fail_if_success (show False))) <;> (conv => whnf))
    refine CallA.loc [0] [] rfl rfl ((Range_call nl ts i hi 1 2 (by omega) (by omega)).mono ?_)
    rintro _ _ ⟨r, i4, hr1, hr2, hi4, rfl, rfl⟩
    rcases Decidable.em ((k : Int) < r) with hkr | hkr
    · (conv => whnf); repeat' ((first | apply CondA.plain | refine' go_pinA | (apply DrawA.quiet (by kernel_rfl) (by kernel_rfl); (conv => whnf); fail_if_success (show False))) <;> (conv => whnf))
      refine ⟨(k + 1, false, ps ++ [((a + k : Nat) : Int)], i4), ?_, ?_, .sub _ (SubA.of [3, 4, 7] rfl ?_ ?_ rfl rfl), rfl⟩
      · exact ⟨hi4, by omega, by rw [hps, List.range_succ, List.map_append]; rfl, by omega⟩
      · show 2 - (k + 1) < 2 - k
        omega
      · (repeat' (first | exact trivial | refine And.intro ?_ ?_ | with_reducible rfl | (refine pIEq ?_; (first | omega | (simp only [lenS] at *; omega) | grind)) | (refine bufMap ?_) | (refine bufNil ?_) | (refine bufEq ?_) | rfl))
      · (repeat' (first | exact trivial | refine And.intro ?_ ?_ | with_reducible rfl | (refine pIEq ?_; (first | omega | (simp only [lenS] at *; omega) | grind)) | (refine bufMap ?_) | (refine bufNil ?_) | (refine bufEq ?_) | rfl))
    · skip
      have hk1 : 1 ≤ k := by omega
      (conv => whnf); repeat' ((first | apply CondA.plain | refine' go_pinA | (apply DrawA.quiet (by kernel_rfl) (by kernel_rfl); (conv => whnf); fail_if_success (show False))) <;> (conv => whnf))
      refine CallA.loc [0] [] rfl rfl ((N_call nl ts i4 (by omega) 4 (by omega)).mono ?_)
      rintro _ _ ⟨f, i5, hf0, hf1, hi5, rfl, rfl⟩
      obtain ⟨f, rfl⟩ : ∃ b : Nat, f = b := ⟨f.toNat, by omega⟩
      have hf4 : f < 4 := by omega
      obtain ⟨w, hw⟩ : ∃ w, wordsL[((f : Nat) : Int).toNat]? = some w := ⟨_, List.getElem?_eq_getElem (by exact hf4)⟩
      have hw0 : wordsL[f]'(by exact hf4) = w := by
        have := List.getElem?_eq_getElem (l := wordsL) (i := f) (by exact hf4)
        rw [Int.toNat_natCast] at hw
        rw [hw] at this; injection this with this; exact this.symm
      obtain ⟨z, hz2⟩ : ∃ z, wordsL[(((f + 1) % 4 : Nat) : Int).toNat]? = some z := ⟨_, List.getElem?_eq_getElem (by rw [Int.toNat_natCast]; exact Nat.mod_lt _ (by decide))⟩
      have hz0 : wordsL[(f + 1) % 4]'(Nat.mod_lt _ (by decide)) = z := by
        have := List.getElem?_eq_getElem (l := wordsL) (i := (f + 1) % 4) (Nat.mod_lt _ (by decide))
        rw [Int.toNat_natCast] at hz2
        rw [hz2] at this; injection this with this; exact this.symm
      have hmod : ((f : Int) + 1).tmod 4 = (((f + 1) % 4 : Nat) : Int) := by
        rw [Int.tmod_eq_emod_of_nonneg (by omega)]; omega
      (conv => whnf); repeat' ((first | apply CondA.plain | refine' go_pinA | (apply DrawA.quiet (by kernel_rfl) (by kernel_rfl); (conv => whnf); fail_if_success (show False))) <;> (conv => whnf))
      refine CallA.loc [] [] rfl rfl (Words_call.mono ?_)
      rintro _ _ ⟨rfl, rfl⟩
      (conv => whnf); repeat' ((first | (apply IdxA.at_ (f := pS) w (Int.natCast_nonneg f) hw) | (refine IsL.lit (f := pS) [w] rfl ?_) | apply CondA.plain | refine' go_pinA | (apply DrawA.quiet (by kernel_rfl) (by kernel_rfl); (conv => whnf); fail_if_success (show False))) <;> (conv => whnf))
      refine CallA.loc [0] [] rfl rfl ((N_call nl ts i5 hi5 2 (by omega)).mono ?_)
      rintro _ _ ⟨q, i6, hq0, hq1, hi6, rfl, rfl⟩
      rcases Decidable.em (q = 1) with hq | hq
      · subst hq
        (conv => whnf); repeat' ((first | apply CondA.plain | refine' go_pinA | fail) <;> (conv => whnf))
        apply DrawA.orders piSc (by kernel_rfl) (by kernel_rfl) (by kernel_rfl)
        (conv => whnf); repeat' ((first | (apply IdxA.at_ (f := pS) z (Int.natCast_nonneg _) hz2) | (refine IsL.lit (f := pS) [z] rfl ?_) | (refine IsL.lit (f := Grp.pv) [⟨nmG gs.length, nq, ps, false, [w, z]⟩] rfl ?_) | apply CondA.plain | refine' go_pinA | (apply DrawA.quiet (by kernel_rfl) (by kernel_rfl); (conv => whnf); fail_if_success (show False)) | ((refine CallA.loc [] [] rfl rfl (Words_call.mono ?_); rintro _ _ ⟨rfl, rfl⟩))) <;> (conv => whnf))
        all_goals
          refine ⟨(m - 1, false, gs ++ [⟨nmG gs.length, nq, ps, false, [w, z]⟩], i6), ?_, ?_, .sub _ ?_, rfl⟩
          · refine ⟨hi6, by rw [List.length_append]; show m - 1 + (gs.length + 1) ≤ 5; omega, fun c hc => ?_⟩
            rcases Nat.lt_or_ge c gs.length with h1 | h1
            · rw [List.getElem_append_left h1]; exact hgs c h1
            · rw [List.length_append] at hc
              have hc : c < gs.length + 1 := hc
              obtain rfl : c = gs.length := by omega
              rw [List.getElem_append_right (Nat.le_refl _)]
              simp only [Nat.sub_self, List.getElem_cons_zero]
              exact ⟨rfl, ⟨a, k - 1, by rw [show k - 1 + 1 = k by omega]; exact hps, by omega⟩, f, hf4, .inr (by rw [hw0, hz0])⟩
          · show m - 1 < m
            omega
          · (refine SubA.auto rfl rfl rfl rfl ?_ ?_ <;> repeat' (first | exact trivial | refine And.intro ?_ ?_ | with_reducible rfl | (refine pIEq ?_; (first | omega | (simp only [lenS] at *; omega) | grind)) | (refine bufMap ?_) | (refine bufNil ?_) | (refine bufEq ?_) | rfl))
      · (conv => whnf); repeat' ((first | (refine IsL.lit (f := Grp.pv) [⟨nmG gs.length, nq, ps, false, [w]⟩] rfl ?_) | apply CondA.plain | refine' go_pinA | (apply DrawA.quiet (by kernel_rfl) (by kernel_rfl); (conv => whnf); fail_if_success (show False))) <;> (conv => whnf))
        refine ⟨(m - 1, false, gs ++ [⟨nmG gs.length, nq, ps, false, [w]⟩], i6), ?_, ?_, .sub _ ?_, rfl⟩
        · refine ⟨hi6, by rw [List.length_append]; show m - 1 + (gs.length + 1) ≤ 5; omega, fun c hc => ?_⟩
          rcases Nat.lt_or_ge c gs.length with h1 | h1
          · rw [List.getElem_append_left h1]; exact hgs c h1
          · rw [List.length_append] at hc
            have hc : c < gs.length + 1 := hc
            obtain rfl : c = gs.length := by omega
            rw [List.getElem_append_right (Nat.le_refl _)]
            simp only [Nat.sub_self, List.getElem_cons_zero]
            exact ⟨rfl, ⟨a, k - 1, by rw [show k - 1 + 1 = k by omega]; exact hps, by omega⟩, f, hf4, .inl (by rw [hw0])⟩
        · show m - 1 < m
          omega
        · (refine SubA.auto rfl rfl rfl rfl ?_ ?_ <;> repeat' (first | exact trivial | refine And.intro ?_ ?_ | with_reducible rfl | (refine pIEq ?_; (first | omega | (simp only [lenS] at *; omega) | grind)) | (refine bufMap ?_) | (refine bufNil ?_) | (refine bufEq ?_) | rfl))
  · skip
    have hk1 : 1 ≤ k := by omega
    (conv => whnf); repeat' ((first | apply CondA.plain | refine' go_pinA | (apply DrawA.quiet (by kernel_rfl) (by kernel_rfl); (conv => whnf); fail_if_success (show False))) <;> (conv => whnf))
    refine CallA.loc [0] [] rfl rfl ((N_call nl ts i (by omega) 4 (by omega)).mono ?_)
    rintro _ _ ⟨f, i5, hf0, hf1, hi5, rfl, rfl⟩
    obtain ⟨f, rfl⟩ : ∃ b : Nat, f = b := ⟨f.toNat, by omega⟩
    have hf4 : f < 4 := by omega
    obtain ⟨w, hw⟩ : ∃ w, wordsL[((f : Nat) : Int).toNat]? = some w := ⟨_, List.getElem?_eq_getElem (by exact hf4)⟩
    have hw0 : wordsL[f]'(by exact hf4) = w := by
      have := List.getElem?_eq_getElem (l := wordsL) (i := f) (by exact hf4)
      rw [Int.toNat_natCast] at hw
      rw [hw] at this; injection this with this; exact this.symm
    obtain ⟨z, hz2⟩ : ∃ z, wordsL[(((f + 1) % 4 : Nat) : Int).toNat]? = some z := ⟨_, List.getElem?_eq_getElem (by rw [Int.toNat_natCast]; exact Nat.mod_lt _ (by decide))⟩
    have hz0 : wordsL[(f + 1) % 4]'(Nat.mod_lt _ (by decide)) = z := by
      have := List.getElem?_eq_getElem (l := wordsL) (i := (f + 1) % 4) (Nat.mod_lt _ (by decide))
      rw [Int.toNat_natCast] at hz2
      rw [hz2] at this; injection this with this; exact this.symm
    have hmod : ((f : Int) + 1).tmod 4 = (((f + 1) % 4 : Nat) : Int) := by
      rw [Int.tmod_eq_emod_of_nonneg (by omega)]; omega
    (conv => whnf); repeat' ((first | apply CondA.plain | refine' go_pinA | (apply DrawA.quiet (by kernel_rfl) (by kernel_rfl); (conv => whnf); fail_if_success (show False))) <;> (conv => whnf))
    refine CallA.loc [] [] rfl rfl (Words_call.mono ?_)
    rintro _ _ ⟨rfl, rfl⟩
    (conv => whnf); repeat' ((first | (apply IdxA.at_ (f := pS) w (Int.natCast_nonneg f) hw) | (refine IsL.lit (f := pS) [w] rfl ?_) | apply CondA.plain | refine' go_pinA | (apply DrawA.quiet (by kernel_rfl) (by kernel_rfl); (conv => whnf); fail_if_success (show False))) <;> (conv => whnf))
    refine CallA.loc [0] [] rfl rfl ((N_call nl ts i5 hi5 2 (by omega)).mono ?_)
    rintro _ _ ⟨q, i6, hq0, hq1, hi6, rfl, rfl⟩
    rcases Decidable.em (q = 1) with hq | hq
    · subst hq
      (conv => whnf); repeat' ((first | apply CondA.plain | refine' go_pinA | fail) <;> (conv => whnf))
      apply DrawA.orders piSc (by kernel_rfl) (by kernel_rfl) (by kernel_rfl)
      (conv => whnf); repeat' ((first | (apply IdxA.at_ (f := pS) z (Int.natCast_nonneg _) hz2) | (refine IsL.lit (f := pS) [z] rfl ?_) | (refine IsL.lit (f := Grp.pv) [⟨nmG gs.length, nq, ps, false, [w, z]⟩] rfl ?_) | apply CondA.plain | refine' go_pinA | (apply DrawA.quiet (by kernel_rfl) (by kernel_rfl); (conv => whnf); fail_if_success (show False)) | ((refine CallA.loc [] [] rfl rfl (Words_call.mono ?_); rintro _ _ ⟨rfl, rfl⟩))) <;> (conv => whnf))
      all_goals
        refine ⟨(m - 1, false, gs ++ [⟨nmG gs.length, nq, ps, false, [w, z]⟩], i6), ?_, ?_, .sub _ ?_, rfl⟩
        · refine ⟨hi6, by rw [List.length_append]; show m - 1 + (gs.length + 1) ≤ 5; omega, fun c hc => ?_⟩
          rcases Nat.lt_or_ge c gs.length with h1 | h1
          · rw [List.getElem_append_left h1]; exact hgs c h1
          · rw [List.length_append] at hc
            have hc : c < gs.length + 1 := hc
            obtain rfl : c = gs.length := by omega
            rw [List.getElem_append_right (Nat.le_refl _)]
            simp only [Nat.sub_self, List.getElem_cons_zero]
            exact ⟨rfl, ⟨a, k - 1, by rw [show k - 1 + 1 = k by omega]; exact hps, by omega⟩, f, hf4, .inr (by rw [hw0, hz0])⟩
        · show m - 1 < m
          omega
        · (refine SubA.auto rfl rfl rfl rfl ?_ ?_ <;> repeat' (first | exact trivial | refine And.intro ?_ ?_ | with_reducible rfl | (refine pIEq ?_; (first | omega | (simp only [lenS] at *; omega) | grind)) | (refine bufMap ?_) | (refine bufNil ?_) | (refine bufEq ?_) | rfl))
    · (conv => whnf); repeat' ((first | (refine IsL.lit (f := Grp.pv) [⟨nmG gs.length, nq, ps, false, [w]⟩] rfl ?_) | apply CondA.plain | refine' go_pinA | (apply DrawA.quiet (by kernel_rfl) (by kernel_rfl); (conv => whnf); fail_if_success (show False))) <;> (conv => whnf))
      refine ⟨(m - 1, false, gs ++ [⟨nmG gs.length, nq, ps, false, [w]⟩], i6), ?_, ?_, .sub _ ?_, rfl⟩
      · refine ⟨hi6, by rw [List.length_append]; show m - 1 + (gs.length + 1) ≤ 5; omega, fun c hc => ?_⟩
        rcases Nat.lt_or_ge c gs.length with h1 | h1
        · rw [List.getElem_append_left h1]; exact hgs c h1
        · rw [List.length_append] at hc
          have hc : c < gs.length + 1 := hc
          obtain rfl : c = gs.length := by omega
          rw [List.getElem_append_right (Nat.le_refl _)]
          simp only [Nat.sub_self, List.getElem_cons_zero]
          exact ⟨rfl, ⟨a, k - 1, by rw [show k - 1 + 1 = k by omega]; exact hps, by omega⟩, f, hf4, .inl (by rw [hw0])⟩
      · show m - 1 < m
        omega
      · (refine SubA.auto rfl rfl rfl rfl ?_ ?_ <;> repeat' (first | exact trivial | refine And.intro ?_ ?_ | with_reducible rfl | (refine pIEq ?_; (first | omega | (simp only [lenS] at *; omega) | grind)) | (refine bufMap ?_) | (refine bufNil ?_) | (refine bufEq ?_) | rfl))
end Go.Proofs.Ytnogpkaehiapfaa
