/- ResetChain (walk). -/
import Derived.Test.YtnafamlphnnmhaarsD
namespace Go.Proofs.Ytnafamlphnnmhaa
set_option linter.unusedSimpArgs false
set_option linter.unusedVariables false
set_option linter.unnecessarySimpa false
open Go.Abs
set_option maxRecDepth 100000
def cp (i : Nat) : Rst := if i = 0 then ⟨true, []⟩ else ⟨false, [(i : Int) - 1]⟩
def cF (k : Nat) : List Rst := (List.range k).map cp
theorem cF_len (k : Nat) : (cF k).length = k := by simp [cF]
theorem cF_succ (k : Nat) : cF (k + 1) = cF k ++ [cp k] := by unfold cF; rw [List.range_succ, List.map_append]; rfl
theorem cF_at {k i : Nat} (h : i < (cF k).length) : (cF k)[i] = cp i := by simp [cF]
theorem cF_ok (k : Nat) : OKR (cF k) := by
  intro i hi
  rw [cF_at hi]
  unfold cp
  split
  · exact ⟨fun q hq => by simp at hq, fun q hq => by simp at hq⟩
  · refine ⟨fun q hq => ?_, fun q hq h0 => ?_⟩
    · have : q = 0 := by simp at hq; omega
      subst this
      simp; omega
    · simp at hq; omega
theorem cF_rch {k : Nat} : ∀ m j, j + m < k → Rch (cF k) 0 (j + m) j
  | 0, j, h => .refl _
  | m + 1, j, h => by
    refine .tail (cF_rch m (j + 1) (by omega) |> fun h => by rwa [show j + 1 + m = j + (m + 1) by omega] at h) (Nat.zero_le _) (by rw [cF_len]; omega) ?_
    rw [cF_at, cp, if_neg (by omega)]
    simp
def offL (k : Nat) : List Bool := List.replicate k false
def onL (k : Nat) : List Bool := List.replicate k true
theorem offL_clo (k : Nat) : Clo (cF k) (offL k) := ⟨by simp [offL, cF_len], fun i hi hs => by
  rw [getD_at (by rw [cF_len] at hi; simpa [offL] using hi)] at hs
  simp [offL] at hs⟩
theorem onL_clo (k : Nat) : Clo (cF k) (onL k) := by
  have hd := (rstOk_zero (okr_ok (l := (cF k).take 0) (fun i hi => by simp at hi) (by simp))).2.1
  refine ⟨by simp [onL, cF_len], fun i hi hs q hq => ?_⟩
  have hr := (cF_ok k i hi).1 q hq
  rw [cF_len] at hi
  rw [getD_at (by simp [onL]; omega)]
  simp [onL]
theorem filt_all {P : Nat → Bool} {m : List Nat} (h : ∀ x ∈ m, P x = true) : m.filter P = m := List.filter_eq_self.2 h
theorem ch_rel {k : Nat} (h1 : 1 ≤ k) (h2 : k ≤ 32) : relL (cF k) (offL k) (k - 1) = (List.range k).map relW := by
  have hv := okr_ok (cF_ok k) (by rw [cF_len]; exact h2)
  have hd := (rstOk_zero hv).2.1
  rw [relL, cF_len, filt_all]
  intro x hx
  have hx' := List.mem_range.1 hx
  rw [relP, getD_at (s := offL k) (by simpa [offL] using hx')]
  have hn := ((needL_spec hd (lines := [((k - 1 : Nat) : Int)]) (by rw [cF_len]; simp; omega)).2 x (by rw [cF_len]; omega)).2 ⟨k - 1, by simp, by
    have := cF_rch (k := k) (k - 1 - x) x (by omega)
    rwa [show x + (k - 1 - x) = k - 1 by omega] at this⟩
  rw [hn]
  simp [offL]
theorem ch_as {k : Nat} (h1 : 1 ≤ k) (h2 : k ≤ 32) : asL (cF k) (onL k) 0 = (List.range k).reverse.map asW := by
  have hv := okr_ok (cF_ok k) (by rw [cF_len]; exact h2)
  have hd := (rstOk_zero hv).2.1
  rw [asL, cF_len, filt_all]
  intro x hx
  have hx' := List.mem_range.1 (List.mem_reverse.1 hx)
  rw [asP, getD_at (s := onL k) (by simpa [onL] using hx'), (abvB_iff hd (by rw [cF_len]; omega) (by rw [cF_len]; omega)).2 (by
    have := cF_rch (k := k) x 0 (by omega)
    rwa [Nat.zero_add] at this)]
  simp [onL]
theorem ch_apply {k : Nat} (h1 : 1 ≤ k) (h2 : k ≤ 32) : applyR (cF k) (offL k) ((List.range k).map relW) = ⟨onL k, k, 0⟩ := by
  have hv := okr_ok (cF_ok k) (by rw [cF_len]; exact h2)
  have hp : planL (offL k) (onL k) (cF k).length = (List.range k).map relW := by
    rw [planL, cF_len, filt_all (P := offP (onL k) (offL k)), List.filter_eq_nil_iff.2, List.map_nil, List.nil_append]
    · intro x hx
      have hx' := List.mem_range.1 (List.mem_reverse.1 hx)
      rw [offP, getD_at (s := offL k) (by simpa [offL] using hx')]
      simp [offL]
    · intro x hx
      have hx' := List.mem_range.1 hx
      rw [offP, getD_at (s := offL k) (by simpa [offL] using hx'), getD_at (s := onL k) (by simpa [onL] using hx')]
      simp [offL, onL]
  have := apply_plan hv (offL_clo k) (onL_clo k)
  rw [hp] at this
  rw [this]
  simp
set_option maxHeartbeats 16000000 in
theorem ResetChain_call (n : Int) (hn : 0 ≤ n ∧ n ≤ 255) :
    ACall Try.prog 3 [.p (.v (.int .u8 n))] [] fun r H => r = .p (pB true) := by
  refine acall_enter Try.func3 rfl rfl tabOK rfl ?_
  obtain ⟨k, hk, hk1, hk2⟩ : ∃ k : Nat, 1 + n.tmod 32 = (k : Int) ∧ 1 ≤ k ∧ k ≤ 32 := by
    have h1 := Int.tmod_nonneg (32 : Int) hn.1
    have h2 := Int.tmod_lt_of_pos n (show (0 : Int) < 32 by omega)
    exact ⟨(1 + n.tmod 32).toNat, by omega, by omega, by omega⟩
  (conv => whnf); repeat' ((first | ((refine NW.as (m := (k : Int)) ?_ ?_; rw [hk]; exact wrap64 (by omega) (by omega))) | ((first | apply LenA.map | apply NilA.map | apply NilA.mk); intro _) | apply CondA.plain | ((first | apply NW.as | apply ValA.as); with_reducible assumption) | ((first | apply NW.i64 | apply NW.u32 | apply NW.u64 | apply NW.u8 | apply InA.nat | apply InA.map | apply AppA.snoc (f := pI) (a := _) rfl | apply AppA.one (f := pI) (a := _) rfl | apply AppA.snoc (f := pB) (a := _) rfl | apply AppA.one (f := pB) (a := _) rfl | apply AppA.snoc (f := Wr.pv) (a := _) rfl | apply AppA.one (f := Wr.pv) (a := _) rfl | (apply AppA.snoc (f := Wr.pv) (a := ⟨_, _, _⟩); dsimp only [Wr.pv]; exact rfl) | (apply AppA.one (f := Wr.pv) (a := ⟨_, _, _⟩); dsimp only [Wr.pv]; exact rfl) | apply AppA.map | apply AppA.nil | apply CutA.lo | apply CutA.hi); (first | omega | (simp only [lenS] at *; omega) | grind)) | ((first | (apply RemA.as; assumption) | apply RemA.self); (first | omega | (simp only [lenS] at *; omega) | grind)) | (apply ValA.as; assumption) | apply ValA.self | (apply NW.as; assumption) | (apply SzA.map; (intro _; rfl)) | with_reducible apply br_pt | with_reducible apply br_pf | with_reducible apply br_mt | with_reducible apply br_mf | apply Both.mk | ((first | apply br_T | apply br_F | apply br_mT | apply br_mF); assumption) | ((first | apply br_lss | apply br_leq | apply br_gtr | apply br_geq | apply br_dec | apply br_beq | apply br_bne | apply br_beqB | apply br_bneB | apply br_not | apply br_m | apply br_intro) <;> intro h0 <;> first | (exfalso; first | omega | exact tf h0 (by assumption) | exact tf (by assumption) h0 | exact h0 (by assumption) | exact h0 rfl | exact of_decide_eq_false h0 rfl) | skip) | refine ArrA.mk _ rfl rfl ?_ | (apply IdxA.lit; omega; exact rfl) | ((first | apply IdxA.of_nat | (apply IdxA.of_map; (first | omega | (simp only [lenS] at *; omega) | grind))); rotate_left; (first | omega | (simp only [lenS] at *; omega) | grind)) | apply AppC.own | apply IsL.set (f := pI) (a := _) rfl | apply IsL.rep (f := pI) (a := _) rfl | apply IsL.set (f := pB) (a := _) rfl | apply IsL.rep (f := pB) (a := _) rfl | apply IsL.set (f := Wr.pv) (a := _) rfl | apply IsL.rep (f := Wr.pv) (a := _) rfl | (apply IsL.set (f := Wr.pv) (a := ⟨_, _, _⟩); dsimp only [Wr.pv]; exact rfl) | (apply IsL.rep (f := Wr.pv) (a := ⟨_, _, _⟩); dsimp only [Wr.pv]; exact rfl) | apply IsL.lit (f := pI) [] rfl | apply IsL.lit (f := pI) [_] rfl | apply IsL.lit (f := pB) [] rfl | apply IsL.lit (f := pB) [_] rfl | apply IsL.lit (f := Wr.pv) [] rfl | apply IsL.lit (f := Wr.pv) [_] rfl | apply IsL.lit (f := Wr.pv) [] rfl | apply IsL.lit (f := Wr.pv) [⟨_, _, _⟩] rfl | (apply And.intro; (first | with_reducible rfl | (show (_ : AV) = _; rfl) | (first | omega | (simp only [lenS] at *; omega) | grind)))) <;> (conv => whnf))
  refine loop_rule (fun (⟨c, f⟩ : Nat × Bool) => ⟨[(3, .p (pI k)), (4, .buf 0), (5, .p (pI c))], [some (AO.buf 25 f ((cF c).map Rst.pv))]⟩) (fun (⟨c, f⟩ : Nat × Bool) => c ≤ k) (fun (⟨c, f⟩ : Nat × Bool) => k - c) (0, true) ?_ ?_ ?_; (refine SubA.auto1 (25, 4) rfl rfl rfl rfl rfl ?_ ?_ <;> repeat' (first | exact trivial | refine And.intro ?_ ?_ | with_reducible rfl | (refine pIEq ?_; (first | omega | (simp only [lenS] at *; omega) | grind)) | (refine bufMap ?_) | (refine bufNil ?_) | (refine bufEq ?_) | rfl))
  · exact Nat.zero_le _
  rintro ⟨c, f⟩ hc
  have hc : c ≤ k := hc
  have hcc := cF_len c
  rcases Nat.lt_or_ge c k with hlt | hge
  · rcases Nat.eq_zero_or_pos c with h0 | h0
    · subst h0
      (conv => whnf); repeat' ((first | (refine IsL.lit (f := Rst.pv) [⟨true, []⟩] rfl ?_) | ((first | apply LenA.map | apply NilA.map | apply NilA.mk); intro _) | apply CondA.plain | ((first | apply NW.as | apply ValA.as); with_reducible assumption) | ((first | apply NW.i64 | apply NW.u32 | apply NW.u64 | apply NW.u8 | apply InA.nat | apply InA.map | apply AppA.snoc (f := pI) (a := _) rfl | apply AppA.one (f := pI) (a := _) rfl | apply AppA.snoc (f := pB) (a := _) rfl | apply AppA.one (f := pB) (a := _) rfl | apply AppA.snoc (f := Wr.pv) (a := _) rfl | apply AppA.one (f := Wr.pv) (a := _) rfl | (apply AppA.snoc (f := Wr.pv) (a := ⟨_, _, _⟩); dsimp only [Wr.pv]; exact rfl) | (apply AppA.one (f := Wr.pv) (a := ⟨_, _, _⟩); dsimp only [Wr.pv]; exact rfl) | apply AppA.map | apply AppA.nil | apply CutA.lo | apply CutA.hi); (first | omega | (simp only [lenS] at *; omega) | grind)) | ((first | (apply RemA.as; assumption) | apply RemA.self); (first | omega | (simp only [lenS] at *; omega) | grind)) | (apply ValA.as; assumption) | apply ValA.self | (apply NW.as; assumption) | (apply SzA.map; (intro _; rfl)) | with_reducible apply br_pt | with_reducible apply br_pf | with_reducible apply br_mt | with_reducible apply br_mf | apply Both.mk | ((first | apply br_T | apply br_F | apply br_mT | apply br_mF); assumption) | ((first | apply br_lss | apply br_leq | apply br_gtr | apply br_geq | apply br_dec | apply br_beq | apply br_bne | apply br_beqB | apply br_bneB | apply br_not | apply br_m | apply br_intro) <;> intro h0 <;> first | (exfalso; first | omega | exact tf h0 (by assumption) | exact tf (by assumption) h0 | exact h0 (by assumption) | exact h0 rfl | exact of_decide_eq_false h0 rfl) | skip) | refine ArrA.mk _ rfl rfl ?_ | (apply IdxA.lit; omega; exact rfl) | ((first | apply IdxA.of_nat | (apply IdxA.of_map; (first | omega | (simp only [lenS] at *; omega) | grind))); rotate_left; (first | omega | (simp only [lenS] at *; omega) | grind)) | apply AppC.own | apply IsL.set (f := pI) (a := _) rfl | apply IsL.rep (f := pI) (a := _) rfl | apply IsL.set (f := pB) (a := _) rfl | apply IsL.rep (f := pB) (a := _) rfl | apply IsL.set (f := Wr.pv) (a := _) rfl | apply IsL.rep (f := Wr.pv) (a := _) rfl | (apply IsL.set (f := Wr.pv) (a := ⟨_, _, _⟩); dsimp only [Wr.pv]; exact rfl) | (apply IsL.rep (f := Wr.pv) (a := ⟨_, _, _⟩); dsimp only [Wr.pv]; exact rfl) | apply IsL.lit (f := pI) [] rfl | apply IsL.lit (f := pI) [_] rfl | apply IsL.lit (f := pB) [] rfl | apply IsL.lit (f := pB) [_] rfl | apply IsL.lit (f := Wr.pv) [] rfl | apply IsL.lit (f := Wr.pv) [_] rfl | apply IsL.lit (f := Wr.pv) [] rfl | apply IsL.lit (f := Wr.pv) [⟨_, _, _⟩] rfl | (apply And.intro; (first | with_reducible rfl | (show (_ : AV) = _; rfl) | (first | omega | (simp only [lenS] at *; omega) | grind)))) <;> (conv => whnf))
      (refine' ⟨(1, false), _, _, _⟩; rotate_right; (refine SubA.auto rfl rfl rfl rfl ?_ ?_ <;> repeat' (first | exact trivial | refine And.intro ?_ ?_ | with_reducible rfl | (refine pIEq ?_; (first | omega | (simp only [lenS] at *; omega) | grind)) | (refine bufMap ?_) | (refine bufNil ?_) | (refine bufEq ?_) | rfl)); rotate_right; (first | omega | (simp only []; omega) | (simp; omega) | (first | omega | (simp only [lenS] at *; omega) | grind)))
      show 1 ≤ k
      omega
    · have e0 : cp c = ⟨false, [(c : Int) - 1]⟩ := by rw [cp, if_neg (by omega)]
      have e1 : cF (c + 1) = cF c ++ [(⟨false, [(c : Int) - 1]⟩ : Rst)] := by rw [cF_succ, e0]
      (conv => whnf); repeat' ((first | (refine IsL.lit (f := Rst.pv) [⟨false, [(c : Int) - 1]⟩] rfl ?_) | ((first | apply LenA.map | apply NilA.map | apply NilA.mk); intro _) | apply CondA.plain | ((first | apply NW.as | apply ValA.as); with_reducible assumption) | ((first | apply NW.i64 | apply NW.u32 | apply NW.u64 | apply NW.u8 | apply InA.nat | apply InA.map | apply AppA.snoc (f := pI) (a := _) rfl | apply AppA.one (f := pI) (a := _) rfl | apply AppA.snoc (f := pB) (a := _) rfl | apply AppA.one (f := pB) (a := _) rfl | apply AppA.snoc (f := Wr.pv) (a := _) rfl | apply AppA.one (f := Wr.pv) (a := _) rfl | (apply AppA.snoc (f := Wr.pv) (a := ⟨_, _, _⟩); dsimp only [Wr.pv]; exact rfl) | (apply AppA.one (f := Wr.pv) (a := ⟨_, _, _⟩); dsimp only [Wr.pv]; exact rfl) | apply AppA.map | apply AppA.nil | apply CutA.lo | apply CutA.hi); (first | omega | (simp only [lenS] at *; omega) | grind)) | ((first | (apply RemA.as; assumption) | apply RemA.self); (first | omega | (simp only [lenS] at *; omega) | grind)) | (apply ValA.as; assumption) | apply ValA.self | (apply NW.as; assumption) | (apply SzA.map; (intro _; rfl)) | with_reducible apply br_pt | with_reducible apply br_pf | with_reducible apply br_mt | with_reducible apply br_mf | apply Both.mk | ((first | apply br_T | apply br_F | apply br_mT | apply br_mF); assumption) | ((first | apply br_lss | apply br_leq | apply br_gtr | apply br_geq | apply br_dec | apply br_beq | apply br_bne | apply br_beqB | apply br_bneB | apply br_not | apply br_m | apply br_intro) <;> intro h0 <;> first | (exfalso; first | omega | exact tf h0 (by assumption) | exact tf (by assumption) h0 | exact h0 (by assumption) | exact h0 rfl | exact of_decide_eq_false h0 rfl) | skip) | refine ArrA.mk _ rfl rfl ?_ | (apply IdxA.lit; omega; exact rfl) | ((first | apply IdxA.of_nat | (apply IdxA.of_map; (first | omega | (simp only [lenS] at *; omega) | grind))); rotate_left; (first | omega | (simp only [lenS] at *; omega) | grind)) | apply AppC.own | apply IsL.set (f := pI) (a := _) rfl | apply IsL.rep (f := pI) (a := _) rfl | apply IsL.set (f := pB) (a := _) rfl | apply IsL.rep (f := pB) (a := _) rfl | apply IsL.set (f := Wr.pv) (a := _) rfl | apply IsL.rep (f := Wr.pv) (a := _) rfl | (apply IsL.set (f := Wr.pv) (a := ⟨_, _, _⟩); dsimp only [Wr.pv]; exact rfl) | (apply IsL.rep (f := Wr.pv) (a := ⟨_, _, _⟩); dsimp only [Wr.pv]; exact rfl) | apply IsL.lit (f := pI) [] rfl | apply IsL.lit (f := pI) [_] rfl | apply IsL.lit (f := pB) [] rfl | apply IsL.lit (f := pB) [_] rfl | apply IsL.lit (f := Wr.pv) [] rfl | apply IsL.lit (f := Wr.pv) [_] rfl | apply IsL.lit (f := Wr.pv) [] rfl | apply IsL.lit (f := Wr.pv) [⟨_, _, _⟩] rfl | (apply And.intro; (first | with_reducible rfl | (show (_ : AV) = _; rfl) | (first | omega | (simp only [lenS] at *; omega) | grind)))) <;> (conv => whnf))
      (refine' ⟨(c + 1, false), _, _, _⟩; rotate_right; (refine SubA.auto rfl rfl rfl rfl ?_ ?_ <;> repeat' (first | exact trivial | refine And.intro ?_ ?_ | with_reducible rfl | (refine pIEq ?_; (first | omega | (simp only [lenS] at *; omega) | grind)) | (refine bufMap ?_) | (refine bufNil ?_) | (refine bufEq ?_) | rfl)); rotate_right; (first | omega | (simp only []; omega) | (simp; omega) | (first | omega | (simp only [lenS] at *; omega) | grind)))
      · rw [e1]
      · show c + 1 ≤ k
        omega
  · obtain rfl : c = k := by omega
    have hv := okr_ok (cF_ok c) (by rw [cF_len]; exact hk2)
    have d1 : chkE (cF c) (offL c) ((c : Int) - 1) = 0 := chkE_zero.2 ⟨hv, offL_clo c, by omega, by omega⟩
    have d2 : chkE (cF c) (onL c) 0 = 0 := chkE_zero.2 ⟨hv, onL_clo c, by omega, by omega⟩
    have d3 : (if chkE (cF c) (offL c) ((c : Int) - 1) = 0 then relL (cF c) (offL c) ((c : Int) - 1).toNat else []) = (List.range c).map relW := by
      rw [if_pos d1, show ((c : Int) - 1).toNat = c - 1 by omega]; exact ch_rel hk1 hk2
    have d4 : (if chkE (cF c) (onL c) 0 = 0 then asL (cF c) (onL c) (0 : Int).toNat else []) = (List.range c).reverse.map asW := by
      rw [if_pos d2]; exact ch_as hk1 hk2
    have d5 := ch_apply hk1 hk2
    have ol : (offL c).length ≤ 1000000 := by simp [offL]; omega
    obtain ⟨W, hW⟩ : ∃ W, (List.range c).map relW = W := ⟨_, rfl⟩
    obtain ⟨V, hV⟩ : ∃ V, (List.range c).reverse.map asW = V := ⟨_, rfl⟩
    have hWl : W.length = c := by rw [← hW]; simp
    have hVl : V.length = c := by rw [← hV]; simp
    have hWa : ∀ (i : Nat) (h : i < W.length), W[i] = ⟨11, i, 1⟩ := fun i h => by subst hW; simp [relW]
    have hVa : ∀ (i : Nat) (h : i < V.length), V[i] = ⟨11, (c : Int) - 1 - i, 0⟩ := fun i h => by
      subst hV
      rw [hVl] at h
      simp [asW]
      omega
    rw [hW] at d3 d5
    rw [hV] at d4
    have eo : List.replicate (c : Int).toNat (pz (Value.bool false)) = (offL c).map pB := by
      show List.replicate c (pB false) = _
      rw [offL, List.map_replicate]
    (conv => whnf); repeat' ((first | ((refine IsL.mk ((offL c).map pB) ?_ ?_; exact eo)) | ((first | apply LenA.map | apply NilA.map | apply NilA.mk); intro _) | apply CondA.plain | ((first | apply NW.as | apply ValA.as); with_reducible assumption) | ((first | apply NW.i64 | apply NW.u32 | apply NW.u64 | apply NW.u8 | apply InA.nat | apply InA.map | apply AppA.snoc (f := pI) (a := _) rfl | apply AppA.one (f := pI) (a := _) rfl | apply AppA.snoc (f := pB) (a := _) rfl | apply AppA.one (f := pB) (a := _) rfl | apply AppA.snoc (f := Wr.pv) (a := _) rfl | apply AppA.one (f := Wr.pv) (a := _) rfl | (apply AppA.snoc (f := Wr.pv) (a := ⟨_, _, _⟩); dsimp only [Wr.pv]; exact rfl) | (apply AppA.one (f := Wr.pv) (a := ⟨_, _, _⟩); dsimp only [Wr.pv]; exact rfl) | apply AppA.map | apply AppA.nil | apply CutA.lo | apply CutA.hi); (first | omega | (simp only [lenS] at *; omega) | grind)) | ((first | (apply RemA.as; assumption) | apply RemA.self); (first | omega | (simp only [lenS] at *; omega) | grind)) | (apply ValA.as; assumption) | apply ValA.self | (apply NW.as; assumption) | (apply SzA.map; (intro _; rfl)) | with_reducible apply br_pt | with_reducible apply br_pf | with_reducible apply br_mt | with_reducible apply br_mf | apply Both.mk | ((first | apply br_T | apply br_F | apply br_mT | apply br_mF); assumption) | ((first | apply br_lss | apply br_leq | apply br_gtr | apply br_geq | apply br_dec | apply br_beq | apply br_bne | apply br_beqB | apply br_bneB | apply br_not | apply br_m | apply br_intro) <;> intro h0 <;> first | (exfalso; first | omega | exact tf h0 (by assumption) | exact tf (by assumption) h0 | exact h0 (by assumption) | exact h0 rfl | exact of_decide_eq_false h0 rfl) | skip) | refine ArrA.mk _ rfl rfl ?_ | (apply IdxA.lit; omega; exact rfl) | ((first | apply IdxA.of_nat | (apply IdxA.of_map; (first | omega | (simp only [lenS] at *; omega) | grind))); rotate_left; (first | omega | (simp only [lenS] at *; omega) | grind)) | apply AppC.own | apply IsL.set (f := pI) (a := _) rfl | apply IsL.rep (f := pI) (a := _) rfl | apply IsL.set (f := pB) (a := _) rfl | apply IsL.rep (f := pB) (a := _) rfl | apply IsL.set (f := Wr.pv) (a := _) rfl | apply IsL.rep (f := Wr.pv) (a := _) rfl | (apply IsL.set (f := Wr.pv) (a := ⟨_, _, _⟩); dsimp only [Wr.pv]; exact rfl) | (apply IsL.rep (f := Wr.pv) (a := ⟨_, _, _⟩); dsimp only [Wr.pv]; exact rfl) | apply IsL.lit (f := pI) [] rfl | apply IsL.lit (f := pI) [_] rfl | apply IsL.lit (f := pB) [] rfl | apply IsL.lit (f := pB) [_] rfl | apply IsL.lit (f := Wr.pv) [] rfl | apply IsL.lit (f := Wr.pv) [_] rfl | apply IsL.lit (f := Wr.pv) [] rfl | apply IsL.lit (f := Wr.pv) [⟨_, _, _⟩] rfl | (apply And.intro; (first | with_reducible rfl | (show (_ : AV) = _; rfl) | (first | omega | (simp only [lenS] at *; omega) | grind))) | ((refine CallA.fresh _ (Release_call _ _ (cF c) (offL c) ((c : Int) - 1)) ?_; rintro _ ⟨m1, rfl⟩; rw [d3, d1])) | ((refine CallA.fresh _ (Apply_call _ _ m1 (cF c) (offL c) W ol) ?_; rintro _ ⟨m2, rfl⟩; rw [d5])) | ((refine CallA.fresh _ (Assert_call _ m2 (cF c) (onL c) 0) ?_; rintro _ ⟨m3, rfl⟩; rw [d4, d2]))) <;> (conv => whnf))
    refine loop_rule (fun (i : Nat) => ⟨[(3, .p (pI c)), (8, .p (.list m1 (W.map Wr.pv))), (13, .p (.list m3 (V.map Wr.pv))), (88, .p (pI W.length)), (89, .p (pI i))], []⟩) (fun (i : Nat) => i ≤ c) (fun (i : Nat) => c - i) 0 ?_ ?_ ?_; (refine SubA.auto rfl rfl rfl rfl ?_ ?_ <;> repeat' (first | exact trivial | refine And.intro ?_ ?_ | with_reducible rfl | (refine pIEq ?_; (first | omega | (simp only [lenS] at *; omega) | grind)) | (refine bufMap ?_) | (refine bufNil ?_) | (refine bufEq ?_) | rfl))
    · exact Nat.zero_le _
    rintro i hi
    have hi : i ≤ c := hi
    rcases Nat.lt_or_ge i c with hlt | hge
    · have w1 := hWa i (by omega)
      have v1 := hVa i (by omega)
      have w2 : ((W[i]'(by omega)).kind == 11 && ((W[i]'(by omega)).unit == (i : Int) && ((W[i]'(by omega)).value == 1 && true))) = true := by rw [w1]; simp
      have v2 : ((V[i]'(by omega)).kind == 11 && ((V[i]'(by omega)).unit == (c : Int) - 1 - i && ((V[i]'(by omega)).value == 0 && true))) = true := by rw [v1]; simp
      (conv => whnf); repeat' ((first | ((first | apply LenA.map | apply NilA.map | apply NilA.mk); intro _) | apply CondA.plain | ((first | apply NW.as | apply ValA.as); with_reducible assumption) | ((first | apply NW.i64 | apply NW.u32 | apply NW.u64 | apply NW.u8 | apply InA.nat | apply InA.map | apply AppA.snoc (f := pI) (a := _) rfl | apply AppA.one (f := pI) (a := _) rfl | apply AppA.snoc (f := pB) (a := _) rfl | apply AppA.one (f := pB) (a := _) rfl | apply AppA.snoc (f := Wr.pv) (a := _) rfl | apply AppA.one (f := Wr.pv) (a := _) rfl | (apply AppA.snoc (f := Wr.pv) (a := ⟨_, _, _⟩); dsimp only [Wr.pv]; exact rfl) | (apply AppA.one (f := Wr.pv) (a := ⟨_, _, _⟩); dsimp only [Wr.pv]; exact rfl) | apply AppA.map | apply AppA.nil | apply CutA.lo | apply CutA.hi); (first | omega | (simp only [lenS] at *; omega) | grind)) | ((first | (apply RemA.as; assumption) | apply RemA.self); (first | omega | (simp only [lenS] at *; omega) | grind)) | (apply ValA.as; assumption) | apply ValA.self | (apply NW.as; assumption) | (apply SzA.map; (intro _; rfl)) | with_reducible apply br_pt | with_reducible apply br_pf | with_reducible apply br_mt | with_reducible apply br_mf | apply Both.mk | ((first | apply br_T | apply br_F | apply br_mT | apply br_mF); assumption) | ((first | apply br_lss | apply br_leq | apply br_gtr | apply br_geq | apply br_dec | apply br_beq | apply br_bne | apply br_beqB | apply br_bneB | apply br_not | apply br_m | apply br_intro) <;> intro h0 <;> first | (exfalso; first | omega | exact tf h0 (by assumption) | exact tf (by assumption) h0 | exact h0 (by assumption) | exact h0 rfl | exact of_decide_eq_false h0 rfl | (exact tf w2 h0) | (exact tf v2 h0)) | skip) | refine ArrA.mk _ rfl rfl ?_ | (apply IdxA.lit; omega; exact rfl) | ((first | apply IdxA.of_nat | (apply IdxA.of_map; (first | omega | (simp only [lenS] at *; omega) | grind))); rotate_left; (first | omega | (simp only [lenS] at *; omega) | grind)) | apply AppC.own | apply IsL.set (f := pI) (a := _) rfl | apply IsL.rep (f := pI) (a := _) rfl | apply IsL.set (f := pB) (a := _) rfl | apply IsL.rep (f := pB) (a := _) rfl | apply IsL.set (f := Wr.pv) (a := _) rfl | apply IsL.rep (f := Wr.pv) (a := _) rfl | (apply IsL.set (f := Wr.pv) (a := ⟨_, _, _⟩); dsimp only [Wr.pv]; exact rfl) | (apply IsL.rep (f := Wr.pv) (a := ⟨_, _, _⟩); dsimp only [Wr.pv]; exact rfl) | apply IsL.lit (f := pI) [] rfl | apply IsL.lit (f := pI) [_] rfl | apply IsL.lit (f := pB) [] rfl | apply IsL.lit (f := pB) [_] rfl | apply IsL.lit (f := Wr.pv) [] rfl | apply IsL.lit (f := Wr.pv) [_] rfl | apply IsL.lit (f := Wr.pv) [] rfl | apply IsL.lit (f := Wr.pv) [⟨_, _, _⟩] rfl | (apply And.intro; (first | with_reducible rfl | (show (_ : AV) = _; rfl) | (first | omega | (simp only [lenS] at *; omega) | grind)))) <;> (conv => whnf))
      (refine' ⟨i + 1, _, _, _⟩; rotate_right; (refine SubA.auto rfl rfl rfl rfl ?_ ?_ <;> repeat' (first | exact trivial | refine And.intro ?_ ?_ | with_reducible rfl | (refine pIEq ?_; (first | omega | (simp only [lenS] at *; omega) | grind)) | (refine bufMap ?_) | (refine bufNil ?_) | (refine bufEq ?_) | rfl)); rotate_right; (first | omega | (simp only []; omega) | (simp; omega) | (first | omega | (simp only [lenS] at *; omega) | grind)))
      show i + 1 ≤ c
      omega
    · (conv => whnf); repeat' ((first | ((first | apply LenA.map | apply NilA.map | apply NilA.mk); intro _) | apply CondA.plain | ((first | apply NW.as | apply ValA.as); with_reducible assumption) | ((first | apply NW.i64 | apply NW.u32 | apply NW.u64 | apply NW.u8 | apply InA.nat | apply InA.map | apply AppA.snoc (f := pI) (a := _) rfl | apply AppA.one (f := pI) (a := _) rfl | apply AppA.snoc (f := pB) (a := _) rfl | apply AppA.one (f := pB) (a := _) rfl | apply AppA.snoc (f := Wr.pv) (a := _) rfl | apply AppA.one (f := Wr.pv) (a := _) rfl | (apply AppA.snoc (f := Wr.pv) (a := ⟨_, _, _⟩); dsimp only [Wr.pv]; exact rfl) | (apply AppA.one (f := Wr.pv) (a := ⟨_, _, _⟩); dsimp only [Wr.pv]; exact rfl) | apply AppA.map | apply AppA.nil | apply CutA.lo | apply CutA.hi); (first | omega | (simp only [lenS] at *; omega) | grind)) | ((first | (apply RemA.as; assumption) | apply RemA.self); (first | omega | (simp only [lenS] at *; omega) | grind)) | (apply ValA.as; assumption) | apply ValA.self | (apply NW.as; assumption) | (apply SzA.map; (intro _; rfl)) | with_reducible apply br_pt | with_reducible apply br_pf | with_reducible apply br_mt | with_reducible apply br_mf | apply Both.mk | ((first | apply br_T | apply br_F | apply br_mT | apply br_mF); assumption) | ((first | apply br_lss | apply br_leq | apply br_gtr | apply br_geq | apply br_dec | apply br_beq | apply br_bne | apply br_beqB | apply br_bneB | apply br_not | apply br_m | apply br_intro) <;> intro h0 <;> first | (exfalso; first | omega | exact tf h0 (by assumption) | exact tf (by assumption) h0 | exact h0 (by assumption) | exact h0 rfl | exact of_decide_eq_false h0 rfl) | skip) | refine ArrA.mk _ rfl rfl ?_ | (apply IdxA.lit; omega; exact rfl) | ((first | apply IdxA.of_nat | (apply IdxA.of_map; (first | omega | (simp only [lenS] at *; omega) | grind))); rotate_left; (first | omega | (simp only [lenS] at *; omega) | grind)) | apply AppC.own | apply IsL.set (f := pI) (a := _) rfl | apply IsL.rep (f := pI) (a := _) rfl | apply IsL.set (f := pB) (a := _) rfl | apply IsL.rep (f := pB) (a := _) rfl | apply IsL.set (f := Wr.pv) (a := _) rfl | apply IsL.rep (f := Wr.pv) (a := _) rfl | (apply IsL.set (f := Wr.pv) (a := ⟨_, _, _⟩); dsimp only [Wr.pv]; exact rfl) | (apply IsL.rep (f := Wr.pv) (a := ⟨_, _, _⟩); dsimp only [Wr.pv]; exact rfl) | apply IsL.lit (f := pI) [] rfl | apply IsL.lit (f := pI) [_] rfl | apply IsL.lit (f := pB) [] rfl | apply IsL.lit (f := pB) [_] rfl | apply IsL.lit (f := Wr.pv) [] rfl | apply IsL.lit (f := Wr.pv) [_] rfl | apply IsL.lit (f := Wr.pv) [] rfl | apply IsL.lit (f := Wr.pv) [⟨_, _, _⟩] rfl | (apply And.intro; (first | with_reducible rfl | (show (_ : AV) = _; rfl) | (first | omega | (simp only [lenS] at *; omega) | grind))) | (refine CallA.scalar (sane24_call) ?_)) <;> (conv => whnf))
      (refine RetK.p ?_ <;> repeat' (first | exact trivial | refine And.intro ?_ ?_ | with_reducible rfl | (refine pIEq ?_; (first | omega | (simp only [lenS] at *; omega) | grind)) | (refine bufMap ?_) | (refine bufNil ?_) | (refine bufEq ?_) | rfl); all_goals try first | refine pBEq ?_ | refine pIEq ?_)
end Go.Proofs.Ytnafamlphnnmhaa
