/- slices.Reverse over holds. -/
import Derived.Test.Ytfeilebkiplkeaadrv1
namespace Go.Proofs.Ytfeilebkiplkeaa
set_option linter.unusedSimpArgs false
set_option linter.unusedVariables false
set_option linter.unnecessarySimpa false
open Go.Abs
set_option maxRecDepth 100000

/-- A list after so many swaps of its ends. -/
def revAt (ws : List Hd) (i k : Nat) : Hd := if k < i ∨ ws.length ≤ k + i then ws.getD (ws.length - 1 - k) default else ws.getD k default
def revL (ws : List Hd) (i : Nat) : List Hd := (List.range ws.length).map (revAt ws i)
theorem revL_length (ws : List Hd) (i : Nat) : (revL ws i).length = ws.length := by simp [revL]
theorem revL_zero (ws : List Hd) : revL ws 0 = ws := by
  refine List.ext_getElem (by simp [revL]) fun k h1 h2 => ?_
  simp only [revL, revAt, List.getElem_map, List.getElem_range]
  rw [if_neg (by omega)]
  simp [h2]
theorem revL_end (ws : List Hd) {i : Nat} (h : ws.length ≤ i + i + 1) : revL ws i = ws.reverse := by
  refine List.ext_getElem (by simp [revL]) fun k h1 h2 => ?_
  have hk : k < ws.length := by simpa using h2
  simp only [revL, revAt, List.getElem_map, List.getElem_range, List.getElem_reverse]
  split
  · simp [show ws.length - 1 - k < ws.length by omega]
  · have : k = ws.length - 1 - k := by omega
    simp [hk, ← this]
theorem revL_step (ws : List Hd) {i : Nat} (h : i + i + 1 < ws.length) : ((revL ws i).set i (revAt ws i (ws.length - 1 - i))).set (ws.length - 1 - i) (revAt ws i i) = revL ws (i + 1) := by
  refine List.ext_getElem (by simp [revL]) fun k h1 h2 => ?_
  have hk : k < ws.length := by simpa [revL] using h2
  rw [List.getElem_set, List.getElem_set]
  simp only [revL, revAt, List.getElem_map, List.getElem_range]
  split
  · rename_i he
    rw [if_neg (by omega), if_pos (by omega)]
    congr 1
    omega
  · split
    · rename_i he
      rw [if_neg (by omega), if_pos (by omega)]
      congr 1
      omega
    · by_cases hc : k < i ∨ ws.length ≤ k + i
      · rw [if_pos hc, if_pos (by omega)]
      · rw [if_neg hc, if_neg (by omega)]
/-- The orders of a swap of two elements. -/
def swap22 : Sc := .one 12 (.one 13 (.one 14 (.one 15 .done)))
def swap12 : Sc := .one 7 swap22
def swap02 : Sc := .one 6 swap12
def swap21 : Sc := .one 11 swap22
def swap20 : Sc := .one 10 swap21
def swap11 : Sc := .two 7 11 swap21 swap12
def swap10 : Sc := .two 7 10 swap20 swap11
def swap01 : Sc := .two 6 11 swap11 swap02
def swap00 : Sc := .two 6 10 swap10 swap01
def swapSc : Sc := .take 0 (.take 1 (.take 2 (.take 3 (.take 4 (.take 5 (.take 8 (.take 9 swap00)))))))
theorem revL_get {ws : List Hd} (i : Nat) {k : Nat} (h : k < ws.length) : ((revL ws i).map Hd.pv)[k]? = some (revAt ws i k).pv := by simp [revL, h]
theorem revL_get2 {ws : List Hd} (i : Nat) {k j : Nat} {y : PV} (h : k < ws.length) (hj : j ≠ k) : (((revL ws i).map Hd.pv).set j y)[k]? = some (revAt ws i k).pv := by rw [List.getElem?_set_ne hj]; exact revL_get i h
theorem Reverse_call (nl : Bool) (ws : List Hd) : ACall Try.prog 36 [.buf 0] [some (AO.buf 52 nl (ws.map Hd.pv))] fun r H => r = .tup [] ∧ H = [some (AO.buf 52 nl (ws.reverse.map Hd.pv))] := by
  refine acall_enter Try.func36 rfl rfl tabOK rfl ?_
  (conv => whnf); repeat' ((first | ((first | apply LenA.map | apply NilA.map | apply NilA.mk); intro _) | apply CondA.plain | ((first | apply NW.as | apply ValA.as); with_reducible assumption) | ((first | apply NW.i64 | apply NW.u32 | apply NW.u64 | apply NW.u8 | apply InA.nat | apply InA.map | apply AppA.snoc (f := pI) (a := _) rfl | apply AppA.one (f := pI) (a := _) rfl | apply AppA.snoc (f := Hd.pv) (a := _) rfl | apply AppA.one (f := Hd.pv) (a := _) rfl | (apply AppA.snoc (f := Hd.pv) (a := ⟨_, _, _⟩); dsimp only [Hd.pv]; exact rfl) | (apply AppA.one (f := Hd.pv) (a := ⟨_, _, _⟩); dsimp only [Hd.pv]; exact rfl) | apply AppA.map | apply AppA.nil | apply CutA.lo | apply CutA.hi); (first | omega | (simp only [lenS] at *; omega) | grind)) | ((first | (apply RemA.as; assumption) | apply RemA.self); (first | omega | (simp only [lenS] at *; omega) | grind)) | (apply ValA.as; assumption) | apply ValA.self | (apply NW.as; assumption) | (apply SzA.map; (intro _; rfl)) | with_reducible apply br_pt | with_reducible apply br_pf | with_reducible apply br_mt | with_reducible apply br_mf | apply Both.mk | ((first | apply br_T | apply br_F | apply br_mT | apply br_mF); assumption) | ((first | apply br_lss | apply br_leq | apply br_gtr | apply br_geq | apply br_dec | apply br_beq | apply br_bne | apply br_beqB | apply br_bneB | apply br_not | apply br_m | apply br_intro) <;> intro h0 <;> first | (exfalso; first | omega | exact tf h0 (by assumption) | exact tf (by assumption) h0 | exact h0 (by assumption) | exact h0 rfl | exact of_decide_eq_false h0 rfl) | skip) | refine ArrA.mk _ rfl rfl ?_ | (apply IdxA.lit; omega; exact rfl) | ((first | apply IdxA.of_nat | (apply IdxA.of_map; (first | omega | (simp only [lenS] at *; omega) | grind))); rotate_left; (first | omega | (simp only [lenS] at *; omega) | grind)) | apply AppC.own | apply IsL.set (f := pI) (a := _) rfl | apply IsL.rep (f := pI) (a := _) rfl | apply IsL.set (f := Hd.pv) (a := _) rfl | apply IsL.rep (f := Hd.pv) (a := _) rfl | (apply IsL.set (f := Hd.pv) (a := ⟨_, _, _⟩); dsimp only [Hd.pv]; exact rfl) | (apply IsL.rep (f := Hd.pv) (a := ⟨_, _, _⟩); dsimp only [Hd.pv]; exact rfl) | apply IsL.lit (f := pI) [] rfl | apply IsL.lit (f := pI) [_] rfl | apply IsL.lit (f := pI) [_, _] rfl | apply IsL.lit (f := pI) [_, _, _] rfl | apply IsL.lit (f := pI) [_, _, _, _] rfl | apply IsL.lit (f := Hd.pv) [] rfl | apply IsL.lit (f := Hd.pv) [_] rfl | apply IsL.lit (f := Hd.pv) [_, _] rfl | apply IsL.lit (f := Hd.pv) [_, _, _] rfl | apply IsL.lit (f := Hd.pv) [_, _, _, _] rfl | apply IsL.lit (f := Hd.pv) [] rfl | apply IsL.lit (f := Hd.pv) [⟨_, _, _⟩] rfl | apply IsL.lit (f := Hd.pv) [⟨_, _, _⟩, ⟨_, _, _⟩] rfl | apply IsL.lit (f := Hd.pv) [⟨_, _, _⟩, ⟨_, _, _⟩, ⟨_, _, _⟩] rfl | apply IsL.lit (f := Hd.pv) [⟨_, _, _⟩, ⟨_, _, _⟩, ⟨_, _, _⟩, ⟨_, _, _⟩] rfl | (apply And.intro; (first | with_reducible rfl | (show (_ : AV) = _; rfl) | (first | omega | (simp only [lenS] at *; omega) | grind))) | (apply DrawA.quiet (by kernel_rfl) (by kernel_rfl); (conv => whnf); fail_if_success (show False))) <;> (conv => whnf))
  refine loop_rule (fun (⟨i, xs⟩ : Nat × List Hd) => ⟨[(0, .buf 0), (2, .p (pI i)), (3, .p (pI ((ws.length : Int) - 1 - i)))], [some (AO.buf 52 nl (xs.map Hd.pv))]⟩) (fun (⟨i, xs⟩ : Nat × List Hd) => i + i ≤ ws.length + 1 ∧ xs = revL ws i) (fun (⟨i, xs⟩ : Nat × List Hd) => ws.length + 1 - i) (0, ws) ?_ ?_ ?_; (refine SubA.auto rfl rfl rfl rfl ?_ ?_ <;> repeat' (first | exact trivial | refine And.intro ?_ ?_ | with_reducible rfl | (refine pIEq ?_; (first | omega | (simp only [lenS] at *; omega) | grind)) | (refine bufMap ?_) | (refine bufNil ?_) | (refine bufEq ?_) | rfl))
  · exact ⟨by omega, (revL_zero ws).symm⟩
  rintro ⟨i, xs⟩ ⟨hi, hxs⟩
  have hl : xs.length = ws.length := by rw [hxs]; exact revL_length ws i
  (conv => whnf); repeat' ((first | ((first | apply LenA.map | apply NilA.map | apply NilA.mk); intro _) | apply CondA.plain | ((first | apply NW.as | apply ValA.as); with_reducible assumption) | ((first | apply NW.i64 | apply NW.u32 | apply NW.u64 | apply NW.u8 | apply InA.nat | apply InA.map | apply AppA.snoc (f := pI) (a := _) rfl | apply AppA.one (f := pI) (a := _) rfl | apply AppA.snoc (f := Hd.pv) (a := _) rfl | apply AppA.one (f := Hd.pv) (a := _) rfl | (apply AppA.snoc (f := Hd.pv) (a := ⟨_, _, _⟩); dsimp only [Hd.pv]; exact rfl) | (apply AppA.one (f := Hd.pv) (a := ⟨_, _, _⟩); dsimp only [Hd.pv]; exact rfl) | apply AppA.map | apply AppA.nil | apply CutA.lo | apply CutA.hi); (first | omega | (simp only [lenS] at *; omega) | grind)) | ((first | (apply RemA.as; assumption) | apply RemA.self); (first | omega | (simp only [lenS] at *; omega) | grind)) | (apply ValA.as; assumption) | apply ValA.self | (apply NW.as; assumption) | (apply SzA.map; (intro _; rfl)) | with_reducible apply br_pt | with_reducible apply br_pf | with_reducible apply br_mt | with_reducible apply br_mf | apply Both.mk | ((first | apply br_T | apply br_F | apply br_mT | apply br_mF); assumption) | ((first | apply br_lss | apply br_leq | apply br_gtr | apply br_geq | apply br_dec | apply br_beq | apply br_bne | apply br_beqB | apply br_bneB | apply br_not | apply br_m | apply br_intro) <;> intro h0 <;> first | (exfalso; first | omega | exact tf h0 (by assumption) | exact tf (by assumption) h0 | exact h0 (by assumption) | exact h0 rfl | exact of_decide_eq_false h0 rfl) | skip) | refine ArrA.mk _ rfl rfl ?_ | (apply IdxA.lit; omega; exact rfl) | ((first | apply IdxA.of_nat | (apply IdxA.of_map; (first | omega | (simp only [lenS] at *; omega) | grind))); rotate_left; (first | omega | (simp only [lenS] at *; omega) | grind)) | apply AppC.own | apply IsL.set (f := pI) (a := _) rfl | apply IsL.rep (f := pI) (a := _) rfl | apply IsL.set (f := Hd.pv) (a := _) rfl | apply IsL.rep (f := Hd.pv) (a := _) rfl | (apply IsL.set (f := Hd.pv) (a := ⟨_, _, _⟩); dsimp only [Hd.pv]; exact rfl) | (apply IsL.rep (f := Hd.pv) (a := ⟨_, _, _⟩); dsimp only [Hd.pv]; exact rfl) | apply IsL.lit (f := pI) [] rfl | apply IsL.lit (f := pI) [_] rfl | apply IsL.lit (f := pI) [_, _] rfl | apply IsL.lit (f := pI) [_, _, _] rfl | apply IsL.lit (f := pI) [_, _, _, _] rfl | apply IsL.lit (f := Hd.pv) [] rfl | apply IsL.lit (f := Hd.pv) [_] rfl | apply IsL.lit (f := Hd.pv) [_, _] rfl | apply IsL.lit (f := Hd.pv) [_, _, _] rfl | apply IsL.lit (f := Hd.pv) [_, _, _, _] rfl | apply IsL.lit (f := Hd.pv) [] rfl | apply IsL.lit (f := Hd.pv) [⟨_, _, _⟩] rfl | apply IsL.lit (f := Hd.pv) [⟨_, _, _⟩, ⟨_, _, _⟩] rfl | apply IsL.lit (f := Hd.pv) [⟨_, _, _⟩, ⟨_, _, _⟩, ⟨_, _, _⟩] rfl | apply IsL.lit (f := Hd.pv) [⟨_, _, _⟩, ⟨_, _, _⟩, ⟨_, _, _⟩, ⟨_, _, _⟩] rfl | (apply And.intro; (first | with_reducible rfl | (show (_ : AV) = _; rfl) | (first | omega | (simp only [lenS] at *; omega) | grind)))) <;> (conv => whnf))
  · have hlt : i + i + 1 < ws.length := by omega
    have hj : ((ws.length : Int) - 1 - i).toNat = ws.length - 1 - i := by omega
    have hi1 : xs[i]'(by omega) = revAt ws i i := by simp [hxs, revL]
    have hi2 : xs[((ws.length : Int) - 1 - i).toNat]'(by omega) = revAt ws i (ws.length - 1 - i) := by simp [hxs, revL, hj]
    have hst := revL_step ws hlt
    rw [← hxs, ← hi1, ← hi2, ← hj] at hst
    apply DrawA.orders swapSc (by kernel_rfl) (by kernel_rfl) (by kernel_rfl)
    (conv => whnf); repeat' ((first | ((first | apply LenA.map | apply NilA.map | apply NilA.mk); intro _) | apply CondA.plain | ((first | apply NW.as | apply ValA.as); with_reducible assumption) | ((first | apply NW.i64 | apply NW.u32 | apply NW.u64 | apply NW.u8 | apply InA.nat | apply InA.map | apply AppA.snoc (f := pI) (a := _) rfl | apply AppA.one (f := pI) (a := _) rfl | apply AppA.snoc (f := Hd.pv) (a := _) rfl | apply AppA.one (f := Hd.pv) (a := _) rfl | (apply AppA.snoc (f := Hd.pv) (a := ⟨_, _, _⟩); dsimp only [Hd.pv]; exact rfl) | (apply AppA.one (f := Hd.pv) (a := ⟨_, _, _⟩); dsimp only [Hd.pv]; exact rfl) | apply AppA.map | apply AppA.nil | apply CutA.lo | apply CutA.hi); (first | omega | (simp only [lenS] at *; omega) | grind)) | ((first | (apply RemA.as; assumption) | apply RemA.self); (first | omega | (simp only [lenS] at *; omega) | grind)) | (apply ValA.as; assumption) | apply ValA.self | (apply NW.as; assumption) | (apply SzA.map; (intro _; rfl)) | with_reducible apply br_pt | with_reducible apply br_pf | with_reducible apply br_mt | with_reducible apply br_mf | apply Both.mk | ((first | apply br_T | apply br_F | apply br_mT | apply br_mF); assumption) | ((first | apply br_lss | apply br_leq | apply br_gtr | apply br_geq | apply br_dec | apply br_beq | apply br_bne | apply br_beqB | apply br_bneB | apply br_not | apply br_m | apply br_intro) <;> intro h0 <;> first | (exfalso; first | omega | exact tf h0 (by assumption) | exact tf (by assumption) h0 | exact h0 (by assumption) | exact h0 rfl | exact of_decide_eq_false h0 rfl) | skip) | refine ArrA.mk _ rfl rfl ?_ | (apply IdxA.lit; omega; exact rfl) | ((first | apply IdxA.of_nat | (apply IdxA.of_map; (first | omega | (simp only [lenS] at *; omega) | grind))); rotate_left; (first | omega | (simp only [lenS] at *; omega) | grind)) | apply AppC.own | apply IsL.set (f := pI) (a := _) rfl | apply IsL.rep (f := pI) (a := _) rfl | apply IsL.set (f := Hd.pv) (a := _) rfl | apply IsL.rep (f := Hd.pv) (a := _) rfl | (apply IsL.set (f := Hd.pv) (a := ⟨_, _, _⟩); dsimp only [Hd.pv]; exact rfl) | (apply IsL.rep (f := Hd.pv) (a := ⟨_, _, _⟩); dsimp only [Hd.pv]; exact rfl) | apply IsL.lit (f := pI) [] rfl | apply IsL.lit (f := pI) [_] rfl | apply IsL.lit (f := pI) [_, _] rfl | apply IsL.lit (f := pI) [_, _, _] rfl | apply IsL.lit (f := pI) [_, _, _, _] rfl | apply IsL.lit (f := Hd.pv) [] rfl | apply IsL.lit (f := Hd.pv) [_] rfl | apply IsL.lit (f := Hd.pv) [_, _] rfl | apply IsL.lit (f := Hd.pv) [_, _, _] rfl | apply IsL.lit (f := Hd.pv) [_, _, _, _] rfl | apply IsL.lit (f := Hd.pv) [] rfl | apply IsL.lit (f := Hd.pv) [⟨_, _, _⟩] rfl | apply IsL.lit (f := Hd.pv) [⟨_, _, _⟩, ⟨_, _, _⟩] rfl | apply IsL.lit (f := Hd.pv) [⟨_, _, _⟩, ⟨_, _, _⟩, ⟨_, _, _⟩] rfl | apply IsL.lit (f := Hd.pv) [⟨_, _, _⟩, ⟨_, _, _⟩, ⟨_, _, _⟩, ⟨_, _, _⟩] rfl | (apply And.intro; (first | with_reducible rfl | (show (_ : AV) = _; rfl) | (first | omega | (simp only [lenS] at *; omega) | grind))) | (apply DrawA.quiet (by kernel_rfl) (by kernel_rfl); (conv => whnf); fail_if_success (show False))) <;> (conv => whnf))
    all_goals
      (refine' ⟨(i + 1, _), _, _, _⟩; rotate_right; (refine SubA.auto rfl rfl rfl rfl ?_ ?_ <;> repeat' (first | exact trivial | refine And.intro ?_ ?_ | with_reducible rfl | (refine pIEq ?_; (first | omega | (simp only [lenS] at *; omega) | grind)) | (refine bufMap ?_) | (refine bufNil ?_) | (refine bufEq ?_) | rfl)); rotate_right; (first | omega | (simp only []; omega) | (simp; omega) | (first | omega | (simp only [lenS] at *; omega) | grind)))
      refine ⟨by omega, ?_⟩
      rw [← hst]
  · (refine' RetK.auto (.tup []) ([some (AO.buf 52 nl (ws.reverse.map Hd.pv))]) rfl rfl rfl rfl _ _ _ <;> repeat' (first | exact trivial | refine And.intro ?_ ?_ | with_reducible rfl | (refine pIEq ?_; (first | omega | (simp only [lenS] at *; omega) | grind)) | (refine bufMap ?_) | (refine bufNil ?_) | (refine bufEq ?_) | rfl))
    all_goals first | rfl | exact hxs.trans (revL_end ws (by omega)) | exact ⟨rfl, rfl⟩
end Go.Proofs.Ytfeilebkiplkeaa
