/- Writes to the fields of registers. -/
import Derived.Test.Ytdaggbjphopohaareg7
namespace Go.Proofs.Ytdaggbjphopohaa
set_option linter.unusedSimpArgs false
set_option linter.unusedVariables false
set_option linter.unnecessarySimpa false
open Go.Abs
set_option maxRecDepth 100000
theorem slotsE_zero {l : List Slot} {n : Int} (h : slotsE l n = 0) : (0 ≤ n ∧ n ≤ 32) ∧ l.length ≤ 120 ∧ ∀ k, k < l.length → slotE l n k = 0 := by
  unfold slotsE at h
  split at h
  · omega
  · split at h
    · omega
    · exact ⟨by omega, by omega, firstE_zero.1 h⟩
theorem slotsE_mem {l : List Slot} {n : Int} {s : Slot} (h : slotsE l n = 0) (hs : s ∈ l) : 0 ≤ s.kind ∧ 0 ≤ s.unit ∧ s.fld.Right n := by
  obtain ⟨k, hk, rfl⟩ := List.getElem_of_mem hs
  have := slotE_right ((slotsE_zero h).2.2 k hk) hk
  exact ⟨this.1, this.2.1, this.2.2.1⟩
theorem putE_zero {rs : List Int} {f : Fld} {v : Int} (h : putE rs f v = 0) : f.Right rs.length ∧ Words rs ∧ 0 ≤ v ∧ v < 2 ^ f.width.toNat := by
  unfold putE at h
  split at h
  · assumption
  · omega
def encF (l : List Slot) (w : Wr) : Option Slot := l.find? fun s => s.kind == w.kind && s.unit == w.unit
def encE (l : List Slot) (rs : List Int) (w : Wr) : Int := if slotsE l rs.length ≠ 0 ∨ ¬ Words rs then 1 else match l.find? (fun s => s.kind == w.kind && s.unit == w.unit) with
  | none => 4
  | some s => if 0 ≤ w.value ∧ w.value < 2 ^ s.fld.width.toNat then 0 else 2
def encR (l : List Slot) (rs : List Int) (w : Wr) : Int := if encE l rs w ≠ 0 then 0 else ((l.find? fun s => s.kind == w.kind && s.unit == w.unit).map fun s => s.fld.reg).getD 0
def encV (l : List Slot) (rs : List Int) (w : Wr) : Int := if encE l rs w ≠ 0 then 0 else ((l.find? fun s => s.kind == w.kind && s.unit == w.unit).map fun s => (putN s.fld (rs.getD s.fld.reg.toNat 0).toNat w.value.toNat : Int)).getD 0
theorem Encode_call (nl nl2 : Bool) (l : List Slot) (rs : List Int) (w : Wr) : ACall Try.prog 38 [.p (.list nl (l.map Slot.pv)), .p (.list nl2 (rs.map pI)), .p w.pv] [] fun r H => r = .tup [.p (pI (encR l rs w)), .p (pI (encV l rs w)), .p (pI (encE l rs w))] ∧ H = [] := by
  refine acall_enter Try.func38 rfl rfl tabOK rfl ?_
  (conv => whnf); repeat' ((first | ((first | apply LenA.map | apply NilA.map | apply NilA.mk); intro _) | apply CondA.plain | ((first | apply NW.as | apply ValA.as); with_reducible assumption) | ((first | apply NW.i64 | apply NW.u32 | apply NW.u64 | apply NW.u8 | apply InA.nat | apply InA.map | apply AppA.snoc (f := pI) (a := _) rfl | apply AppA.one (f := pI) (a := _) rfl | apply AppA.map | apply AppA.nil | apply CutA.lo | apply CutA.hi); (first | omega | (simp only [lenS] at *; omega) | grind)) | ((first | (apply RemA.as; assumption) | apply RemA.self); (first | omega | (simp only [lenS] at *; omega) | grind)) | (apply ValA.as; assumption) | apply ValA.self | (apply NW.as; assumption) | (apply SzA.map; (intro _; rfl)) | with_reducible apply br_pt | with_reducible apply br_pf | with_reducible apply br_mt | with_reducible apply br_mf | apply Both.mk | ((first | apply br_T | apply br_F | apply br_mT | apply br_mF); assumption) | ((first | apply br_lss | apply br_leq | apply br_gtr | apply br_geq | apply br_dec | apply br_beq | apply br_bne | apply br_beqB | apply br_bneB | apply br_not | apply br_m | apply br_intro) <;> intro h0 <;> first | (exfalso; first | omega | exact tf h0 (by assumption) | exact tf (by assumption) h0 | exact h0 (by assumption) | exact h0 rfl | exact of_decide_eq_false h0 rfl) | skip) | refine ArrA.mk _ rfl rfl ?_ | (apply IdxA.lit; omega; exact rfl) | ((first | apply IdxA.of_nat | (apply IdxA.of_map; (first | omega | (simp only [lenS] at *; omega) | grind))); rotate_left; (first | omega | (simp only [lenS] at *; omega) | grind)) | apply IsL.set (f := pI) (a := _) rfl | apply IsL.rep (f := pI) (a := _) rfl | apply IsL.lit (f := pI) [] rfl | apply IsL.lit (f := pI) [_] rfl | apply IsL.lit (f := pI) [_, _] rfl | apply IsL.lit (f := pI) [_, _, _] rfl | apply IsL.lit (f := pI) [_, _, _, _] rfl | (apply And.intro; (first | with_reducible rfl | (show (_ : AV) = _; rfl) | (first | omega | (simp only [lenS] at *; omega) | grind))) | (refine CallA.scalar (gValid_call nl l _) ?_) | (refine CallA.scalar (words_call nl2 rs) ?_)) <;> (conv => whnf))
  iterate 2
    · (refine' RetK.auto (.tup [.p (pI 0), .p (pI 0), .p (pI 1)]) ([]) rfl rfl rfl rfl _ _ _ <;> repeat' (first | exact trivial | refine And.intro ?_ ?_ | with_reducible rfl | (refine pIEq ?_; (first | omega | (simp only [lenS] at *; omega) | grind)) | (refine bufMap ?_) | (refine bufNil ?_) | (refine bufEq ?_) | rfl))
      have e : encE l rs w = 1 := by
        unfold encE; rw [if_pos]
        first
          | exact .inl h0
          | exact .inr h0
          | exact .inr (of_decide_eq_false h0)
      rw [encR, encV, e]; rfl
  · have hW : Words rs := by first | assumption | (apply of_decide_eq_true; assumption)
    have hS : slotsE l rs.length = 0 := by assumption
    have hF := Find_call nl l w.kind w.unit
    rcases hf : l.find? (fun s => s.kind == w.kind && s.unit == w.unit) with _ | s
    · rw [hf] at hF
      simp only [Option.map_none, Option.getD_none, Option.isSome_none] at hF
      have e : encE l rs w = 4 := by unfold encE; rw [if_neg (by rintro (h | h); exact h hS; exact h hW), hf]
      refine callPV2 hF ⟨Fld.flat _, trivial⟩ ?_
      (conv => whnf); repeat' ((first | ((first | apply LenA.map | apply NilA.map | apply NilA.mk); intro _) | apply CondA.plain | ((first | apply NW.as | apply ValA.as); with_reducible assumption) | ((first | apply NW.i64 | apply NW.u32 | apply NW.u64 | apply NW.u8 | apply InA.nat | apply InA.map | apply AppA.snoc (f := pI) (a := _) rfl | apply AppA.one (f := pI) (a := _) rfl | apply AppA.map | apply AppA.nil | apply CutA.lo | apply CutA.hi); (first | omega | (simp only [lenS] at *; omega) | grind)) | ((first | (apply RemA.as; assumption) | apply RemA.self); (first | omega | (simp only [lenS] at *; omega) | grind)) | (apply ValA.as; assumption) | apply ValA.self | (apply NW.as; assumption) | (apply SzA.map; (intro _; rfl)) | with_reducible apply br_pt | with_reducible apply br_pf | with_reducible apply br_mt | with_reducible apply br_mf | apply Both.mk | ((first | apply br_T | apply br_F | apply br_mT | apply br_mF); assumption) | ((first | apply br_lss | apply br_leq | apply br_gtr | apply br_geq | apply br_dec | apply br_beq | apply br_bne | apply br_beqB | apply br_bneB | apply br_not | apply br_m | apply br_intro) <;> intro h0 <;> first | (exfalso; first | omega | exact tf h0 (by assumption) | exact tf (by assumption) h0 | exact h0 (by assumption) | exact h0 rfl | exact of_decide_eq_false h0 rfl) | skip) | refine ArrA.mk _ rfl rfl ?_ | (apply IdxA.lit; omega; exact rfl) | ((first | apply IdxA.of_nat | (apply IdxA.of_map; (first | omega | (simp only [lenS] at *; omega) | grind))); rotate_left; (first | omega | (simp only [lenS] at *; omega) | grind)) | apply IsL.set (f := pI) (a := _) rfl | apply IsL.rep (f := pI) (a := _) rfl | apply IsL.lit (f := pI) [] rfl | apply IsL.lit (f := pI) [_] rfl | apply IsL.lit (f := pI) [_, _] rfl | apply IsL.lit (f := pI) [_, _, _] rfl | apply IsL.lit (f := pI) [_, _, _, _] rfl | (apply And.intro; (first | with_reducible rfl | (show (_ : AV) = _; rfl) | (first | omega | (simp only [lenS] at *; omega) | grind)))) <;> (conv => whnf))
      (refine' RetK.auto (.tup [.p (pI 0), .p (pI 0), .p (pI 4)]) ([]) rfl rfl rfl rfl _ _ _ <;> repeat' (first | exact trivial | refine And.intro ?_ ?_ | with_reducible rfl | (refine pIEq ?_; (first | omega | (simp only [lenS] at *; omega) | grind)) | (refine bufMap ?_) | (refine bufNil ?_) | (refine bufEq ?_) | rfl))
      rw [encR, encV, e]; rfl
    · rw [hf] at hF
      simp only [Option.map_some, Option.getD_some, Option.isSome_some] at hF
      have hR := (slotsE_mem hS (List.mem_of_find?_eq_some hf)).2.2
      refine callPV2 hF ⟨Fld.flat _, trivial⟩ ?_
      obtain ⟨r1, r2, hs⟩ := id hR
      obtain ⟨x, hx, ex, ed⟩ := word_at hW r1 r2
      obtain ⟨s1, s2, s3, s4, s5⟩ := id hs
      obtain ⟨e1, w2, w3⟩ := wbit s.fld.width.toNat (by omega)
      have e1' : IntKind.i64.wrap (1 * 2 ^ (min s.fld.width.toNat IntKind.i64.bits)) = ((2 ^ s.fld.width.toNat : Nat) : Int) := e1
      have ep : (2 : Int) ^ s.fld.width.toNat = ((2 ^ s.fld.width.toNat : Nat) : Int) := by simp
      have eE : encE l rs w = if 0 ≤ w.value ∧ w.value < 2 ^ s.fld.width.toNat then 0 else 2 := by
        unfold encE; rw [if_neg (by rintro (h | h); exact h hS; exact h hW), hf]
      rw [ep] at eE
      (conv => whnf); repeat' ((first | ((first | apply LenA.map | apply NilA.map | apply NilA.mk); intro _) | apply CondA.plain | ((first | apply NW.as | apply ValA.as); with_reducible assumption) | ((first | apply NW.i64 | apply NW.u32 | apply NW.u64 | apply NW.u8 | apply InA.nat | apply InA.map | apply AppA.snoc (f := pI) (a := _) rfl | apply AppA.one (f := pI) (a := _) rfl | apply AppA.map | apply AppA.nil | apply CutA.lo | apply CutA.hi); (first | omega | (simp only [lenS] at *; omega) | grind)) | ((first | (apply RemA.as; assumption) | apply RemA.self); (first | omega | (simp only [lenS] at *; omega) | grind)) | (apply ValA.as; assumption) | apply ValA.self | (apply NW.as; assumption) | (apply SzA.map; (intro _; rfl)) | with_reducible apply br_pt | with_reducible apply br_pf | with_reducible apply br_mt | with_reducible apply br_mf | apply Both.mk | ((first | apply br_T | apply br_F | apply br_mT | apply br_mF); assumption) | ((first | apply br_lss | apply br_leq | apply br_gtr | apply br_geq | apply br_dec | apply br_beq | apply br_bne | apply br_beqB | apply br_bneB | apply br_not | apply br_m | apply br_intro) <;> intro h0 <;> first | (exfalso; first | omega | exact tf h0 (by assumption) | exact tf (by assumption) h0 | exact h0 (by assumption) | exact h0 rfl | exact of_decide_eq_false h0 rfl) | skip) | refine ArrA.mk _ rfl rfl ?_ | (apply IdxA.lit; omega; exact rfl) | ((first | apply IdxA.of_nat | (apply IdxA.of_map; (first | omega | (simp only [lenS] at *; omega) | grind))); rotate_left; (first | omega | (simp only [lenS] at *; omega) | grind)) | apply IsL.set (f := pI) (a := _) rfl | apply IsL.rep (f := pI) (a := _) rfl | apply IsL.lit (f := pI) [] rfl | apply IsL.lit (f := pI) [_] rfl | apply IsL.lit (f := pI) [_, _] rfl | apply IsL.lit (f := pI) [_, _, _] rfl | apply IsL.lit (f := pI) [_, _, _, _] rfl | (apply And.intro; (first | with_reducible rfl | (show (_ : AV) = _; rfl) | (first | omega | (simp only [lenS] at *; omega) | grind)))) <;> (conv => whnf))
      apply DrawA.quiet (by kernel_rfl) (by kernel_rfl)
      (conv => whnf); repeat' ((first | ((first | apply LenA.map | apply NilA.map | apply NilA.mk); intro _) | apply CondA.plain | ((first | apply NW.as | apply ValA.as); with_reducible assumption) | ((first | apply NW.i64 | apply NW.u32 | apply NW.u64 | apply NW.u8 | apply InA.nat | apply InA.map | apply AppA.snoc (f := pI) (a := _) rfl | apply AppA.one (f := pI) (a := _) rfl | apply AppA.map | apply AppA.nil | apply CutA.lo | apply CutA.hi); (first | omega | (simp only [lenS] at *; omega) | grind)) | ((first | (apply RemA.as; assumption) | apply RemA.self); (first | omega | (simp only [lenS] at *; omega) | grind)) | (apply ValA.as; assumption) | apply ValA.self | (apply NW.as; assumption) | (apply SzA.map; (intro _; rfl)) | with_reducible apply br_pt | with_reducible apply br_pf | with_reducible apply br_mt | with_reducible apply br_mf | apply Both.mk | ((first | apply br_T | apply br_F | apply br_mT | apply br_mF); assumption) | ((first | apply br_lss | apply br_leq | apply br_gtr | apply br_geq | apply br_dec | apply br_beq | apply br_bne | apply br_beqB | apply br_bneB | apply br_not | apply br_m | apply br_intro) <;> intro h0 <;> first | (exfalso; first | omega | exact tf h0 (by assumption) | exact tf (by assumption) h0 | exact h0 (by assumption) | exact h0 rfl | exact of_decide_eq_false h0 rfl) | skip) | refine ArrA.mk _ rfl rfl ?_ | (apply IdxA.lit; omega; exact rfl) | ((first | apply IdxA.of_nat | (apply IdxA.of_map; (first | omega | (simp only [lenS] at *; omega) | grind))); rotate_left; (first | omega | (simp only [lenS] at *; omega) | grind)) | apply IsL.set (f := pI) (a := _) rfl | apply IsL.rep (f := pI) (a := _) rfl | apply IsL.lit (f := pI) [] rfl | apply IsL.lit (f := pI) [_] rfl | apply IsL.lit (f := pI) [_, _] rfl | apply IsL.lit (f := pI) [_, _, _] rfl | apply IsL.lit (f := pI) [_, _, _, _] rfl | (apply And.intro; (first | with_reducible rfl | (show (_ : AV) = _; rfl) | (first | omega | (simp only [lenS] at *; omega) | grind)))) <;> (conv => whnf))
      · (refine' RetK.auto (.tup [.p (pI 0), .p (pI 0), .p (pI 2)]) ([]) rfl rfl rfl rfl _ _ _ <;> repeat' (first | exact trivial | refine And.intro ?_ ?_ | with_reducible rfl | (refine pIEq ?_; (first | omega | (simp only [lenS] at *; omega) | grind)) | (refine bufMap ?_) | (refine bufNil ?_) | (refine bufEq ?_) | rfl))
        have e : encE l rs w = 2 := by rw [eE, if_neg (by omega)]
        rw [encR, encV, e]; rfl
      · (refine' RetK.auto (.tup [.p (pI 0), .p (pI 0), .p (pI 2)]) ([]) rfl rfl rfl rfl _ _ _ <;> repeat' (first | exact trivial | refine And.intro ?_ ?_ | with_reducible rfl | (refine pIEq ?_; (first | omega | (simp only [lenS] at *; omega) | grind)) | (refine bufMap ?_) | (refine bufNil ?_) | (refine bufEq ?_) | rfl))
        have e : encE l rs w = 2 := by rw [eE, if_neg (by omega)]
        rw [encR, encV, e]; rfl
      · obtain ⟨v, hv0⟩ := Int.eq_ofNat_of_zero_le (by assumption : 0 ≤ w.value)
        have hv : v < 2 ^ s.fld.width.toNat := by omega
        have e : encE l rs w = 0 := by rw [eE, if_pos (by omega)]
        have ev : encV l rs w = putN s.fld x v := by
          rw [encV, e, hf, if_neg (by omega)]
          simp only [Option.map_some, Option.getD_some]
          rw [ed, hv0]; rfl
        have er : encR l rs w = s.fld.reg := by rw [encR, e, hf]; rfl
        rw [e, ev, er]
        apply DrawA.quiet (by kernel_rfl) (by kernel_rfl)
        (conv => whnf); repeat' ((first | ((first | apply LenA.map | apply NilA.map | apply NilA.mk); intro _) | apply CondA.plain | ((first | apply NW.as | apply ValA.as); with_reducible assumption) | ((first | apply NW.i64 | apply NW.u32 | apply NW.u64 | apply NW.u8 | apply InA.nat | apply InA.map | apply AppA.snoc (f := pI) (a := _) rfl | apply AppA.one (f := pI) (a := _) rfl | apply AppA.map | apply AppA.nil | apply CutA.lo | apply CutA.hi); (first | omega | (simp only [lenS] at *; omega) | grind)) | ((first | (apply RemA.as; assumption) | apply RemA.self); (first | omega | (simp only [lenS] at *; omega) | grind)) | (apply ValA.as; assumption) | apply ValA.self | (apply NW.as; assumption) | (apply SzA.map; (intro _; rfl)) | with_reducible apply br_pt | with_reducible apply br_pf | with_reducible apply br_mt | with_reducible apply br_mf | apply Both.mk | ((first | apply br_T | apply br_F | apply br_mT | apply br_mF); assumption) | ((first | apply br_lss | apply br_leq | apply br_gtr | apply br_geq | apply br_dec | apply br_beq | apply br_bne | apply br_beqB | apply br_bneB | apply br_not | apply br_m | apply br_intro) <;> intro h0 <;> first | (exfalso; first | omega | exact tf h0 (by assumption) | exact tf (by assumption) h0 | exact h0 (by assumption) | exact h0 rfl | exact of_decide_eq_false h0 rfl) | skip) | refine ArrA.mk _ rfl rfl ?_ | (apply IdxA.lit; omega; exact rfl) | ((first | apply IdxA.of_nat | (apply IdxA.of_map; (first | omega | (simp only [lenS] at *; omega) | grind))); rotate_left; (first | omega | (simp only [lenS] at *; omega) | grind)) | apply IsL.set (f := pI) (a := _) rfl | apply IsL.rep (f := pI) (a := _) rfl | apply IsL.lit (f := pI) [] rfl | apply IsL.lit (f := pI) [_] rfl | apply IsL.lit (f := pI) [_, _] rfl | apply IsL.lit (f := pI) [_, _, _] rfl | apply IsL.lit (f := pI) [_, _, _, _] rfl | (apply And.intro; (first | with_reducible rfl | (show (_ : AV) = _; rfl) | (first | omega | (simp only [lenS] at *; omega) | grind))) | ((rw [ex, hv0]; refine CallQ.mk' (put_call s.fld x v hs hx hv) ?_))) <;> (conv => whnf))
        (refine' RetK.auto (.tup [.p (pI s.fld.reg), .p (pI (putN s.fld x v)), .p (pI 0)]) ([]) rfl rfl rfl rfl _ _ _ <;> repeat' (first | exact trivial | refine And.intro ?_ ?_ | with_reducible rfl | (refine pIEq ?_; (first | omega | (simp only [lenS] at *; omega) | grind)) | (refine bufMap ?_) | (refine bufNil ?_) | (refine bufEq ?_) | rfl))
theorem rEncode_call (nl nl2 : Bool) (l : List Slot) (rs : List Int) (w : Wr) : ACall Try.prog 35 [.p (.list nl (l.map Slot.pv)), .p (.list nl2 (rs.map pI)), .p w.pv] [] fun r H => r = .tup [.p (pI (encR l rs w)), .p (pI (encV l rs w)), .p (pI (encE l rs w))] ∧ H = [] := by
  refine acall_enter Try.func35 rfl rfl tabOK rfl ?_
  (conv => whnf); repeat' ((first | ((first | apply LenA.map | apply NilA.map | apply NilA.mk); intro _) | apply CondA.plain | ((first | apply NW.as | apply ValA.as); with_reducible assumption) | ((first | apply NW.i64 | apply NW.u32 | apply NW.u64 | apply NW.u8 | apply InA.nat | apply InA.map | apply AppA.snoc (f := pI) (a := _) rfl | apply AppA.one (f := pI) (a := _) rfl | apply AppA.map | apply AppA.nil | apply CutA.lo | apply CutA.hi); (first | omega | (simp only [lenS] at *; omega) | grind)) | ((first | (apply RemA.as; assumption) | apply RemA.self); (first | omega | (simp only [lenS] at *; omega) | grind)) | (apply ValA.as; assumption) | apply ValA.self | (apply NW.as; assumption) | (apply SzA.map; (intro _; rfl)) | with_reducible apply br_pt | with_reducible apply br_pf | with_reducible apply br_mt | with_reducible apply br_mf | apply Both.mk | ((first | apply br_T | apply br_F | apply br_mT | apply br_mF); assumption) | ((first | apply br_lss | apply br_leq | apply br_gtr | apply br_geq | apply br_dec | apply br_beq | apply br_bne | apply br_beqB | apply br_bneB | apply br_not | apply br_m | apply br_intro) <;> intro h0 <;> first | (exfalso; first | omega | exact tf h0 (by assumption) | exact tf (by assumption) h0 | exact h0 (by assumption) | exact h0 rfl | exact of_decide_eq_false h0 rfl) | skip) | refine ArrA.mk _ rfl rfl ?_ | (apply IdxA.lit; omega; exact rfl) | ((first | apply IdxA.of_nat | (apply IdxA.of_map; (first | omega | (simp only [lenS] at *; omega) | grind))); rotate_left; (first | omega | (simp only [lenS] at *; omega) | grind)) | apply IsL.set (f := pI) (a := _) rfl | apply IsL.rep (f := pI) (a := _) rfl | apply IsL.lit (f := pI) [] rfl | apply IsL.lit (f := pI) [_] rfl | apply IsL.lit (f := pI) [_, _] rfl | apply IsL.lit (f := pI) [_, _, _] rfl | apply IsL.lit (f := pI) [_, _, _, _] rfl | (apply And.intro; (first | with_reducible rfl | (show (_ : AV) = _; rfl) | (first | omega | (simp only [lenS] at *; omega) | grind))) | (refine CallA.scalar (rgValid_call nl l _) ?_) | (refine CallA.scalar (rWords_call nl2 rs) ?_)) <;> (conv => whnf))
  iterate 2
    · (refine' RetK.auto (.tup [.p (pI 0), .p (pI 0), .p (pI 1)]) ([]) rfl rfl rfl rfl _ _ _ <;> repeat' (first | exact trivial | refine And.intro ?_ ?_ | with_reducible rfl | (refine pIEq ?_; (first | omega | (simp only [lenS] at *; omega) | grind)) | (refine bufMap ?_) | (refine bufNil ?_) | (refine bufEq ?_) | rfl))
      have e : encE l rs w = 1 := by
        unfold encE; rw [if_pos]
        first
          | exact .inl h0
          | exact .inr h0
          | exact .inr (of_decide_eq_false h0)
      rw [encR, encV, e]; rfl
  · have hW : Words rs := by first | assumption | (apply of_decide_eq_true; assumption)
    have hS : slotsE l rs.length = 0 := by assumption
    have hF := rFind_call nl l w.kind w.unit
    rcases hf : l.find? (fun s => s.kind == w.kind && s.unit == w.unit) with _ | s
    · rw [hf] at hF
      simp only [Option.map_none, Option.getD_none, Option.isSome_none] at hF
      have e : encE l rs w = 4 := by unfold encE; rw [if_neg (by rintro (h | h); exact h hS; exact h hW), hf]
      refine callPV2 hF ⟨Fld.flat _, trivial⟩ ?_
      (conv => whnf); repeat' ((first | ((first | apply LenA.map | apply NilA.map | apply NilA.mk); intro _) | apply CondA.plain | ((first | apply NW.as | apply ValA.as); with_reducible assumption) | ((first | apply NW.i64 | apply NW.u32 | apply NW.u64 | apply NW.u8 | apply InA.nat | apply InA.map | apply AppA.snoc (f := pI) (a := _) rfl | apply AppA.one (f := pI) (a := _) rfl | apply AppA.map | apply AppA.nil | apply CutA.lo | apply CutA.hi); (first | omega | (simp only [lenS] at *; omega) | grind)) | ((first | (apply RemA.as; assumption) | apply RemA.self); (first | omega | (simp only [lenS] at *; omega) | grind)) | (apply ValA.as; assumption) | apply ValA.self | (apply NW.as; assumption) | (apply SzA.map; (intro _; rfl)) | with_reducible apply br_pt | with_reducible apply br_pf | with_reducible apply br_mt | with_reducible apply br_mf | apply Both.mk | ((first | apply br_T | apply br_F | apply br_mT | apply br_mF); assumption) | ((first | apply br_lss | apply br_leq | apply br_gtr | apply br_geq | apply br_dec | apply br_beq | apply br_bne | apply br_beqB | apply br_bneB | apply br_not | apply br_m | apply br_intro) <;> intro h0 <;> first | (exfalso; first | omega | exact tf h0 (by assumption) | exact tf (by assumption) h0 | exact h0 (by assumption) | exact h0 rfl | exact of_decide_eq_false h0 rfl) | skip) | refine ArrA.mk _ rfl rfl ?_ | (apply IdxA.lit; omega; exact rfl) | ((first | apply IdxA.of_nat | (apply IdxA.of_map; (first | omega | (simp only [lenS] at *; omega) | grind))); rotate_left; (first | omega | (simp only [lenS] at *; omega) | grind)) | apply IsL.set (f := pI) (a := _) rfl | apply IsL.rep (f := pI) (a := _) rfl | apply IsL.lit (f := pI) [] rfl | apply IsL.lit (f := pI) [_] rfl | apply IsL.lit (f := pI) [_, _] rfl | apply IsL.lit (f := pI) [_, _, _] rfl | apply IsL.lit (f := pI) [_, _, _, _] rfl | (apply And.intro; (first | with_reducible rfl | (show (_ : AV) = _; rfl) | (first | omega | (simp only [lenS] at *; omega) | grind)))) <;> (conv => whnf))
      (refine' RetK.auto (.tup [.p (pI 0), .p (pI 0), .p (pI 4)]) ([]) rfl rfl rfl rfl _ _ _ <;> repeat' (first | exact trivial | refine And.intro ?_ ?_ | with_reducible rfl | (refine pIEq ?_; (first | omega | (simp only [lenS] at *; omega) | grind)) | (refine bufMap ?_) | (refine bufNil ?_) | (refine bufEq ?_) | rfl))
      rw [encR, encV, e]; rfl
    · rw [hf] at hF
      simp only [Option.map_some, Option.getD_some, Option.isSome_some] at hF
      have hR := (slotsE_mem hS (List.mem_of_find?_eq_some hf)).2.2
      refine callPV2 hF ⟨Fld.flat _, trivial⟩ ?_
      obtain ⟨r1, r2, hs⟩ := id hR
      obtain ⟨x, hx, ex, ed⟩ := word_at hW r1 r2
      obtain ⟨s1, s2, s3, s4, s5⟩ := id hs
      obtain ⟨e1, w2, w3⟩ := wbit s.fld.width.toNat (by omega)
      have e1' : IntKind.i64.wrap (1 * 2 ^ (min s.fld.width.toNat IntKind.i64.bits)) = ((2 ^ s.fld.width.toNat : Nat) : Int) := e1
      have ep : (2 : Int) ^ s.fld.width.toNat = ((2 ^ s.fld.width.toNat : Nat) : Int) := by simp
      have eE : encE l rs w = if 0 ≤ w.value ∧ w.value < 2 ^ s.fld.width.toNat then 0 else 2 := by
        unfold encE; rw [if_neg (by rintro (h | h); exact h hS; exact h hW), hf]
      rw [ep] at eE
      have hlen : rs.length ≤ 100000 := by have := (slotsE_zero hS).1; omega
      (conv => whnf); repeat' ((first | ((first | apply LenA.map | apply NilA.map | apply NilA.mk); intro _) | apply CondA.plain | ((first | apply NW.as | apply ValA.as); with_reducible assumption) | ((first | apply NW.i64 | apply NW.u32 | apply NW.u64 | apply NW.u8 | apply InA.nat | apply InA.map | apply AppA.snoc (f := pI) (a := _) rfl | apply AppA.one (f := pI) (a := _) rfl | apply AppA.map | apply AppA.nil | apply CutA.lo | apply CutA.hi); (first | omega | (simp only [lenS] at *; omega) | grind)) | ((first | (apply RemA.as; assumption) | apply RemA.self); (first | omega | (simp only [lenS] at *; omega) | grind)) | (apply ValA.as; assumption) | apply ValA.self | (apply NW.as; assumption) | (apply SzA.map; (intro _; rfl)) | with_reducible apply br_pt | with_reducible apply br_pf | with_reducible apply br_mt | with_reducible apply br_mf | apply Both.mk | ((first | apply br_T | apply br_F | apply br_mT | apply br_mF); assumption) | ((first | apply br_lss | apply br_leq | apply br_gtr | apply br_geq | apply br_dec | apply br_beq | apply br_bne | apply br_beqB | apply br_bneB | apply br_not | apply br_m | apply br_intro) <;> intro h0 <;> first | (exfalso; first | omega | exact tf h0 (by assumption) | exact tf (by assumption) h0 | exact h0 (by assumption) | exact h0 rfl | exact of_decide_eq_false h0 rfl) | skip) | refine ArrA.mk _ rfl rfl ?_ | (apply IdxA.lit; omega; exact rfl) | ((first | apply IdxA.of_nat | (apply IdxA.of_map; (first | omega | (simp only [lenS] at *; omega) | grind))); rotate_left; (first | omega | (simp only [lenS] at *; omega) | grind)) | apply IsL.set (f := pI) (a := _) rfl | apply IsL.rep (f := pI) (a := _) rfl | apply IsL.lit (f := pI) [] rfl | apply IsL.lit (f := pI) [_] rfl | apply IsL.lit (f := pI) [_, _] rfl | apply IsL.lit (f := pI) [_, _, _] rfl | apply IsL.lit (f := pI) [_, _, _, _] rfl | (apply And.intro; (first | with_reducible rfl | (show (_ : AV) = _; rfl) | (first | omega | (simp only [lenS] at *; omega) | grind))) | (refine CallA.fresh _ (rPut_call nl2 rs s.fld w.value hlen) ?_; rintro _ ⟨nl0, rfl⟩)) <;> (conv => whnf))
      · (refine' RetK.auto (.tup [.p (pI 0), .p (pI 0), .p (pI 2)]) ([]) rfl rfl rfl rfl _ _ _ <;> repeat' (first | exact trivial | refine And.intro ?_ ?_ | with_reducible rfl | (refine pIEq ?_; (first | omega | (simp only [lenS] at *; omega) | grind)) | (refine bufMap ?_) | (refine bufNil ?_) | (refine bufEq ?_) | rfl))
        have e : encE l rs w = 2 := by
          rw [eE, if_neg]
          intro h
          exact h0 (by unfold putE; rw [if_pos ⟨hR, hW, by rw [ep]; exact h⟩])
        rw [encR, encV, e]; rfl
      · have hp := putE_zero h0
        obtain ⟨v, hv0⟩ := Int.eq_ofNat_of_zero_le hp.2.2.1
        have hp4 := hp.2.2.2
        rw [ep] at hp4
        have e : encE l rs w = 0 := by rw [eE, if_pos ⟨hp.2.2.1, hp4⟩]
        have ev : encV l rs w = putN s.fld x v := by
          rw [encV, e, hf, if_neg (by omega)]
          simp only [Option.map_some, Option.getD_some]
          rw [ed, hv0]; rfl
        have er : encR l rs w = s.fld.reg := by rw [encR, e, hf]; rfl
        have el : putL rs s.fld w.value = rs.set s.fld.reg.toNat (putN s.fld x v) := by
          rw [putL, h0, ed, hv0]; rfl
        rw [e, ev, er]
        have hlt : s.fld.reg.toNat < rs.length := by omega
        have eget : ∀ h, (putL rs s.fld w.value)[s.fld.reg.toNat]'h = (putN s.fld x v : Int) := fun h => by simp only [el, List.getElem_set_self]
        have hll : (putL rs s.fld w.value).length = rs.length := by rw [el]; simp
        apply DrawA.quiet (by kernel_rfl) (by kernel_rfl)
        (conv => whnf); repeat' ((first | ((first | apply LenA.map | apply NilA.map | apply NilA.mk); intro _) | apply CondA.plain | ((first | apply NW.as | apply ValA.as); with_reducible assumption) | ((first | apply NW.i64 | apply NW.u32 | apply NW.u64 | apply NW.u8 | apply InA.nat | apply InA.map | apply AppA.snoc (f := pI) (a := _) rfl | apply AppA.one (f := pI) (a := _) rfl | apply AppA.map | apply AppA.nil | apply CutA.lo | apply CutA.hi); (first | omega | (simp only [lenS] at *; omega) | grind)) | ((first | (apply RemA.as; assumption) | apply RemA.self); (first | omega | (simp only [lenS] at *; omega) | grind)) | (apply ValA.as; assumption) | apply ValA.self | (apply NW.as; assumption) | (apply SzA.map; (intro _; rfl)) | with_reducible apply br_pt | with_reducible apply br_pf | with_reducible apply br_mt | with_reducible apply br_mf | apply Both.mk | ((first | apply br_T | apply br_F | apply br_mT | apply br_mF); assumption) | ((first | apply br_lss | apply br_leq | apply br_gtr | apply br_geq | apply br_dec | apply br_beq | apply br_bne | apply br_beqB | apply br_bneB | apply br_not | apply br_m | apply br_intro) <;> intro h0 <;> first | (exfalso; first | omega | exact tf h0 (by assumption) | exact tf (by assumption) h0 | exact h0 (by assumption) | exact h0 rfl | exact of_decide_eq_false h0 rfl) | skip) | refine ArrA.mk _ rfl rfl ?_ | (apply IdxA.lit; omega; exact rfl) | ((first | apply IdxA.of_nat | (apply IdxA.of_map; (first | omega | (simp only [lenS] at *; omega) | grind))); rotate_left; (first | omega | (simp only [lenS] at *; omega) | grind)) | apply IsL.set (f := pI) (a := _) rfl | apply IsL.rep (f := pI) (a := _) rfl | apply IsL.lit (f := pI) [] rfl | apply IsL.lit (f := pI) [_] rfl | apply IsL.lit (f := pI) [_, _] rfl | apply IsL.lit (f := pI) [_, _, _] rfl | apply IsL.lit (f := pI) [_, _, _, _] rfl | (apply And.intro; (first | with_reducible rfl | (show (_ : AV) = _; rfl) | (first | omega | (simp only [lenS] at *; omega) | grind)))) <;> (conv => whnf))
        (refine' RetK.auto (.tup [.p (pI s.fld.reg), .p (pI (putN s.fld x v)), .p (pI 0)]) ([]) rfl rfl rfl rfl _ _ _ <;> repeat' (first | exact trivial | refine And.intro ?_ ?_ | with_reducible rfl | (refine pIEq ?_; (first | omega | (simp only [lenS] at *; omega) | grind)) | (refine bufMap ?_) | (refine bufNil ?_) | (refine bufEq ?_) | rfl))
        all_goals (try (rw [eget])); try rfl
end Go.Proofs.Ytdaggbjphopohaa
