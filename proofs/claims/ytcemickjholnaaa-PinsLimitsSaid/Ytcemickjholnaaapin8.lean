/- Pinouts: owners, free pins; the chapter's example. -/
import Derived.Test.Ytcemickjholnaaapin7
namespace Go.Proofs.Ytcemickjholnaaa
set_option linter.unusedSimpArgs false
set_option linter.unusedVariables false
set_option linter.unnecessarySimpa false
open Go.Abs
set_option maxRecDepth 100000
theorem ownG_bad {gs : List Grp} : ∀ {us : List Us} {seen o : List Int}, (ownG gs us seen o).2 ≠ 0 → (ownG gs us seen o).1 = []
  | [], _, _, h => absurd rfl h
  | u :: r, seen, o, h => by
    rw [ownG] at h ⊢
    split
    · rfl
    · rename_i h1
      rw [if_neg h1] at h
      split
      · rfl
      · rename_i h2
        rw [if_neg h2] at h
        split
        · rfl
        · rename_i o' h3
          rw [h3] at h
          exact ownG_bad h
theorem ownersF_bad {p : Pin} {us : List Us} (h : (ownersF p us).2 ≠ 0) : (ownersF p us).1 = [] := by
  unfold ownersF at h ⊢
  split
  · rename_i h1
    rw [if_pos h1] at h
    exact ownG_bad h
  · rfl
theorem ownersF_valid {p : Pin} {us : List Us} (h : (ownersF p us).2 = 0) : validP p = 0 := by
  unfold ownersF at h
  split at h
  · assumption
  · cases h
/-- Kept for later: a goal of a walk's step. -/
theorem park_pin8 {P : Prop} (x : P) (_ : x = x) : P := x
/-- One step of a walk. -/
theorem go_pin8 {P : Prop} (h : P := by
  (first | ((first | apply LenA.map | apply NilA.map | apply NilA.mk); intro _) | ((first | apply NW.as | apply ValA.as); with_reducible assumption) | ((first | apply NW.i64 | apply NW.u32 | apply NW.u64 | apply NW.u8 | apply InA.nat | apply InA.map | apply AppA.snoc (f := pI) (a := _) rfl | apply AppA.one (f := pI) (a := _) rfl | apply AppA.snoc (f := pB) (a := _) rfl | apply AppA.one (f := pB) (a := _) rfl | apply AppA.snoc (f := pS) (a := _) rfl | apply AppA.one (f := pS) (a := _) rfl | apply AppA.snoc (f := Us.pv) (a := _) rfl | apply AppA.one (f := Us.pv) (a := _) rfl | (apply AppA.snoc (f := Us.pv) (a := ⟨_, _⟩); dsimp only [Us.pv]; exact rfl) | (apply AppA.one (f := Us.pv) (a := ⟨_, _⟩); dsimp only [Us.pv]; exact rfl) | apply AppA.map | apply AppA.nil | apply CutA.lo | apply CutA.hi); (first | omega | (simp only [lenS] at *; omega) | grind)) | ((first | (apply RemA.as; assumption) | apply RemA.self); (first | omega | (simp only [lenS] at *; omega) | grind)) | (apply ValA.as; assumption) | apply ValA.self | (apply NW.as; assumption) | (apply SzA.map; (intro _; rfl)) | with_reducible apply br_pt | with_reducible apply br_pf | with_reducible apply br_mt | with_reducible apply br_mf | apply Both.mk | ((first | apply br_T | apply br_F | apply br_mT | apply br_mF); assumption) | ((first | apply br_lss | apply br_leq | apply br_gtr | apply br_geq | apply br_dec | apply br_beq | apply br_bne | apply br_beqB | apply br_bneB | apply br_not | apply br_m | apply br_intro) <;> intro h0 <;> first | (exfalso; first | omega | exact tf h0 (by assumption) | exact tf (by assumption) h0 | exact h0 (by assumption) | exact h0 rfl | exact of_decide_eq_false h0 rfl) | skip) | refine ArrA.mk _ rfl rfl ?_ | (apply IdxA.lit; omega; exact rfl) | ((first | apply IdxA.of_nat | (apply IdxA.of_map; (first | omega | (simp only [lenS] at *; omega) | grind))); rotate_left; (first | omega | (simp only [lenS] at *; omega) | grind)) | apply AppC.own | apply CutO.part | apply IsL.set (f := pI) (a := _) rfl | apply IsL.rep (f := pI) (a := _) rfl | apply IsL.set (f := pB) (a := _) rfl | apply IsL.rep (f := pB) (a := _) rfl | apply IsL.set (f := pS) (a := _) rfl | apply IsL.rep (f := pS) (a := _) rfl | apply IsL.set (f := Us.pv) (a := _) rfl | apply IsL.rep (f := Us.pv) (a := _) rfl | (apply IsL.set (f := Us.pv) (a := ⟨_, _⟩); dsimp only [Us.pv]; exact rfl) | (apply IsL.rep (f := Us.pv) (a := ⟨_, _⟩); dsimp only [Us.pv]; exact rfl) | apply IsL.lit (f := pI) [] rfl | apply IsL.lit (f := pI) [_] rfl | apply IsL.lit (f := pB) [] rfl | apply IsL.lit (f := pB) [_] rfl | apply IsL.lit (f := pS) [] rfl | apply IsL.lit (f := pS) [_] rfl | apply IsL.lit (f := Us.pv) [] rfl | apply IsL.lit (f := Us.pv) [_] rfl | apply IsL.lit (f := Us.pv) [] rfl | apply IsL.lit (f := Us.pv) [⟨_, _⟩] rfl | (apply And.intro; (first | with_reducible rfl | (show (_ : AV) = _; rfl) | (first | omega | (simp only [lenS] at *; omega) | grind)))) <;> (solve_by_elim (newGoals := .nonDependentOnly) (symm := false) (exfalso := false) (transparency := .reducible) only [rfl, park_pin8])) : P := h
theorem Owners_call (p : Pin) (nu : Bool) (us : List Us) : Pure Try.prog 28 [.p p.pv, .p (.list nu (us.map Us.pv))] (R2 pI (ownersF p us).1 (ownersF p us).2) := by
  refine acall_enter Try.func28 rfl rfl tabOK rfl ?_
  have hz := z64_len
  (conv => whnf); repeat' ((first | apply CondA.plain | refine' go_pin8 | (apply DrawA.quiet (by kernel_rfl) (by kernel_rfl); (conv => whnf); fail_if_success (show False))) <;> (conv => whnf))
  refine CallA.loc [] [] rfl rfl ((owners_call p nu us).mono ?_)
  rintro _ _ ⟨T, hTl, rfl, rfl, hok⟩
  have hTm : (T.map pI).length = 64 := by rw [List.length_map, hTl]
  rcases Decidable.em ((ownersF p us).2 = 0) with he | he
  rotate_left
  · have e1 := ownersF_bad he
    rw [e1]
    (conv => whnf); repeat' ((first | (refine WholeA.mk hTm ?_) | (refine WholeA.mk hz ?_) | apply CondA.plain | refine' go_pin8 | (apply DrawA.quiet (by kernel_rfl) (by kernel_rfl); (conv => whnf); fail_if_success (show False))) <;> (conv => whnf))
    (first | (apply RetK.r1; exact rfl; exact (fun _ => flat_ofB rfl)) | apply RetK.r1n | (apply RetK.r2; exact rfl; exact (fun _ => flat_ofB rfl)) | apply RetK.r2n | (apply RetK.r3; exact rfl; exact (fun _ => flat_ofB rfl)) | apply RetK.r3n) <;> rfl
  obtain ⟨h1, h2⟩ := hok he
  have hn := (valid_of (ownersF_valid he)).n
  rw [he]
  (conv => whnf); repeat' ((first | (refine WholeA.mk hTm ?_) | (refine WholeA.mk hz ?_) | apply CondA.plain | refine' go_pin8 | (apply DrawA.quiet (by kernel_rfl) (by kernel_rfl); (conv => whnf); fail_if_success (show False))) <;> (conv => whnf))
  rw [← List.map_take, h1]
  refine CallA.loc [] [] rfl rfl ((Clone_call _ _ (by omega)).mono ?_)
  rintro _ _ ⟨n2, rfl, rfl⟩
  (conv => whnf); repeat' ((first | apply CondA.plain | refine' go_pin8 | (apply DrawA.quiet (by kernel_rfl) (by kernel_rfl); (conv => whnf); fail_if_success (show False))) <;> (conv => whnf))
  (first | (apply RetK.r1; exact rfl; exact (fun _ => flat_ofB rfl)) | apply RetK.r1n | (apply RetK.r2; exact rfl; exact (fun _ => flat_ofB rfl)) | apply RetK.r2n | (apply RetK.r3; exact rfl; exact (fun _ => flat_ofB rfl)) | apply RetK.r3n) <;> rfl
/-- The pins without an owner, of the first ones. -/
def freeG (o : List Int) (c : Nat) : List Int := ((List.range c).filter fun i => decide (o.getD i 0 < 0)).map fun (i : Nat) => (i : Int)
def freeF (p : Pin) (us : List Us) : List Int := if (ownersF p us).2 = 0 then freeG (ownersF p us).1 (ownersF p us).1.length else []
theorem freeG_succ (o : List Int) (c : Nat) : freeG o (c + 1) = freeG o c ++ (if o.getD c 0 < 0 then [(c : Int)] else []) := by
  unfold freeG
  rw [List.range_succ, List.filter_append, List.map_append]
  congr 1
  by_cases h : o.getD c 0 < 0
  · rw [if_pos h, List.filter_cons, if_pos (decide_eq_true h)]; rfl
  · rw [if_neg h, List.filter_cons, if_neg (by simpa using h)]; rfl
theorem freeG_len (o : List Int) (c : Nat) : (freeG o c).length ≤ c := by
  unfold freeG
  rw [List.length_map]
  exact Nat.le_trans (List.length_filter_le _ _) (by simp)
theorem Free_call (p : Pin) (nu : Bool) (us : List Us) : Pure Try.prog 30 [.p p.pv, .p (.list nu (us.map Us.pv))] (R1 pI (freeF p us)) := by
  refine acall_enter Try.func30 rfl rfl tabOK rfl ?_
  have hz := z64_len
  (conv => whnf); repeat' ((first | apply CondA.plain | refine' go_pin8 | (apply DrawA.quiet (by kernel_rfl) (by kernel_rfl); (conv => whnf); fail_if_success (show False))) <;> (conv => whnf))
  refine CallA.loc [] [] rfl rfl ((owners_call p nu us).mono ?_)
  rintro _ _ ⟨T, hTl, rfl, rfl, hok⟩
  have hTm : (T.map pI).length = 64 := by rw [List.length_map, hTl]
  rcases Decidable.em ((ownersF p us).2 = 0) with he | he
  rotate_left
  · have e1 : freeF p us = [] := by rw [freeF, if_neg he]
    rw [e1]
    (conv => whnf); repeat' ((first | (refine WholeA.mk hTm ?_) | (refine WholeA.mk hz ?_) | apply CondA.plain | refine' go_pin8 | (apply DrawA.quiet (by kernel_rfl) (by kernel_rfl); (conv => whnf); fail_if_success (show False))) <;> (conv => whnf))
    (first | (apply RetK.r1; exact rfl; exact (fun _ => flat_ofB rfl)) | apply RetK.r1n | (apply RetK.r2; exact rfl; exact (fun _ => flat_ofB rfl)) | apply RetK.r2n | (apply RetK.r3; exact rfl; exact (fun _ => flat_ofB rfl)) | apply RetK.r3n) <;> rfl
  obtain ⟨h1, h2⟩ := hok he
  have hn := (valid_of (ownersF_valid he)).n
  have e1 : freeF p us = freeG (ownersF p us).1 (ownersF p us).1.length := by rw [freeF, if_pos he]
  rw [he, e1]
  obtain ⟨o, ho⟩ : ∃ o, (ownersF p us).1 = o := ⟨_, rfl⟩
  rw [ho] at h1 h2 ⊢
  have h3 : (T.map pI).take p.n.toNat = o.map pI := by rw [← List.map_take, h1]
  (conv => whnf); repeat' ((first | (refine WholeA.mk hTm ?_) | (refine WholeA.mk hz ?_) | apply CondA.plain | refine' go_pin8 | (apply DrawA.quiet (by kernel_rfl) (by kernel_rfl); (conv => whnf); fail_if_success (show False)) | (rw [h3])) <;> (conv => whnf))
  have hol : o.length ≤ 64 := by omega
  refine loop_rule (fun (⟨c, nb, z⟩ : Nat × Bool × List Int) => ⟨[(7, .buf 0), (20, .p (.list false (o.map pI))), (21, .p (pI o.length)), (22, .p (pI c))], [some (AO.buf 3 nb (z.map pI))]⟩) (fun (⟨c, nb, z⟩ : Nat × Bool × List Int) => c ≤ o.length ∧ z = freeG o c) (fun (⟨c, nb, z⟩ : Nat × Bool × List Int) => o.length - c) (0, true, []) ?_ ?_ ?_; (refine SubA.auto1 (3, 7) rfl rfl rfl rfl rfl ?_ ?_ <;> repeat' (first | exact trivial | refine And.intro ?_ ?_ | with_reducible rfl | (refine pIEq ?_; (first | omega | (simp only [lenS] at *; omega) | grind)) | (refine bufMap ?_) | (refine bufNil ?_) | (refine bufEq ?_) | rfl))
  · exact ⟨Nat.zero_le _, rfl⟩
  rintro ⟨c, nb, z⟩ ⟨hc, hzc⟩
  have hzl : z.length ≤ c := by rw [hzc]; exact freeG_len _ _
  rcases Nat.lt_or_ge c o.length with hlt | hge
  · have hs := freeG_succ o c
    obtain ⟨v, hv⟩ : ∃ v, o[c] = v := ⟨_, rfl⟩
    have hv1 : o[((c : Nat) : Int).toNat]? = some v := by rw [Int.toNat_natCast, List.getElem?_eq_getElem hlt, hv]
    have hc0 : (0 : Int) ≤ (c : Nat) := Int.natCast_nonneg c
    have hvd : o.getD c 0 = v := by rw [List.getD_eq_getElem?_getD, List.getElem?_eq_getElem hlt, hv]; rfl
    rw [hvd, ← hzc] at hs
    rcases Decidable.em (v < 0) with hn0 | hn0
    · rw [if_pos hn0] at hs
      (conv => whnf); repeat' ((first | (apply IdxA.at_ (f := pI) v hc0 hv1) | apply CondA.plain | refine' go_pin8 | (apply DrawA.quiet (by kernel_rfl) (by kernel_rfl); (conv => whnf); fail_if_success (show False))) <;> (conv => whnf))
      (refine' ⟨(c + 1, false, z ++ [(c : Int)]), _, _, _⟩; rotate_right; (refine SubA.auto rfl rfl rfl rfl ?_ ?_ <;> repeat' (first | exact trivial | refine And.intro ?_ ?_ | with_reducible rfl | (refine pIEq ?_; (first | omega | (simp only [lenS] at *; omega) | grind)) | (refine bufMap ?_) | (refine bufNil ?_) | (refine bufEq ?_) | rfl)); rotate_right; (first | omega | (simp only []; omega) | (simp; omega) | (first | omega | (simp only [lenS] at *; omega) | grind)))
      exact ⟨by omega, hs.symm⟩
    · rw [if_neg hn0, List.append_nil] at hs
      (conv => whnf); repeat' ((first | (apply IdxA.at_ (f := pI) v hc0 hv1) | apply CondA.plain | refine' go_pin8 | (apply DrawA.quiet (by kernel_rfl) (by kernel_rfl); (conv => whnf); fail_if_success (show False))) <;> (conv => whnf))
      (refine' ⟨(c + 1, nb, z), _, _, _⟩; rotate_right; (refine SubA.auto rfl rfl rfl rfl ?_ ?_ <;> repeat' (first | exact trivial | refine And.intro ?_ ?_ | with_reducible rfl | (refine pIEq ?_; (first | omega | (simp only [lenS] at *; omega) | grind)) | (refine bufMap ?_) | (refine bufNil ?_) | (refine bufEq ?_) | rfl)); rotate_right; (first | omega | (simp only []; omega) | (simp; omega) | (first | omega | (simp only [lenS] at *; omega) | grind)))
      exact ⟨by omega, hs.symm⟩
  · obtain rfl : c = o.length := by omega
    rw [← hzc]
    (conv => whnf); repeat' ((first | apply CondA.plain | refine' go_pin8 | (apply DrawA.quiet (by kernel_rfl) (by kernel_rfl); (conv => whnf); fail_if_success (show False))) <;> (conv => whnf))
    (first | (apply RetK.r1; exact rfl; exact (fun _ => flat_ofB rfl)) | apply RetK.r1n | (apply RetK.r2; exact rfl; exact (fun _ => flat_ofB rfl)) | apply RetK.r2n | (apply RetK.r3; exact rfl; exact (fun _ => flat_ofB rfl)) | apply RetK.r3n) <;> rfl
def sUart : ByteArray := ⟨#[117, 97, 114, 116]⟩
def twoP : Pin := ⟨3, false, [⟨⟨#[97]⟩, false, [0, 1], false, [sUart]⟩, ⟨⟨#[98]⟩, false, [1, 2], false, [⟨#[115, 112, 105]⟩, sUart]⟩]⟩
theorem two_call : ACall Try.prog 33 [] [] fun r H => r = .p twoP.pv ∧ H = [] := by
  refine acall_enter Try.func33 rfl rfl tabOK rfl ?_
  (conv => whnf); repeat' ((first | (refine IsL.lit (f := pI) [0, 1] rfl ?_) | (refine IsL.lit (f := pS) [sUart] rfl ?_) | (refine IsL.lit (f := pI) [1, 2] rfl ?_) | (refine IsL.lit (f := pS) [⟨#[115, 112, 105]⟩, sUart] rfl ?_) | (refine IsL.lit (f := Grp.pv) twoP.gs rfl ?_) | apply CondA.plain | refine' go_pin8 | (apply DrawA.quiet (by kernel_rfl) (by kernel_rfl); (conv => whnf); fail_if_success (show False))) <;> (conv => whnf))
  (refine RetK.frz _ _ _ [5] ?_; refine' RetK.auto (.p twoP.pv) ([]) rfl rfl rfl rfl _ _ _ <;> repeat' (first | exact trivial | refine And.intro ?_ ?_ | with_reducible rfl | (refine pIEq ?_; (first | omega | (simp only [lenS] at *; omega) | grind)) | (refine bufMap ?_) | (refine bufNil ?_) | (refine bufEq ?_) | rfl))
set_option maxHeartbeats 4000000 in
theorem sane22_call : ACall Try.prog 9 [] [] fun r H => r = .p (pB true) ∧ H = [] := by
  refine acall_enter Try.func9 rfl rfl tabOK rfl ?_
  have hv : validP twoP = 0 := by decide +kernel
  have a1 : (ownersF twoP [⟨0, 0⟩]).1 = [0, 0, -1] := by decide +kernel
  have a2 : (ownersF twoP [⟨0, 0⟩]).2 = 0 := by decide +kernel
  have a3 : (ownersF twoP [⟨0, 0⟩, ⟨1, 1⟩]).2 = 40 := by decide +kernel
  have a4 : (ownersF twoP [⟨0, 0⟩, ⟨1, 1⟩]).1 = [] := by decide +kernel
  have a5 : commonF twoP 0 1 = [1] := by decide +kernel
  have a6 : offersF twoP sUart = [0, 1] := by decide +kernel
  have a7 : wordF ⟨#[97, 45, 49]⟩ = true := by decide +kernel
  have i1 : decide (([1] : List Int) = [1]) = true := by decide
  have i2 : decide (([0, 0, -1] : List Int) = [0, 0, -1]) = true := by decide
  have i3 : decide (([0, 1] : List Int) = [0, 1]) = true := by decide
  have hfd : ∀ v, FindP twoP ⟨#[98]⟩ v → v = 1 := fun v h => by
    refine h.unique ?_
    rw [FindP, if_pos hv]
    exact .inr ⟨1, rfl, by decide, by decide +kernel, by decide +kernel⟩
  (conv => whnf); repeat' ((first | (refine IsL.lit (f := Us.pv) [⟨0, 0⟩] rfl ?_) | (refine IsL.lit (f := Us.pv) [⟨0, 0⟩, ⟨1, 1⟩] rfl ?_) | (refine IsL.lit (f := pI) [1] rfl ?_) | (refine IsL.lit (f := pI) [0, 0, -1] rfl ?_) | (refine IsL.lit (f := pI) [0, 1] rfl ?_) | apply CondA.plain | refine' go_pin8 | (apply DrawA.quiet (by kernel_rfl) (by kernel_rfl); (conv => whnf); fail_if_success (show False)) | ((refine CallA.loc [] [] rfl rfl (two_call.mono ?_); rintro _ _ ⟨rfl, rfl⟩)) | ((refine CallA.fresh _ (Owners_call twoP _ [⟨0, 0⟩]) ?_; rintro _ ⟨n1, rfl⟩; rw [a1, a2])) | ((refine CallA.fresh _ (Owners_call twoP _ [⟨0, 0⟩, ⟨1, 1⟩]) ?_; rintro _ ⟨n2, rfl⟩; rw [a3, a4])) | ((refine CallA.scalar (pValid_call twoP) ?_; rw [hv])) | ((refine CallA.fresh _ (Common_call twoP 0 1) ?_; rintro _ ⟨n3, rfl⟩; rw [a5])) | ((refine CallA.fresh _ (Offers_call twoP sUart) ?_; rintro _ ⟨n4, rfl⟩; rw [a6])) | ((refine CallA.scalar (Word_call _) ?_; rw [a7])) | ((refine CallA.scalar (Ints_call _ _ [1] [1]) ?_; rw [i1])) | ((refine CallA.scalar (Ints_call _ _ [0, 0, -1] [0, 0, -1]) ?_; rw [i2])) | ((refine CallA.scalar (Ints_call _ _ [0, 1] [0, 1]) ?_; rw [i3])) | ((refine CallA.loc [] [] rfl rfl ((Find_call twoP ⟨#[98]⟩).mono ?_); rintro _ _ ⟨⟨v, rfl, hf⟩, rfl⟩; rw [hfd v hf]))) <;> (conv => whnf))
  (refine RetK.p ?_ <;> repeat' (first | exact trivial | refine And.intro ?_ ?_ | with_reducible rfl | (refine pIEq ?_; (first | omega | (simp only [lenS] at *; omega) | grind)) | (refine bufMap ?_) | (refine bufNil ?_) | (refine bufEq ?_) | rfl); all_goals try first | refine pBEq ?_ | refine pIEq ?_)
end Go.Proofs.Ytcemickjholnaaa
