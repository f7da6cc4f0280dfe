/- Pinning: made demands; the reference's demands that are right, its options and its free groups. -/
import Derived.Test.YtnogpkaehiapfaapgT
import Derived.Test.YtnogpkaehiapfaapinI
namespace Go.Proofs.Ytnogpkaehiapfaa
set_option linter.unusedSimpArgs false
set_option linter.unusedVariables false
set_option linter.unnecessarySimpa false
open Go.Abs
set_option maxRecDepth 100000
/-- Kept for later: a goal of a walk's step. -/
theorem park_pgC {P : Prop} (x : P) (_ : x = x) : P := x
/-- One step of a walk. -/
theorem go_pgC {P : Prop} (h : P := by
  (first | ((first | apply LenA.map | apply NilA.map | apply NilA.mk); intro _) | ((first | apply NW.as | apply ValA.as); with_reducible assumption) | ((first | apply NW.i64 | apply NW.u32 | apply NW.u64 | apply NW.u8 | apply InA.nat | apply InA.map | apply AppA.snoc (f := pI) (a := _) rfl | apply AppA.one (f := pI) (a := _) rfl | apply AppA.snoc (f := pB) (a := _) rfl | apply AppA.one (f := pB) (a := _) rfl | apply AppA.snoc (f := pS) (a := _) rfl | apply AppA.one (f := pS) (a := _) rfl | apply AppA.map | apply AppA.nil | apply CutA.lo | apply CutA.hi); (first | omega | (simp only [lenS] at *; omega) | grind)) | ((first | (apply RemA.as; assumption) | apply RemA.self); (first | omega | (simp only [lenS] at *; omega) | grind)) | (apply ValA.as; assumption) | apply ValA.self | (apply NW.as; assumption) | (apply SzA.map; (intro _; rfl)) | with_reducible apply br_pt | with_reducible apply br_pf | with_reducible apply br_mt | with_reducible apply br_mf | apply Both.mk | ((first | apply br_T | apply br_F | apply br_mT | apply br_mF); assumption) | ((first | apply br_lss | apply br_leq | apply br_gtr | apply br_geq | apply br_dec | apply br_beq | apply br_bne | apply br_beqB | apply br_bneB | apply br_not | apply br_m | apply br_intro) <;> intro h0 <;> first | (exfalso; first | omega | exact tf h0 (by assumption) | exact tf (by assumption) h0 | exact h0 (by assumption) | exact h0 rfl | exact of_decide_eq_false h0 rfl) | skip) | refine ArrA.mk _ rfl rfl ?_ | (apply IdxA.lit; omega; exact rfl) | ((first | apply IdxA.of_nat | (apply IdxA.of_map; (first | omega | (simp only [lenS] at *; omega) | grind))); rotate_left; (first | omega | (simp only [lenS] at *; omega) | grind)) | apply AppC.own | apply CutO.part | apply IsL.set (f := pI) (a := _) rfl | apply IsL.rep (f := pI) (a := _) rfl | apply IsL.set (f := pB) (a := _) rfl | apply IsL.rep (f := pB) (a := _) rfl | apply IsL.set (f := pS) (a := _) rfl | apply IsL.rep (f := pS) (a := _) rfl | apply IsL.lit (f := pI) [] rfl | apply IsL.lit (f := pI) [_] rfl | apply IsL.lit (f := pB) [] rfl | apply IsL.lit (f := pB) [_] rfl | apply IsL.lit (f := pS) [] rfl | apply IsL.lit (f := pS) [_] rfl | (apply And.intro; (first | with_reducible rfl | (show (_ : AV) = _; rfl) | (first | omega | (simp only [lenS] at *; omega) | grind)))) <;> (solve_by_elim (newGoals := .nonDependentOnly) (symm := false) (exfalso := false) (transparency := .reducible) only [rfl, park_pgC])) : P := h
theorem Demands_call (nl : Bool) (ts : List Int) (i : Nat) (h : i ≤ ts.length) (most : Nat) (hm : most ≤ 1000) :
    ACall Try.prog 12 [.ptr 0 0, .p (pI most)] (src nl ts i) fun r H => ∃ (l : List ByteArray) (nb : Bool) (i' : Nat), l.length ≤ most ∧ (∀ x ∈ l, x ∈ wordsL) ∧ i' ≤ ts.length ∧ r = .p (.list nb (l.map pS)) ∧ H = src nl ts i' := by
  refine acall_enter Try.func12 rfl rfl tabOK rfl ?_
  (conv => whnf); repeat' ((first | apply CondA.plain | refine' go_pgC | (apply DrawA.quiet (by kernel_rfl) (by kernel_rfl); (conv => whnf); fail_if_success (show False))) <;> (conv => whnf))
  refine CallA.loc [0] [] rfl rfl ((N_call nl ts i h _ (by omega)).mono ?_)
  rintro r H ⟨v, i1, hv, hv2, hi1, rfl, rfl⟩
  (conv => whnf); repeat' ((first | apply CondA.plain | refine' go_pgC | (apply DrawA.quiet (by kernel_rfl) (by kernel_rfl); (conv => whnf); fail_if_success (show False))) <;> (conv => whnf))
  refine loop_rule (fun (⟨m, l, nb, i⟩ : Nat × List ByteArray × Bool × Nat) => ⟨[(0, .ptr 0 0), (5, .buf 1), (6, .p (pI m))], src nl ts i ++ [some (AO.buf 9 nb (l.map pS))]⟩) (fun (⟨m, l, nb, i⟩ : Nat × List ByteArray × Bool × Nat) => i ≤ ts.length ∧ m + l.length ≤ most ∧ ∀ x ∈ l, x ∈ wordsL) (fun (⟨m, l, nb, i⟩ : Nat × List ByteArray × Bool × Nat) => m) (v.toNat, [], true, i1) ?_ ?_ ?_; (refine SubA.auto1 (9, 5) rfl rfl rfl rfl rfl ?_ ?_ <;> repeat' (first | exact trivial | refine And.intro ?_ ?_ | with_reducible rfl | (refine pIEq ?_; (first | omega | (simp only [lenS] at *; omega) | grind)) | (refine bufMap ?_) | (refine bufNil ?_) | (refine bufEq ?_) | rfl))
  · exact ⟨hi1, by show v.toNat + 0 ≤ most; omega, fun x hx => by cases hx⟩
  rintro ⟨m, l, nb, i⟩ ⟨hi, hml, hw⟩
  rcases Nat.eq_zero_or_pos m with hz | hz
  · (conv => whnf); repeat' ((first | apply CondA.plain | refine' go_pgC | (apply DrawA.quiet (by kernel_rfl) (by kernel_rfl); (conv => whnf); fail_if_success (show False))) <;> (conv => whnf))
    (refine RetK.frz _ _ _ [1] ?_; refine' RetK.auto (.p (.list nb (l.map pS))) (src nl ts i) rfl rfl rfl rfl _ _ _ <;> repeat' (first | exact trivial | refine And.intro ?_ ?_ | with_reducible rfl | (refine pIEq ?_; (first | omega | (simp only [lenS] at *; omega) | grind)) | (refine bufMap ?_) | (refine bufNil ?_) | (refine bufEq ?_) | rfl))
    exact ⟨l, nb, i, by omega, hw, hi, rfl, rfl⟩
  · (conv => whnf); repeat' ((first | apply CondA.plain | refine' go_pgC | (apply DrawA.quiet (by kernel_rfl) (by kernel_rfl); (conv => whnf); fail_if_success (show False))) <;> (conv => whnf))
    refine CallA.loc [] [] rfl rfl (Words_call.mono ?_)
    rintro _ _ ⟨rfl, rfl⟩
    (conv => whnf); repeat' ((first | apply CondA.plain | refine' go_pgC | (apply DrawA.quiet (by kernel_rfl) (by kernel_rfl); (conv => whnf); fail_if_success (show False))) <;> (conv => whnf))
    refine CallA.loc [0] [] rfl rfl ((Text_call nl _ ts i hi wordsL (by decide) (by decide)).mono ?_)
    rintro _ _ ⟨s, i2, hs, hi2, rfl, rfl⟩
    (conv => whnf); repeat' ((first | apply CondA.plain | refine' go_pgC | (apply DrawA.quiet (by kernel_rfl) (by kernel_rfl); (conv => whnf); fail_if_success (show False))) <;> (conv => whnf))
    (refine' ⟨(m - 1, l ++ [s], false, i2), _, _, _⟩; rotate_right; (refine SubA.auto rfl rfl rfl rfl ?_ ?_ <;> repeat' (first | exact trivial | refine And.intro ?_ ?_ | with_reducible rfl | (refine pIEq ?_; (first | omega | (simp only [lenS] at *; omega) | grind)) | (refine bufMap ?_) | (refine bufNil ?_) | (refine bufEq ?_) | rfl)); rotate_right; (first | omega | (simp only []; omega) | (simp; omega) | (first | omega | (simp only [lenS] at *; omega) | grind)))
    refine ⟨hi2, by rw [List.length_append]; show m - 1 + (l.length + 1) ≤ most; omega, fun x hx => ?_⟩
    rcases List.mem_append.1 hx with hx | hx
    · exact hw x hx
    · rw [List.mem_singleton.1 hx]; exact hs
theorem rRight_call (p : Pin) (nl : Bool) (l : List ByteArray) : ACall Try.prog 59 [.p p.pv, .p (.list nl (l.map pS))] [] fun r H => r = .p (pB (decide (rightP p l))) ∧ H = [] := by
  refine acall_enter Try.func59 rfl rfl tabOK rfl ?_
  rcases Decidable.em (validP p = 0 ∧ l.length ≤ 10) with hv | hv
  rotate_left
  · have e : decide (rightP p l) = false := decide_eq_false fun h => hv ⟨h.1, h.2.1⟩
    rw [e]
    rcases Decidable.em (validP p = 0) with h0 | h0
    · have h10 : ¬ l.length ≤ 10 := fun h => hv ⟨h0, h⟩
      (conv => whnf); repeat' ((first | apply CondA.plain | refine' go_pgC | (apply DrawA.quiet (by kernel_rfl) (by kernel_rfl); (conv => whnf); fail_if_success (show False)) | ((refine CallA.scalar (rValid_call p) ?_; rw [h0]))) <;> (conv => whnf))
      (refine RetK.p ?_ <;> repeat' (first | exact trivial | refine And.intro ?_ ?_ | with_reducible rfl | (refine pIEq ?_; (first | omega | (simp only [lenS] at *; omega) | grind)) | (refine bufMap ?_) | (refine bufNil ?_) | (refine bufEq ?_) | rfl); all_goals try first | refine pBEq ?_ | refine pIEq ?_)
    · (conv => whnf); repeat' ((first | apply CondA.plain | refine' go_pgC | (apply DrawA.quiet (by kernel_rfl) (by kernel_rfl); (conv => whnf); fail_if_success (show False)) | (refine CallA.scalar (rValid_call p) ?_)) <;> (conv => whnf))
      (refine RetK.p ?_ <;> repeat' (first | exact trivial | refine And.intro ?_ ?_ | with_reducible rfl | (refine pIEq ?_; (first | omega | (simp only [lenS] at *; omega) | grind)) | (refine bufMap ?_) | (refine bufNil ?_) | (refine bufEq ?_) | rfl); all_goals try first | refine pBEq ?_ | refine pIEq ?_)
  obtain ⟨hv, hl⟩ := hv
  (conv => whnf); repeat' ((first | apply CondA.plain | refine' go_pgC | (apply DrawA.quiet (by kernel_rfl) (by kernel_rfl); (conv => whnf); fail_if_success (show False)) | ((refine CallA.scalar (rValid_call p) ?_; rw [hv]))) <;> (conv => whnf))
  refine loop_rule (fun (c : Nat) => ⟨[(1, .p (.list nl (l.map pS))), (5, .p (pI c))], []⟩) (fun (c : Nat) => c ≤ l.length ∧ ∀ k, (h : k < c) → ∀ h2 : k < l.length, wordF l[k] = true) (fun (c : Nat) => l.length - c) 0 ?_ ?_ ?_; (refine SubA.auto rfl rfl rfl rfl ?_ ?_ <;> repeat' (first | exact trivial | refine And.intro ?_ ?_ | with_reducible rfl | (refine pIEq ?_; (first | omega | (simp only [lenS] at *; omega) | grind)) | (refine bufMap ?_) | (refine bufNil ?_) | (refine bufEq ?_) | rfl))
  · exact ⟨Nat.zero_le _, fun k hk => by omega⟩
  rintro c ⟨hc, hall⟩
  rcases Nat.lt_or_ge c l.length with hlt | hge
  · obtain ⟨s, hs⟩ : ∃ s, l[c] = s := ⟨_, rfl⟩
    have hs1 : l[((c : Nat) : Int).toNat]? = some s := by rw [Int.toNat_natCast, List.getElem?_eq_getElem hlt, hs]
    cases hw : wordF s with
    | false =>
      have e : decide (rightP p l) = false := decide_eq_false fun h => h.2.2 ⟨s, by rw [← hs]; exact List.getElem_mem _, hw⟩
      rw [e]
      (conv => whnf); repeat' ((first | (apply IdxA.at_ (f := pS) s (Int.natCast_nonneg c) hs1) | apply CondA.plain | refine' go_pgC | (apply DrawA.quiet (by kernel_rfl) (by kernel_rfl); (conv => whnf); fail_if_success (show False)) | ((refine CallA.scalar (rWord_call s) ?_; rw [hw]))) <;> (conv => whnf))
      (refine RetK.p ?_ <;> repeat' (first | exact trivial | refine And.intro ?_ ?_ | with_reducible rfl | (refine pIEq ?_; (first | omega | (simp only [lenS] at *; omega) | grind)) | (refine bufMap ?_) | (refine bufNil ?_) | (refine bufEq ?_) | rfl); all_goals try first | refine pBEq ?_ | refine pIEq ?_)
    | true =>
      (conv => whnf); repeat' ((first | (apply IdxA.at_ (f := pS) s (Int.natCast_nonneg c) hs1) | apply CondA.plain | refine' go_pgC | (apply DrawA.quiet (by kernel_rfl) (by kernel_rfl); (conv => whnf); fail_if_success (show False)) | ((refine CallA.scalar (rWord_call s) ?_; rw [hw]))) <;> (conv => whnf))
      (refine' ⟨c + 1, _, _, _⟩; rotate_right; (refine SubA.auto rfl rfl rfl rfl ?_ ?_ <;> repeat' (first | exact trivial | refine And.intro ?_ ?_ | with_reducible rfl | (refine pIEq ?_; (first | omega | (simp only [lenS] at *; omega) | grind)) | (refine bufMap ?_) | (refine bufNil ?_) | (refine bufEq ?_) | rfl)); rotate_right; (first | omega | (simp only []; omega) | (simp; omega) | (first | omega | (simp only [lenS] at *; omega) | grind)))
      refine ⟨by omega, fun k hk h2 => ?_⟩
      rcases Nat.lt_or_ge k c with h | h
      · exact hall k h h2
      · obtain rfl : k = c := by omega
        rw [hs]; exact hw
  · have e : decide (rightP p l) = true := decide_eq_true ⟨hv, hl, fun ⟨f, hf, hw⟩ => by
      obtain ⟨k, hk, rfl⟩ := List.getElem_of_mem hf
      rw [hall k (by omega) hk] at hw
      cases hw⟩
    rw [e]
    (conv => whnf); repeat' ((first | apply CondA.plain | refine' go_pgC | (apply DrawA.quiet (by kernel_rfl) (by kernel_rfl); (conv => whnf); fail_if_success (show False))) <;> (conv => whnf))
    (refine RetK.p ?_ <;> repeat' (first | exact trivial | refine And.intro ?_ ?_ | with_reducible rfl | (refine pIEq ?_; (first | omega | (simp only [lenS] at *; omega) | grind)) | (refine bufMap ?_) | (refine bufNil ?_) | (refine bufEq ?_) | rfl); all_goals try first | refine pBEq ?_ | refine pIEq ?_)
/-- Two lists have a number in common. -/
def shareF (a b : List Int) : Bool := a.any fun x => b.contains x
theorem share_lt {x : Int} {r b : List Int} (h : ∀ y ∈ b, x < y) : shareF (x :: r) b = shareF r b := by
  have : b.contains x = false := by
    rw [Bool.eq_false_iff]
    intro h2
    have := h x (List.contains_iff_mem.1 h2)
    omega
  rw [shareF, List.any_cons, this, Bool.false_or]; rfl
theorem share_gt {y : Int} {a s : List Int} (h : ∀ x ∈ a, y < x) : shareF a (y :: s) = shareF a s := by
  unfold shareF
  rw [Bool.eq_iff_iff, List.any_eq_true, List.any_eq_true]
  constructor
  · rintro ⟨x, hx, hc⟩
    have := h x hx
    rcases List.mem_cons.1 (List.contains_iff_mem.1 hc) with e | hm
    · omega
    · exact ⟨x, hx, List.contains_iff_mem.2 hm⟩
  · rintro ⟨x, hx, hc⟩
    exact ⟨x, hx, List.contains_iff_mem.2 (List.mem_cons_of_mem _ (List.contains_iff_mem.1 hc))⟩
theorem share_nil (a : List Int) : shareF a [] = false := by
  unfold shareF
  induction a with
  | nil => rfl
  | cons x r ih => rw [List.any_cons, ih]; rfl
theorem rshare_call (na nb : Bool) (a b : List Int) (ha : a.Pairwise (· < ·)) (hb : b.Pairwise (· < ·)) : ACall Try.prog 78 [.p (.list na (a.map pI)), .p (.list nb (b.map pI))] [] fun r H => r = .p (pB (shareF a b)) ∧ H = [] := by
  refine acall_enter Try.func78 rfl rfl tabOK rfl ?_
  (conv => whnf); repeat' ((first | apply CondA.plain | refine' go_pgC | (apply DrawA.quiet (by kernel_rfl) (by kernel_rfl); (conv => whnf); fail_if_success (show False))) <;> (conv => whnf))
  refine loop_rule (fun (⟨i, k⟩ : Nat × Nat) => ⟨[(0, .p (.list na (a.map pI))), (1, .p (.list nb (b.map pI))), (5, .p (pI i)), (6, .p (pI k))], []⟩) (fun (⟨i, k⟩ : Nat × Nat) => i ≤ a.length ∧ k ≤ b.length ∧ shareF a b = shareF (a.drop i) (b.drop k)) (fun (⟨i, k⟩ : Nat × Nat) => (a.length - i) + (b.length - k)) (0, 0) ?_ ?_ ?_; (refine SubA.auto rfl rfl rfl rfl ?_ ?_ <;> repeat' (first | exact trivial | refine And.intro ?_ ?_ | with_reducible rfl | (refine pIEq ?_; (first | omega | (simp only [lenS] at *; omega) | grind)) | (refine bufMap ?_) | (refine bufNil ?_) | (refine bufEq ?_) | rfl))
  · exact ⟨Nat.zero_le _, Nat.zero_le _, rfl⟩
  rintro ⟨i, k⟩ ⟨hi, hk, hs⟩
  rcases Nat.lt_or_ge i a.length with hil | hig
  rotate_left
  · rw [List.drop_of_length_le hig] at hs
    rw [hs, show shareF [] (b.drop k) = false from rfl]
    (conv => whnf); repeat' ((first | apply CondA.plain | refine' go_pgC | (apply DrawA.quiet (by kernel_rfl) (by kernel_rfl); (conv => whnf); fail_if_success (show False))) <;> (conv => whnf))
    (refine RetK.p ?_ <;> repeat' (first | exact trivial | refine And.intro ?_ ?_ | with_reducible rfl | (refine pIEq ?_; (first | omega | (simp only [lenS] at *; omega) | grind)) | (refine bufMap ?_) | (refine bufNil ?_) | (refine bufEq ?_) | rfl); all_goals try first | refine pBEq ?_ | refine pIEq ?_)
  rcases Nat.lt_or_ge k b.length with hkl | hkg
  rotate_left
  · rw [List.drop_of_length_le hkg, share_nil] at hs
    rw [hs]
    (conv => whnf); repeat' ((first | apply CondA.plain | refine' go_pgC | (apply DrawA.quiet (by kernel_rfl) (by kernel_rfl); (conv => whnf); fail_if_success (show False))) <;> (conv => whnf))
    (refine RetK.p ?_ <;> repeat' (first | exact trivial | refine And.intro ?_ ?_ | with_reducible rfl | (refine pIEq ?_; (first | omega | (simp only [lenS] at *; omega) | grind)) | (refine bufMap ?_) | (refine bufNil ?_) | (refine bufEq ?_) | rfl); all_goals try first | refine pBEq ?_ | refine pIEq ?_)
  have ha2 := ha.sublist (List.drop_sublist i a)
  have hb2 := hb.sublist (List.drop_sublist k b)
  rw [List.drop_eq_getElem_cons hil] at ha2 hs
  rw [List.drop_eq_getElem_cons hkl] at hb2 hs
  obtain ⟨x, hx⟩ : ∃ x, a[i] = x := ⟨_, rfl⟩
  obtain ⟨y, hy⟩ : ∃ y, b[k] = y := ⟨_, rfl⟩
  have hx1 : a[((i : Nat) : Int).toNat]? = some x := by rw [Int.toNat_natCast, List.getElem?_eq_getElem hil, hx]
  have hy1 : b[((k : Nat) : Int).toNat]? = some y := by rw [Int.toNat_natCast, List.getElem?_eq_getElem hkl, hy]
  have hi0 := Int.natCast_nonneg i
  have hk0 := Int.natCast_nonneg k
  rw [hx, hy] at hs
  rw [hx] at ha2
  rw [hy] at hb2
  have ha3 := List.pairwise_cons.1 ha2
  have hb3 := List.pairwise_cons.1 hb2
  rcases Int.lt_trichotomy x y with h1 | h1 | h1
  · rw [share_lt (fun z hz => by
      rcases List.mem_cons.1 hz with rfl | hz
      · exact h1
      · exact Int.lt_trans h1 (hb3.1 z hz)), ← hy, ← List.drop_eq_getElem_cons hkl] at hs
    clear ha2 hb2 ha3 hb3
    (conv => whnf); repeat' ((first | (apply IdxA.at_ (f := pI) x hi0 hx1) | (apply IdxA.at_ (f := pI) y hk0 hy1) | apply CondA.plain | refine' go_pgC | (apply DrawA.quiet (by kernel_rfl) (by kernel_rfl); (conv => whnf); fail_if_success (show False))) <;> (conv => whnf))
    (refine' ⟨(i + 1, k), _, _, _⟩; rotate_right; (refine SubA.auto rfl rfl rfl rfl ?_ ?_ <;> repeat' (first | exact trivial | refine And.intro ?_ ?_ | with_reducible rfl | (refine pIEq ?_; (first | omega | (simp only [lenS] at *; omega) | grind)) | (refine bufMap ?_) | (refine bufNil ?_) | (refine bufEq ?_) | rfl)); rotate_right; (first | omega | (simp only []; omega) | (simp; omega) | (first | omega | (simp only [lenS] at *; omega) | grind)))
    exact ⟨by omega, hk, hs⟩
  · have e : shareF a b = true := by
      rw [hs, h1]
      unfold shareF
      rw [List.any_cons, List.contains_iff_mem.2 List.mem_cons_self]; rfl
    rw [e]
    clear ha2 hb2 ha3 hb3 hs
    (conv => whnf); repeat' ((first | (apply IdxA.at_ (f := pI) x hi0 hx1) | (apply IdxA.at_ (f := pI) y hk0 hy1) | apply CondA.plain | refine' go_pgC | (apply DrawA.quiet (by kernel_rfl) (by kernel_rfl); (conv => whnf); fail_if_success (show False))) <;> (conv => whnf))
    (refine RetK.p ?_ <;> repeat' (first | exact trivial | refine And.intro ?_ ?_ | with_reducible rfl | (refine pIEq ?_; (first | omega | (simp only [lenS] at *; omega) | grind)) | (refine bufMap ?_) | (refine bufNil ?_) | (refine bufEq ?_) | rfl); all_goals try first | refine pBEq ?_ | refine pIEq ?_)
  · rw [share_gt (fun z hz => by
      rcases List.mem_cons.1 hz with rfl | hz
      · exact h1
      · exact Int.lt_trans h1 (ha3.1 z hz)), ← hx, ← List.drop_eq_getElem_cons hil] at hs
    clear ha2 hb2 ha3 hb3
    (conv => whnf); repeat' ((first | (apply IdxA.at_ (f := pI) x hi0 hx1) | (apply IdxA.at_ (f := pI) y hk0 hy1) | apply CondA.plain | refine' go_pgC | (apply DrawA.quiet (by kernel_rfl) (by kernel_rfl); (conv => whnf); fail_if_success (show False))) <;> (conv => whnf))
    (refine' ⟨(i, k + 1), _, _, _⟩; rotate_right; (refine SubA.auto rfl rfl rfl rfl ?_ ?_ <;> repeat' (first | exact trivial | refine And.intro ?_ ?_ | with_reducible rfl | (refine pIEq ?_; (first | omega | (simp only [lenS] at *; omega) | grind)) | (refine bufMap ?_) | (refine bufNil ?_) | (refine bufEq ?_) | rfl)); rotate_right; (first | omega | (simp only []; omega) | (simp; omega) | (first | omega | (simp only [lenS] at *; omega) | grind)))
    exact ⟨hi, by omega, hs⟩
theorem roffers_call {p : Pin} (hP : VP p) (f : ByteArray) : Pure Try.prog 64 [.p p.pv, .p (pS f)] (R1 pI (offersF p f)) := by
  refine acall_enter Try.func64 rfl rfl tabOK rfl ?_
  have h24 := hP.len
  have e : offersF p f = offG p.gs f p.gs.length := by rw [offersF, if_pos (valid_mk hP)]
  rw [e]
  (conv => whnf); repeat' ((first | apply CondA.plain | refine' go_pgC | (apply DrawA.quiet (by kernel_rfl) (by kernel_rfl); (conv => whnf); fail_if_success (show False))) <;> (conv => whnf))
  refine loop_rule (fun (⟨c, nb, o⟩ : Nat × Bool × List Int) => ⟨[(1, .p (pS f)), (2, .ptr 0 0), (5, .buf 1), (9, .p (pI p.gs.length)), (10, .p (pI c))], [some (.cells [.p (pI p.n), .p (.list p.nl (p.gs.map Grp.pv))]), some (AO.buf 3 nb (o.map pI))]⟩) (fun (⟨c, nb, o⟩ : Nat × Bool × List Int) => c ≤ p.gs.length ∧ o = offG p.gs f c) (fun (⟨c, nb, o⟩ : Nat × Bool × List Int) => p.gs.length - c) (0, true, []) ?_ ?_ ?_; (refine SubA.auto1 (3, 5) rfl rfl rfl rfl rfl ?_ ?_ <;> repeat' (first | exact trivial | refine And.intro ?_ ?_ | with_reducible rfl | (refine pIEq ?_; (first | omega | (simp only [lenS] at *; omega) | grind)) | (refine bufMap ?_) | (refine bufNil ?_) | (refine bufEq ?_) | rfl))
  · exact ⟨Nat.zero_le _, rfl⟩
  rintro ⟨c, nb, o⟩ ⟨hc, ho⟩
  have hol : o.length ≤ c := by rw [ho]; exact offG_len _ _ _
  rcases Nat.lt_or_ge c p.gs.length with hlt | hge
  · have hs := offG_succ p.gs f c
    rw [gs_getD hlt, ← ho] at hs
    obtain ⟨g, hg⟩ : ∃ g, p.gs[c] = g := ⟨_, rfl⟩
    have hg1 : p.gs[((c : Nat) : Int).toNat]? = some g := by rw [Int.toNat_natCast, List.getElem?_eq_getElem hlt, hg]
    have hc0 : (0 : Int) ≤ (c : Nat) := Int.natCast_nonneg c
    rw [hg] at hs
    (conv => whnf); repeat' ((first | (apply IdxA.at_ (f := Grp.pv) g hc0 hg1) | apply CondA.plain | refine' go_pgC | (apply DrawA.quiet (by kernel_rfl) (by kernel_rfl); (conv => whnf); fail_if_success (show False))) <;> (conv => whnf))
    refine CallA.loc [] [] rfl rfl ((At_call g f).mono ?_)
    rintro _ _ ⟨rfl, rfl⟩
    have hv2 := idxS_ge (xs := g.funs) (x := f)
    obtain ⟨v, hvv⟩ : ∃ v, idxS g.funs f = v := ⟨_, rfl⟩
    rw [hvv] at hv2
    rw [hvv]
    rcases Decidable.em (f ∈ g.funs) with hx | hx
    · rw [if_pos hx] at hs
      have := hv2.2 hx
      (conv => whnf); repeat' ((first | apply CondA.plain | refine' go_pgC | (apply DrawA.quiet (by kernel_rfl) (by kernel_rfl); (conv => whnf); fail_if_success (show False))) <;> (conv => whnf))
      (refine' ⟨(c + 1, false, o ++ [(c : Int)]), _, _, _⟩; rotate_right; (refine SubA.auto rfl rfl rfl rfl ?_ ?_ <;> repeat' (first | exact trivial | refine And.intro ?_ ?_ | with_reducible rfl | (refine pIEq ?_; (first | omega | (simp only [lenS] at *; omega) | grind)) | (refine bufMap ?_) | (refine bufNil ?_) | (refine bufEq ?_) | rfl)); rotate_right; (first | omega | (simp only []; omega) | (simp; omega) | (first | omega | (simp only [lenS] at *; omega) | grind)))
      exact ⟨by omega, hs.symm⟩
    · rw [if_neg hx, List.append_nil] at hs
      have : v < 0 := Int.not_le.1 fun h => hx (hv2.1 h)
      (conv => whnf); repeat' ((first | apply CondA.plain | refine' go_pgC | (apply DrawA.quiet (by kernel_rfl) (by kernel_rfl); (conv => whnf); fail_if_success (show False))) <;> (conv => whnf))
      (refine' ⟨(c + 1, nb, o), _, _, _⟩; rotate_right; (refine SubA.auto rfl rfl rfl rfl ?_ ?_ <;> repeat' (first | exact trivial | refine And.intro ?_ ?_ | with_reducible rfl | (refine pIEq ?_; (first | omega | (simp only [lenS] at *; omega) | grind)) | (refine bufMap ?_) | (refine bufNil ?_) | (refine bufEq ?_) | rfl)); rotate_right; (first | omega | (simp only []; omega) | (simp; omega) | (first | omega | (simp only [lenS] at *; omega) | grind)))
      exact ⟨by omega, hs.symm⟩
  · obtain rfl : c = p.gs.length := by omega
    rw [← ho]
    (conv => whnf); repeat' ((first | apply CondA.plain | refine' go_pgC | (apply DrawA.quiet (by kernel_rfl) (by kernel_rfl); (conv => whnf); fail_if_success (show False))) <;> (conv => whnf))
    (first | (apply RetK.r1; exact rfl; exact (fun _ => flat_ofB rfl)) | apply RetK.r1n | (apply RetK.r2; exact rfl; exact (fun _ => flat_ofB rfl)) | apply RetK.r2n | (apply RetK.r3; exact rfl; exact (fun _ => flat_ofB rfl)) | apply RetK.r3n) <;> rfl
end Go.Proofs.Ytnogpkaehiapfaa
