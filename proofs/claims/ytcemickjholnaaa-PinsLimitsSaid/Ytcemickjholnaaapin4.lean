/- Pinouts: what is wrong with one. -/
import Derived.Test.Ytcemickjholnaaapin3
namespace Go.Proofs.Ytcemickjholnaaa
set_option linter.unusedSimpArgs false
set_option linter.unusedVariables false
set_option linter.unnecessarySimpa false
open Go.Abs
set_option maxRecDepth 100000
/-- The first error. -/
def firstE (f : Nat → Int) : List Nat → Int
  | [] => 0
  | i :: r => if f i ≠ 0 then f i else firstE f r
theorem firstE_app {f : Nat → Int} : ∀ {l r : List Nat}, (∀ i ∈ l, f i = 0) → firstE f (l ++ r) = firstE f r
  | [], _, _ => rfl
  | i :: l, r, h => by
    show (if f i ≠ 0 then f i else firstE f (l ++ r)) = _
    rw [if_neg (by rw [h i (List.mem_cons_self ..)]; simp), firstE_app fun j hj => h j (List.mem_cons_of_mem _ hj)]
theorem firstE_zero {f : Nat → Int} {n : Nat} (h : ∀ i, i < n → f i = 0) : firstE f (List.range n) = 0 := by
  have := firstE_app (f := f) (l := List.range n) (r := []) fun i hi => h i (List.mem_range.1 hi)
  rw [List.append_nil] at this
  exact this
theorem firstE_at {f : Nat → Int} {n c : Nat} (hc : c < n) (h : ∀ i, i < c → f i = 0) (h0 : f c ≠ 0) : firstE f (List.range n) = f c := by
  rw [← List.take_append_drop c (List.range n), firstE_app fun i hi => h i ?_, List.drop_eq_getElem_cons (by simpa using hc)]
  · rw [List.getElem_range]
    show (if f c ≠ 0 then f c else _) = _
    rw [if_pos h0]
  · obtain ⟨k, hk, e⟩ := List.getElem_of_mem hi
    rw [List.length_take] at hk
    rw [List.getElem_take, List.getElem_range] at e
    omega
def validP (p : Pin) : Int := if p.n < 0 ∨ 64 < p.n then 2 else if 24 < p.gs.length then 3 else firstE (gE p.n p.gs) (List.range p.gs.length)
theorem validP_at {p : Pin} {c : Nat} (h1 : ¬ (p.n < 0 ∨ 64 < p.n)) (h2 : ¬ 24 < p.gs.length) (hc : c < p.gs.length) (h : ∀ i, i < c → gE p.n p.gs i = 0) (h0 : gE p.n p.gs c ≠ 0) : validP p = gE p.n p.gs c := by
  rw [validP, if_neg h1, if_neg h2, firstE_at hc h h0]
theorem validP_ok {p : Pin} (h1 : ¬ (p.n < 0 ∨ 64 < p.n)) (h2 : ¬ 24 < p.gs.length) (h : ∀ i, i < p.gs.length → gE p.n p.gs i = 0) : validP p = 0 := by
  rw [validP, if_neg h1, if_neg h2, firstE_zero h]
/-- Kept for later: a goal of a walk's step. -/
theorem park_pin4 {P : Prop} (x : P) (_ : x = x) : P := x
/-- One step of a walk. -/
theorem go_pin4 {P : Prop} (h : P := by
  (first | ((first | apply LenA.map | apply NilA.map | apply NilA.mk); intro _) | ((first | apply NW.as | apply ValA.as); with_reducible assumption) | ((first | apply NW.i64 | apply NW.u32 | apply NW.u64 | apply NW.u8 | apply InA.nat | apply InA.map | apply AppA.snoc (f := pI) (a := _) rfl | apply AppA.one (f := pI) (a := _) rfl | apply AppA.snoc (f := pB) (a := _) rfl | apply AppA.one (f := pB) (a := _) rfl | apply AppA.snoc (f := pS) (a := _) rfl | apply AppA.one (f := pS) (a := _) rfl | apply AppA.map | apply AppA.nil | apply CutA.lo | apply CutA.hi); (first | omega | (simp only [lenS] at *; omega) | grind)) | ((first | (apply RemA.as; assumption) | apply RemA.self); (first | omega | (simp only [lenS] at *; omega) | grind)) | (apply ValA.as; assumption) | apply ValA.self | (apply NW.as; assumption) | (apply SzA.map; (intro _; rfl)) | with_reducible apply br_pt | with_reducible apply br_pf | with_reducible apply br_mt | with_reducible apply br_mf | apply Both.mk | ((first | apply br_T | apply br_F | apply br_mT | apply br_mF); assumption) | ((first | apply br_lss | apply br_leq | apply br_gtr | apply br_geq | apply br_dec | apply br_beq | apply br_bne | apply br_beqB | apply br_bneB | apply br_not | apply br_m | apply br_intro) <;> intro h0 <;> first | (exfalso; first | omega | exact tf h0 (by assumption) | exact tf (by assumption) h0 | exact h0 (by assumption) | exact h0 rfl | exact of_decide_eq_false h0 rfl) | skip) | refine ArrA.mk _ rfl rfl ?_ | (apply IdxA.lit; omega; exact rfl) | ((first | apply IdxA.of_nat | (apply IdxA.of_map; (first | omega | (simp only [lenS] at *; omega) | grind))); rotate_left; (first | omega | (simp only [lenS] at *; omega) | grind)) | apply AppC.own | apply CutO.part | apply IsL.set (f := pI) (a := _) rfl | apply IsL.rep (f := pI) (a := _) rfl | apply IsL.set (f := pB) (a := _) rfl | apply IsL.rep (f := pB) (a := _) rfl | apply IsL.set (f := pS) (a := _) rfl | apply IsL.rep (f := pS) (a := _) rfl | apply IsL.lit (f := pI) [] rfl | apply IsL.lit (f := pB) [] rfl | apply IsL.lit (f := pS) [] rfl | (apply And.intro; (first | with_reducible rfl | (show (_ : AV) = _; rfl) | (first | omega | (simp only [lenS] at *; omega) | grind)))) <;> (solve_by_elim (newGoals := .nonDependentOnly) (symm := false) (exfalso := false) (transparency := .reducible) only [rfl, park_pin4])) : P := h
theorem rValid_call (p : Pin) : ACall Try.prog 20 [.p p.pv] [] fun r H => r = .p (pI (validP p)) ∧ H = [] := by
  refine acall_enter Try.func20 rfl rfl tabOK rfl ?_
  rcases Decidable.em (p.n < 0 ∨ 64 < p.n) with h1 | h1
  · have e : validP p = 2 := by rw [validP, if_pos h1]
    (conv => whnf); repeat' ((first | apply CondA.plain | refine' go_pin4 | (apply DrawA.quiet (by kernel_rfl) (by kernel_rfl); (conv => whnf); fail_if_success (show False))) <;> (conv => whnf))
    all_goals
      (refine RetK.p ?_ <;> repeat' (first | exact trivial | refine And.intro ?_ ?_ | with_reducible rfl | (refine pIEq ?_; (first | omega | (simp only [lenS] at *; omega) | grind)) | (refine bufMap ?_) | (refine bufNil ?_) | (refine bufEq ?_) | rfl); all_goals try first | refine pBEq ?_ | refine pIEq ?_)
      exact e.symm
  rcases Decidable.em (24 < p.gs.length) with h2 | h2
  · have e : validP p = 3 := by rw [validP, if_neg h1, if_pos h2]
    (conv => whnf); repeat' ((first | apply CondA.plain | refine' go_pin4 | (apply DrawA.quiet (by kernel_rfl) (by kernel_rfl); (conv => whnf); fail_if_success (show False))) <;> (conv => whnf))
    (refine RetK.p ?_ <;> repeat' (first | exact trivial | refine And.intro ?_ ?_ | with_reducible rfl | (refine pIEq ?_; (first | omega | (simp only [lenS] at *; omega) | grind)) | (refine bufMap ?_) | (refine bufNil ?_) | (refine bufEq ?_) | rfl); all_goals try first | refine pBEq ?_ | refine pIEq ?_)
    exact e.symm
  (conv => whnf); repeat' ((first | apply CondA.plain | refine' go_pin4 | (apply DrawA.quiet (by kernel_rfl) (by kernel_rfl); (conv => whnf); fail_if_success (show False))) <;> (conv => whnf))
  refine loop_rule (fun (c : Nat) => ⟨[(1, .ptr 0 0), (3, .p (pI c))], [some (.cells [.p (pI p.n), .p (.list p.nl (p.gs.map Grp.pv))])]⟩) (fun (c : Nat) => c ≤ p.gs.length ∧ ∀ i, i < c → gE p.n p.gs i = 0) (fun (c : Nat) => p.gs.length - c) 0 ?_ ?_ ?_; (refine SubA.auto rfl rfl rfl rfl ?_ ?_ <;> repeat' (first | exact trivial | refine And.intro ?_ ?_ | with_reducible rfl | (refine pIEq ?_; (first | omega | (simp only [lenS] at *; omega) | grind)) | (refine bufMap ?_) | (refine bufNil ?_) | (refine bufEq ?_) | rfl))
  · exact ⟨Nat.zero_le _, fun i hi => by omega⟩
  rintro c ⟨hc, hall⟩
  rcases Nat.lt_or_ge c p.gs.length with hlt | hge
  · rcases Decidable.em (gE p.n p.gs c = 0) with he | he
    · (conv => whnf); repeat' ((first | apply CondA.plain | refine' go_pin4 | (apply DrawA.quiet (by kernel_rfl) (by kernel_rfl); (conv => whnf); fail_if_success (show False)) | ((refine CallA.scalar (rgroup_call p (by omega) c hlt) ?_; rw [he]))) <;> (conv => whnf))
      (refine' ⟨c + 1, _, _, _⟩; rotate_right; (refine SubA.auto rfl rfl rfl rfl ?_ ?_ <;> repeat' (first | exact trivial | refine And.intro ?_ ?_ | with_reducible rfl | (refine pIEq ?_; (first | omega | (simp only [lenS] at *; omega) | grind)) | (refine bufMap ?_) | (refine bufNil ?_) | (refine bufEq ?_) | rfl)); rotate_right; (first | omega | (simp only []; omega) | (simp; omega) | (first | omega | (simp only [lenS] at *; omega) | grind)))
      refine ⟨by omega, fun i hi => ?_⟩
      rcases Nat.lt_or_ge i c with h | h
      · exact hall i h
      · obtain rfl : i = c := by omega
        exact he
    · have e := validP_at h1 h2 hlt hall he
      rw [← e] at he
      (conv => whnf); repeat' ((first | apply CondA.plain | refine' go_pin4 | (apply DrawA.quiet (by kernel_rfl) (by kernel_rfl); (conv => whnf); fail_if_success (show False)) | ((refine CallA.scalar (rgroup_call p (by omega) c hlt) ?_; rw [← e]))) <;> (conv => whnf))
      (refine RetK.p ?_ <;> repeat' (first | exact trivial | refine And.intro ?_ ?_ | with_reducible rfl | (refine pIEq ?_; (first | omega | (simp only [lenS] at *; omega) | grind)) | (refine bufMap ?_) | (refine bufNil ?_) | (refine bufEq ?_) | rfl); all_goals try first | refine pBEq ?_ | refine pIEq ?_)
  · have e := validP_ok h1 h2 fun i hi => hall i (by omega)
    (conv => whnf); repeat' ((first | apply CondA.plain | refine' go_pin4 | (apply DrawA.quiet (by kernel_rfl) (by kernel_rfl); (conv => whnf); fail_if_success (show False))) <;> (conv => whnf))
    (refine RetK.p ?_ <;> repeat' (first | exact trivial | refine And.intro ?_ ?_ | with_reducible rfl | (refine pIEq ?_; (first | omega | (simp only [lenS] at *; omega) | grind)) | (refine bufMap ?_) | (refine bufNil ?_) | (refine bufEq ?_) | rfl); all_goals try first | refine pBEq ?_ | refine pIEq ?_)
    exact e.symm
theorem any_names {p : Pin} {c : Nat} (hc : c ≤ p.gs.length) (s : ByteArray) : (((p.gs.take c).map (·.name)).any fun b => s == b) = decide (∃ k, k < c ∧ (p.gs.getD k default).name = s) := by
  rw [Bool.eq_iff_iff, List.any_eq_true, decide_eq_true_iff]
  constructor
  · rintro ⟨b, hb, hs⟩
    obtain ⟨g, hg, rfl⟩ := List.mem_map.1 hb
    obtain ⟨k, hk, rfl⟩ := List.getElem_of_mem hg
    rw [List.length_take] at hk
    refine ⟨k, by omega, ?_⟩
    rw [List.getD_eq_getElem?_getD, List.getElem?_eq_getElem (by omega)]
    rw [List.getElem_take] at hs
    exact ((MapKept.bytes_beq _ _).1 hs).symm
  · rintro ⟨k, hk, h⟩
    rw [List.getD_eq_getElem?_getD, List.getElem?_eq_getElem (by omega)] at h
    refine ⟨_, List.mem_map.2 ⟨p.gs[k]'(by omega), List.mem_take_iff_getElem.2 ⟨k, by omega, rfl⟩, rfl⟩, (MapKept.bytes_beq _ _).2 h.symm⟩
set_option maxHeartbeats 4000000 in
theorem pValid_call (p : Pin) : ACall Try.prog 17 [.p p.pv] [] fun r H => r = .p (pI (validP p)) ∧ H = [] := by
  refine acall_enter Try.func17 rfl rfl tabOK rfl ?_
  rcases Decidable.em (p.n < 0 ∨ 64 < p.n) with h1 | h1
  · have e : validP p = 2 := by rw [validP, if_pos h1]
    (conv => whnf); repeat' ((first | apply CondA.plain | refine' go_pin4 | (apply DrawA.quiet (by kernel_rfl) (by kernel_rfl); (conv => whnf); fail_if_success (show False))) <;> (conv => whnf))
    all_goals
      (refine RetK.p ?_ <;> repeat' (first | exact trivial | refine And.intro ?_ ?_ | with_reducible rfl | (refine pIEq ?_; (first | omega | (simp only [lenS] at *; omega) | grind)) | (refine bufMap ?_) | (refine bufNil ?_) | (refine bufEq ?_) | rfl); all_goals try first | refine pBEq ?_ | refine pIEq ?_)
      exact e.symm
  rcases Decidable.em (24 < p.gs.length) with h2 | h2
  · have e : validP p = 3 := by rw [validP, if_neg h1, if_pos h2]
    (conv => whnf); repeat' ((first | apply CondA.plain | refine' go_pin4 | (apply DrawA.quiet (by kernel_rfl) (by kernel_rfl); (conv => whnf); fail_if_success (show False))) <;> (conv => whnf))
    (refine RetK.p ?_ <;> repeat' (first | exact trivial | refine And.intro ?_ ?_ | with_reducible rfl | (refine pIEq ?_; (first | omega | (simp only [lenS] at *; omega) | grind)) | (refine bufMap ?_) | (refine bufNil ?_) | (refine bufEq ?_) | rfl); all_goals try first | refine pBEq ?_ | refine pIEq ?_)
    exact e.symm
  (conv => whnf); repeat' ((first | apply CondA.plain | refine' go_pin4 | (apply DrawA.quiet (by kernel_rfl) (by kernel_rfl); (conv => whnf); fail_if_success (show False))) <;> (conv => whnf))
  refine loop_rule (fun (⟨c, ks⟩ : Nat × List ByteArray) => ⟨[(1, .ptr 0 0), (3, .mp 1), (21, .p (.list p.nl (p.gs.map Grp.pv))), (22, .p (pI p.gs.length)), (23, .p (pI c))], [some (.cells [.p (pI p.n), .p (.list p.nl (p.gs.map Grp.pv))]), some (.map ks)]⟩) (fun (⟨c, ks⟩ : Nat × List ByteArray) => c ≤ p.gs.length ∧ ks = (p.gs.take c).map (·.name) ∧ ∀ i, i < c → gE p.n p.gs i = 0) (fun (⟨c, ks⟩ : Nat × List ByteArray) => p.gs.length - c) (0, []) ?_ ?_ ?_; (refine SubA.auto rfl rfl rfl rfl ?_ ?_ <;> repeat' (first | exact trivial | refine And.intro ?_ ?_ | with_reducible rfl | (refine pIEq ?_; (first | omega | (simp only [lenS] at *; omega) | grind)) | (refine bufMap ?_) | (refine bufNil ?_) | (refine bufEq ?_) | rfl))
  · exact ⟨Nat.zero_le _, rfl, fun i hi => by omega⟩
  rintro ⟨c, ks⟩ ⟨hc, hks, hall⟩
  rcases Nat.lt_or_ge c p.gs.length with hlt | hge
  · obtain ⟨g, hg⟩ : ∃ g, p.gs[c]? = some g := ⟨_, List.getElem?_eq_getElem hlt⟩
    have hgd : p.gs.getD c default = g := by rw [List.getD_eq_getElem?_getD, hg]; rfl
    have hg1 : p.gs[((c : Nat) : Int).toNat]? = some g := hg
    have hc0 : (0 : Int) ≤ (c : Nat) := Int.natCast_nonneg c
    have hany := any_names hc g.name
    rw [← hks] at hany
    have hnx : ks ++ [g.name] = (p.gs.take (c + 1)).map (·.name) := by
      rw [List.take_succ_eq_append_getElem hlt, List.map_append, ← hks]
      have : p.gs[c] = g := by
        have := List.getElem?_eq_getElem hlt
        rw [hg] at this; injection this with this; exact this.symm
      rw [this]; rfl
    rcases Bool.eq_false_or_eq_true (wordF g.name) with hw | hw
    rotate_left
    · have e0 : gE p.n p.gs c = 1 := by unfold gE; rw [hgd, if_pos hw]
      have e := validP_at h1 h2 hlt hall (by rw [e0]; decide)
      rw [e0] at e
      (conv => whnf); repeat' ((first | (apply IdxA.at_ (f := Grp.pv) g hc0 hg1) | apply CondA.plain | refine' go_pin4 | (apply DrawA.quiet (by kernel_rfl) (by kernel_rfl); (conv => whnf); fail_if_success (show False)) | ((refine CallA.scalar (Word_call g.name) ?_; rw [hw]))) <;> (conv => whnf))
      (refine RetK.p ?_ <;> repeat' (first | exact trivial | refine And.intro ?_ ?_ | with_reducible rfl | (refine pIEq ?_; (first | omega | (simp only [lenS] at *; omega) | grind)) | (refine bufMap ?_) | (refine bufNil ?_) | (refine bufEq ?_) | rfl); all_goals try first | refine pBEq ?_ | refine pIEq ?_)
      exact e.symm
    rcases Decidable.em (∃ k, k < c ∧ (p.gs.getD k default).name = g.name) with hd | hd
    · rw [decide_eq_true hd] at hany
      have e0 : gE p.n p.gs c = 5 := by unfold gE; rw [hgd, if_neg (by rw [hw]; simp), if_pos hd]
      have e := validP_at h1 h2 hlt hall (by rw [e0]; decide)
      rw [e0] at e
      (conv => whnf); repeat' ((first | (apply IdxA.at_ (f := Grp.pv) g hc0 hg1) | apply CondA.plain | refine' go_pin4 | (apply DrawA.quiet (by kernel_rfl) (by kernel_rfl); (conv => whnf); fail_if_success (show False)) | ((refine CallA.scalar (Word_call g.name) ?_; rw [hw]))) <;> (conv => whnf))
      (refine RetK.p ?_ <;> repeat' (first | exact trivial | refine And.intro ?_ ?_ | with_reducible rfl | (refine pIEq ?_; (first | omega | (simp only [lenS] at *; omega) | grind)) | (refine bufMap ?_) | (refine bufNil ?_) | (refine bufEq ?_) | rfl); all_goals try first | refine pBEq ?_ | refine pIEq ?_)
      exact e.symm
    rw [decide_eq_false hd] at hany
    have e0 : gE p.n p.gs c = groupE p.n g := by unfold gE; rw [hgd, if_neg (by rw [hw]; simp), if_neg hd]
    rcases Decidable.em (groupE p.n g = 0) with he | he
    · (conv => whnf); repeat' ((first | (apply IdxA.at_ (f := Grp.pv) g hc0 hg1) | (refine NewKey.mk hany ?_) | apply CondA.plain | refine' go_pin4 | (apply DrawA.quiet (by kernel_rfl) (by kernel_rfl); (conv => whnf); fail_if_success (show False)) | ((refine CallA.scalar (Word_call g.name) ?_; rw [hw])) | ((refine CallA.scalar (group_call p.n g) ?_; rw [he]))) <;> (conv => whnf))
      (refine' ⟨(c + 1, ks ++ [g.name]), _, _, _⟩; rotate_right; (refine SubA.auto rfl rfl rfl rfl ?_ ?_ <;> repeat' (first | exact trivial | refine And.intro ?_ ?_ | with_reducible rfl | (refine pIEq ?_; (first | omega | (simp only [lenS] at *; omega) | grind)) | (refine bufMap ?_) | (refine bufNil ?_) | (refine bufEq ?_) | rfl)); rotate_right; (first | omega | (simp only []; omega) | (simp; omega) | (first | omega | (simp only [lenS] at *; omega) | grind)))
      refine ⟨by omega, hnx, fun i hi => ?_⟩
      rcases Nat.lt_or_ge i c with h | h
      · exact hall i h
      · obtain rfl : i = c := by omega
        exact e0.trans he
    · have e := validP_at h1 h2 hlt hall (by rw [e0]; exact he)
      rw [e0] at e
      rw [← e] at he
      (conv => whnf); repeat' ((first | (apply IdxA.at_ (f := Grp.pv) g hc0 hg1) | (refine NewKey.mk hany ?_) | apply CondA.plain | refine' go_pin4 | (apply DrawA.quiet (by kernel_rfl) (by kernel_rfl); (conv => whnf); fail_if_success (show False)) | ((refine CallA.scalar (Word_call g.name) ?_; rw [hw])) | ((refine CallA.scalar (group_call p.n g) ?_; rw [← e]))) <;> (conv => whnf))
      (refine RetK.p ?_ <;> repeat' (first | exact trivial | refine And.intro ?_ ?_ | with_reducible rfl | (refine pIEq ?_; (first | omega | (simp only [lenS] at *; omega) | grind)) | (refine bufMap ?_) | (refine bufNil ?_) | (refine bufEq ?_) | rfl); all_goals try first | refine pBEq ?_ | refine pIEq ?_)
  · have e := validP_ok h1 h2 fun i hi => hall i (by omega)
    (conv => whnf); repeat' ((first | apply CondA.plain | refine' go_pin4 | (apply DrawA.quiet (by kernel_rfl) (by kernel_rfl); (conv => whnf); fail_if_success (show False))) <;> (conv => whnf))
    (refine RetK.p ?_ <;> repeat' (first | exact trivial | refine And.intro ?_ ?_ | with_reducible rfl | (refine pIEq ?_; (first | omega | (simp only [lenS] at *; omega) | grind)) | (refine bufMap ?_) | (refine bufNil ?_) | (refine bufEq ?_) | rfl); all_goals try first | refine pBEq ?_ | refine pIEq ?_)
    exact e.symm
end Go.Proofs.Ytcemickjholnaaa
