/- Groups of pins: the reference's look at one. -/
import Derived.Test.Ytcemickjholnaaapin2
namespace Go.Proofs.Ytcemickjholnaaa
set_option linter.unusedSimpArgs false
set_option linter.unusedVariables false
set_option linter.unnecessarySimpa false
open Go.Abs
set_option maxRecDepth 100000
/-- Kept for later: a goal of a walk's step. -/
theorem park_pin3 {P : Prop} (x : P) (_ : x = x) : P := x
/-- One step of a walk. -/
theorem go_pin3 {P : Prop} (h : P := by
  (first | ((first | apply LenA.map | apply NilA.map | apply NilA.mk); intro _) | ((first | apply NW.as | apply ValA.as); with_reducible assumption) | ((first | apply NW.i64 | apply NW.u32 | apply NW.u64 | apply NW.u8 | apply InA.nat | apply InA.map | apply AppA.snoc (f := pI) (a := _) rfl | apply AppA.one (f := pI) (a := _) rfl | apply AppA.snoc (f := pB) (a := _) rfl | apply AppA.one (f := pB) (a := _) rfl | apply AppA.snoc (f := pS) (a := _) rfl | apply AppA.one (f := pS) (a := _) rfl | apply AppA.map | apply AppA.nil | apply CutA.lo | apply CutA.hi); (first | omega | (simp only [lenS] at *; omega) | grind)) | ((first | (apply RemA.as; assumption) | apply RemA.self); (first | omega | (simp only [lenS] at *; omega) | grind)) | (apply ValA.as; assumption) | apply ValA.self | (apply NW.as; assumption) | (apply SzA.map; (intro _; rfl)) | with_reducible apply br_pt | with_reducible apply br_pf | with_reducible apply br_mt | with_reducible apply br_mf | apply Both.mk | ((first | apply br_T | apply br_F | apply br_mT | apply br_mF); assumption) | ((first | apply br_lss | apply br_leq | apply br_gtr | apply br_geq | apply br_dec | apply br_beq | apply br_bne | apply br_beqB | apply br_bneB | apply br_not | apply br_m | apply br_intro) <;> intro h0 <;> first | (exfalso; first | omega | exact tf h0 (by assumption) | exact tf (by assumption) h0 | exact h0 (by assumption) | exact h0 rfl | exact of_decide_eq_false h0 rfl) | skip) | refine ArrA.mk _ rfl rfl ?_ | (apply IdxA.lit; omega; exact rfl) | ((first | apply IdxA.of_nat | (apply IdxA.of_map; (first | omega | (simp only [lenS] at *; omega) | grind))); rotate_left; (first | omega | (simp only [lenS] at *; omega) | grind)) | apply AppC.own | apply CutO.part | apply IsL.set (f := pI) (a := _) rfl | apply IsL.rep (f := pI) (a := _) rfl | apply IsL.set (f := pB) (a := _) rfl | apply IsL.rep (f := pB) (a := _) rfl | apply IsL.set (f := pS) (a := _) rfl | apply IsL.rep (f := pS) (a := _) rfl | apply IsL.lit (f := pI) [] rfl | apply IsL.lit (f := pB) [] rfl | apply IsL.lit (f := pS) [] rfl | (apply And.intro; (first | with_reducible rfl | (show (_ : AV) = _; rfl) | (first | omega | (simp only [lenS] at *; omega) | grind)))) <;> (solve_by_elim (newGoals := .nonDependentOnly) (symm := false) (exfalso := false) (transparency := .reducible) only [rfl, park_pin3])) : P := h
set_option maxHeartbeats 8000000 in
theorem rgroup_call (p : Pin) (h24 : p.gs.length ≤ 24) (i : Nat) (hi : i < p.gs.length) : ACall Try.prog 41 [.p p.pv, .p (pI i)] [] fun r H => r = .p (pI (gE p.n p.gs i)) ∧ H = [] := by
  refine acall_enter Try.func41 rfl rfl tabOK rfl ?_
  obtain ⟨g, hg⟩ : ∃ g, p.gs[i]? = some g := ⟨_, List.getElem?_eq_getElem hi⟩
  have hgd : p.gs.getD i default = g := by rw [List.getD_eq_getElem?_getD, hg]; rfl
  have hg1 : p.gs[((i : Nat) : Int).toNat]? = some g := hg
  have hi0 : (0 : Int) ≤ (i : Nat) := Int.natCast_nonneg i
  rcases Bool.eq_false_or_eq_true (wordF g.name) with hw | hw
  rotate_left
  · have e : gE p.n p.gs i = 1 := by unfold gE; rw [hgd, if_pos hw]
    (conv => whnf); repeat' ((first | (apply IdxA.at_ (f := Grp.pv) g hi0 hg1) | apply CondA.plain | refine' go_pin3 | (apply DrawA.quiet (by kernel_rfl) (by kernel_rfl); (conv => whnf); fail_if_success (show False)) | ((refine CallA.scalar (rWord_call g.name) ?_; rw [hw]))) <;> (conv => whnf))
    (refine RetK.p ?_ <;> repeat' (first | exact trivial | refine And.intro ?_ ?_ | with_reducible rfl | (refine pIEq ?_; (first | omega | (simp only [lenS] at *; omega) | grind)) | (refine bufMap ?_) | (refine bufNil ?_) | (refine bufEq ?_) | rfl); all_goals try first | refine pBEq ?_ | refine pIEq ?_)
    exact e.symm
  (conv => whnf); repeat' ((first | (apply IdxA.at_ (f := Grp.pv) g hi0 hg1) | apply CondA.plain | refine' go_pin3 | (apply DrawA.quiet (by kernel_rfl) (by kernel_rfl); (conv => whnf); fail_if_success (show False)) | ((refine CallA.scalar (rWord_call g.name) ?_; rw [hw]))) <;> (conv => whnf))
  refine loop_rule (fun (c : Nat) => ⟨[(1, .p (pI i)), (2, .ptr 0 0), (5, .ptr 1 0), (6, .p (pI c))], [some (.cells [.p (pI p.n), .p (.list p.nl (p.gs.map Grp.pv))]), some (.cells [.p (pS g.name), .p (.list g.pn (g.pins.map pI)), .p (.list g.fn (g.funs.map pS))])]⟩) (fun (c : Nat) => c ≤ i ∧ ∀ k, k < c → (p.gs.getD k default).name ≠ g.name) (fun (c : Nat) => i - c) 0 ?_ ?_ ?_; (refine SubA.auto rfl rfl rfl rfl ?_ ?_ <;> repeat' (first | exact trivial | refine And.intro ?_ ?_ | with_reducible rfl | (refine pIEq ?_; (first | omega | (simp only [lenS] at *; omega) | grind)) | (refine bufMap ?_) | (refine bufNil ?_) | (refine bufEq ?_) | rfl))
  · exact ⟨Nat.zero_le _, fun k hk => by omega⟩
  rintro c ⟨hc, hall⟩
  rcases Nat.lt_or_ge c i with hlt | hge
  · obtain ⟨y, hy⟩ : ∃ y, p.gs[c]? = some y := ⟨_, List.getElem?_eq_getElem (by omega)⟩
    have hyd : p.gs.getD c default = y := by rw [List.getD_eq_getElem?_getD, hy]; rfl
    have hy1 : p.gs[((c : Nat) : Int).toNat]? = some y := hy
    have hc0 : (0 : Int) ≤ (c : Nat) := Int.natCast_nonneg c
    have hq := seq_eq y.name g.name
    rcases Decidable.em (y.name = g.name) with he | he
    · rw [decide_eq_true he] at hq
      have e : gE p.n p.gs i = 5 := by
        unfold gE
        rw [hgd, if_neg (by rw [hw]; simp), if_pos ⟨c, hlt, by rw [hyd]; exact he⟩]
      (conv => whnf); repeat' ((first | (apply IdxA.at_ (f := Grp.pv) y hc0 hy1) | apply CondA.plain | refine' go_pin3 | (apply DrawA.quiet (by kernel_rfl) (by kernel_rfl); (conv => whnf); fail_if_success (show False))) <;> (conv => whnf))
      (refine RetK.p ?_ <;> repeat' (first | exact trivial | refine And.intro ?_ ?_ | with_reducible rfl | (refine pIEq ?_; (first | omega | (simp only [lenS] at *; omega) | grind)) | (refine bufMap ?_) | (refine bufNil ?_) | (refine bufEq ?_) | rfl); all_goals try first | refine pBEq ?_ | refine pIEq ?_)
      exact e.symm
    · rw [decide_eq_false he] at hq
      (conv => whnf); repeat' ((first | (apply IdxA.at_ (f := Grp.pv) y hc0 hy1) | apply CondA.plain | refine' go_pin3 | (apply DrawA.quiet (by kernel_rfl) (by kernel_rfl); (conv => whnf); fail_if_success (show False))) <;> (conv => whnf))
      (refine' ⟨c + 1, _, _, _⟩; rotate_right; (refine SubA.auto rfl rfl rfl rfl ?_ ?_ <;> repeat' (first | exact trivial | refine And.intro ?_ ?_ | with_reducible rfl | (refine pIEq ?_; (first | omega | (simp only [lenS] at *; omega) | grind)) | (refine bufMap ?_) | (refine bufNil ?_) | (refine bufEq ?_) | rfl)); rotate_right; (first | omega | (simp only []; omega) | (simp; omega) | (first | omega | (simp only [lenS] at *; omega) | grind)))
      refine ⟨by omega, fun k hk => ?_⟩
      rcases Nat.lt_or_ge k c with h | h
      · exact hall k h
      · obtain rfl : k = c := by omega
        rw [hyd]; exact he
  have hgE : gE p.n p.gs i = groupE p.n g := by
    unfold gE
    rw [hgd, if_neg (by rw [hw]; simp), if_neg]
    rintro ⟨k, hk, h⟩
    exact hall k (by omega) h
  clear hall
  rcases Decidable.em (g.pins = [] ∨ g.funs = []) with h9 | h9
  · have e : groupE p.n g = 9 := by unfold groupE; rw [if_pos h9]
    rcases h9 with h9 | h9
    · have hl : g.pins.length = 0 := by rw [h9]; rfl
      (conv => whnf); repeat' ((first | apply CondA.plain | refine' go_pin3 | (apply DrawA.quiet (by kernel_rfl) (by kernel_rfl); (conv => whnf); fail_if_success (show False))) <;> (conv => whnf))
      (refine RetK.p ?_ <;> repeat' (first | exact trivial | refine And.intro ?_ ?_ | with_reducible rfl | (refine pIEq ?_; (first | omega | (simp only [lenS] at *; omega) | grind)) | (refine bufMap ?_) | (refine bufNil ?_) | (refine bufEq ?_) | rfl); all_goals try first | refine pBEq ?_ | refine pIEq ?_)
      exact (hgE.trans e).symm
    · have hl : g.funs.length = 0 := by rw [h9]; rfl
      (conv => whnf); repeat' ((first | apply CondA.plain | refine' go_pin3 | (apply DrawA.quiet (by kernel_rfl) (by kernel_rfl); (conv => whnf); fail_if_success (show False))) <;> (conv => whnf))
      all_goals
        (refine RetK.p ?_ <;> repeat' (first | exact trivial | refine And.intro ?_ ?_ | with_reducible rfl | (refine pIEq ?_; (first | omega | (simp only [lenS] at *; omega) | grind)) | (refine bufMap ?_) | (refine bufNil ?_) | (refine bufEq ?_) | rfl); all_goals try first | refine pBEq ?_ | refine pIEq ?_)
        exact (hgE.trans e).symm
  have hp0 : 0 < g.pins.length := List.length_pos_iff.2 fun h => h9 (.inl h)
  have hf0 : 0 < g.funs.length := List.length_pos_iff.2 fun h => h9 (.inr h)
  rcases Nat.lt_or_ge 8 g.funs.length with h3 | h3
  · have e : groupE p.n g = 3 := by unfold groupE; rw [if_neg h9, if_pos h3]
    (conv => whnf); repeat' ((first | apply CondA.plain | refine' go_pin3 | (apply DrawA.quiet (by kernel_rfl) (by kernel_rfl); (conv => whnf); fail_if_success (show False))) <;> (conv => whnf))
    (refine RetK.p ?_ <;> repeat' (first | exact trivial | refine And.intro ?_ ?_ | with_reducible rfl | (refine pIEq ?_; (first | omega | (simp only [lenS] at *; omega) | grind)) | (refine bufMap ?_) | (refine bufNil ?_) | (refine bufEq ?_) | rfl); all_goals try first | refine pBEq ?_ | refine pIEq ?_)
    exact (hgE.trans e).symm
  (conv => whnf); repeat' ((first | apply CondA.plain | refine' go_pin3 | (apply DrawA.quiet (by kernel_rfl) (by kernel_rfl); (conv => whnf); fail_if_success (show False))) <;> (conv => whnf))
  refine loop_rule (fun (c : Nat) => ⟨[(2, .ptr 0 0), (5, .ptr 1 0), (7, .p (pI c))], [some (.cells [.p (pI p.n), .p (.list p.nl (p.gs.map Grp.pv))]), some (.cells [.p (pS g.name), .p (.list g.pn (g.pins.map pI)), .p (.list g.fn (g.funs.map pS))])]⟩) (fun (c : Nat) => c ≤ g.pins.length ∧ ∀ x ∈ g.pins.take c, 0 ≤ x ∧ x < p.n) (fun (c : Nat) => g.pins.length - c) 0 ?_ ?_ ?_; (refine SubA.auto rfl rfl rfl rfl ?_ ?_ <;> repeat' (first | exact trivial | refine And.intro ?_ ?_ | with_reducible rfl | (refine pIEq ?_; (first | omega | (simp only [lenS] at *; omega) | grind)) | (refine bufMap ?_) | (refine bufNil ?_) | (refine bufEq ?_) | rfl))
  · exact ⟨Nat.zero_le _, fun x hx => by simp at hx⟩
  rintro c ⟨hc, hall⟩
  rcases Nat.lt_or_ge c g.pins.length with hlt | hge
  · rcases Decidable.em (0 ≤ g.pins[c] ∧ g.pins[c] < p.n) with hx | hx
    · obtain ⟨hx1, hx2⟩ := hx
      (conv => whnf); repeat' ((first | apply CondA.plain | refine' go_pin3 | (apply DrawA.quiet (by kernel_rfl) (by kernel_rfl); (conv => whnf); fail_if_success (show False))) <;> (conv => whnf))
      (refine' ⟨c + 1, _, _, _⟩; rotate_right; (refine SubA.auto rfl rfl rfl rfl ?_ ?_ <;> repeat' (first | exact trivial | refine And.intro ?_ ?_ | with_reducible rfl | (refine pIEq ?_; (first | omega | (simp only [lenS] at *; omega) | grind)) | (refine bufMap ?_) | (refine bufNil ?_) | (refine bufEq ?_) | rfl)); rotate_right; (first | omega | (simp only []; omega) | (simp; omega) | (first | omega | (simp only [lenS] at *; omega) | grind)))
      exact ⟨by omega, take_all_ hlt hall ⟨hx1, hx2⟩⟩
    · have e : groupE p.n g = 2 := by unfold groupE; rw [if_neg h9, if_neg (by omega), if_pos ⟨_, List.getElem_mem hlt, by omega⟩]
      (conv => whnf); repeat' ((first | apply CondA.plain | refine' go_pin3 | (apply DrawA.quiet (by kernel_rfl) (by kernel_rfl); (conv => whnf); fail_if_success (show False))) <;> (conv => whnf))
      all_goals
        (refine RetK.p ?_ <;> repeat' (first | exact trivial | refine And.intro ?_ ?_ | with_reducible rfl | (refine pIEq ?_; (first | omega | (simp only [lenS] at *; omega) | grind)) | (refine bufMap ?_) | (refine bufNil ?_) | (refine bufEq ?_) | rfl); all_goals try first | refine pBEq ?_ | refine pIEq ?_)
        exact (hgE.trans e).symm
  rw [List.take_of_length_le hge] at hall
  have h2 : ¬ badI p.n g.pins := fun ⟨x, hx, h⟩ => by have := hall x hx; omega
  clear hall
  (conv => whnf); repeat' ((first | apply CondA.plain | refine' go_pin3 | (apply DrawA.quiet (by kernel_rfl) (by kernel_rfl); (conv => whnf); fail_if_success (show False))) <;> (conv => whnf))
  refine loop_rule (fun (c : Nat) => ⟨[(5, .ptr 0 0), (8, .p (pI c))], [some (.cells [.p (pS g.name), .p (.list g.pn (g.pins.map pI)), .p (.list g.fn (g.funs.map pS))])]⟩) (fun (c : Nat) => 1 ≤ c ∧ c ≤ g.pins.length ∧ ∀ (k : Nat) (h : k < g.pins.length), k < c → 0 < k → g.pins[k - 1] < g.pins[k]) (fun (c : Nat) => g.pins.length - c) 1 ?_ ?_ ?_; (refine SubA.auto rfl rfl rfl rfl ?_ ?_ <;> repeat' (first | exact trivial | refine And.intro ?_ ?_ | with_reducible rfl | (refine pIEq ?_; (first | omega | (simp only [lenS] at *; omega) | grind)) | (refine bufMap ?_) | (refine bufNil ?_) | (refine bufEq ?_) | rfl))
  · exact ⟨Nat.le_refl _, hp0, fun k h h1 h2 => by omega⟩
  rintro c ⟨h1c, hc, hall⟩
  rcases Nat.lt_or_ge c g.pins.length with hlt | hge
  · have hc0 : (0 : Int) ≤ (c : Nat) := Int.natCast_nonneg c
    have hc1 : (0 : Int) ≤ (c : Nat) - 1 := by omega
    obtain ⟨y, hy⟩ : ∃ y, g.pins[((c : Nat) : Int).toNat]? = some y := ⟨_, List.getElem?_eq_getElem hlt⟩
    obtain ⟨z, hz⟩ : ∃ z, g.pins[((c : Int) - 1).toNat]? = some z := ⟨_, List.getElem?_eq_getElem (by omega)⟩
    have hy2 : g.pins[c] = y := by
      have := List.getElem?_eq_getElem hlt
      rw [Int.toNat_natCast] at hy
      rw [hy] at this; injection this with this; exact this.symm
    have hz2 : g.pins[c - 1] = z := by
      have e0 : ((c : Int) - 1).toNat = c - 1 := by omega
      have := List.getElem?_eq_getElem (l := g.pins) (i := c - 1) (by omega)
      rw [e0] at hz
      rw [hz] at this; injection this with this; exact this.symm
    rcases Decidable.em (z < y) with hx | hx
    · (conv => whnf); repeat' ((first | (apply IdxA.at_ (f := pI) y hc0 hy) | (apply IdxA.at_ (f := pI) z hc1 hz) | apply CondA.plain | refine' go_pin3 | (apply DrawA.quiet (by kernel_rfl) (by kernel_rfl); (conv => whnf); fail_if_success (show False))) <;> (conv => whnf))
      (refine' ⟨c + 1, _, _, _⟩; rotate_right; (refine SubA.auto rfl rfl rfl rfl ?_ ?_ <;> repeat' (first | exact trivial | refine And.intro ?_ ?_ | with_reducible rfl | (refine pIEq ?_; (first | omega | (simp only [lenS] at *; omega) | grind)) | (refine bufMap ?_) | (refine bufNil ?_) | (refine bufEq ?_) | rfl)); rotate_right; (first | omega | (simp only []; omega) | (simp; omega) | (first | omega | (simp only [lenS] at *; omega) | grind)))
      refine ⟨by omega, by omega, fun k h h1 h2 => ?_⟩
      rcases Nat.lt_or_ge k c with h3 | h3
      · exact hall k h h3 h2
      · obtain rfl : k = c := by omega
        rw [hy2, hz2]; exact hx
    · have hni : ¬ incP g.pins := inc_fail hlt (by omega) (by rw [hy2, hz2]; omega)
      have e : groupE p.n g = 12 := by unfold groupE; rw [if_neg h9, if_neg (by omega), if_neg h2, if_pos hni]
      (conv => whnf); repeat' ((first | (apply IdxA.at_ (f := pI) y hc0 hy) | (apply IdxA.at_ (f := pI) z hc1 hz) | apply CondA.plain | refine' go_pin3 | (apply DrawA.quiet (by kernel_rfl) (by kernel_rfl); (conv => whnf); fail_if_success (show False))) <;> (conv => whnf))
      (refine RetK.p ?_ <;> repeat' (first | exact trivial | refine And.intro ?_ ?_ | with_reducible rfl | (refine pIEq ?_; (first | omega | (simp only [lenS] at *; omega) | grind)) | (refine bufMap ?_) | (refine bufNil ?_) | (refine bufEq ?_) | rfl); all_goals try first | refine pBEq ?_ | refine pIEq ?_)
      exact (hgE.trans e).symm
  have h12 : ¬ ¬ incP g.pins := fun h => h fun k hk h0 => hall k hk (by omega) h0
  clear hall
  (conv => whnf); repeat' ((first | apply CondA.plain | refine' go_pin3 | (apply DrawA.quiet (by kernel_rfl) (by kernel_rfl); (conv => whnf); fail_if_success (show False))) <;> (conv => whnf))
  refine loop_rule (fun (c : Nat) => ⟨[(5, .ptr 0 0), (9, .p (pI c))], [some (.cells [.p (pS g.name), .p (.list g.pn (g.pins.map pI)), .p (.list g.fn (g.funs.map pS))])]⟩) (fun (c : Nat) => c ≤ g.funs.length ∧ ∀ x ∈ g.funs.take c, wordF x = true) (fun (c : Nat) => g.funs.length - c) 0 ?_ ?_ ?_; (refine SubA.auto rfl rfl rfl rfl ?_ ?_ <;> repeat' (first | exact trivial | refine And.intro ?_ ?_ | with_reducible rfl | (refine pIEq ?_; (first | omega | (simp only [lenS] at *; omega) | grind)) | (refine bufMap ?_) | (refine bufNil ?_) | (refine bufEq ?_) | rfl))
  · exact ⟨Nat.zero_le _, fun x hx => by simp at hx⟩
  rintro c ⟨hc, hall⟩
  rcases Nat.lt_or_ge c g.funs.length with hlt | hge
  · rcases Bool.eq_false_or_eq_true (wordF g.funs[c]) with hx | hx
    · (conv => whnf); repeat' ((first | apply CondA.plain | refine' go_pin3 | (apply DrawA.quiet (by kernel_rfl) (by kernel_rfl); (conv => whnf); fail_if_success (show False)) | ((refine CallA.scalar (rWord_call g.funs[c]) ?_; rw [hx]))) <;> (conv => whnf))
      (refine' ⟨c + 1, _, _, _⟩; rotate_right; (refine SubA.auto rfl rfl rfl rfl ?_ ?_ <;> repeat' (first | exact trivial | refine And.intro ?_ ?_ | with_reducible rfl | (refine pIEq ?_; (first | omega | (simp only [lenS] at *; omega) | grind)) | (refine bufMap ?_) | (refine bufNil ?_) | (refine bufEq ?_) | rfl)); rotate_right; (first | omega | (simp only []; omega) | (simp; omega) | (first | omega | (simp only [lenS] at *; omega) | grind)))
      exact ⟨by omega, take_all_ hlt hall hx⟩
    · have e : groupE p.n g = 1 := by unfold groupE; rw [if_neg h9, if_neg (by omega), if_neg h2, if_neg h12, if_pos ⟨_, List.getElem_mem hlt, hx⟩]
      (conv => whnf); repeat' ((first | apply CondA.plain | refine' go_pin3 | (apply DrawA.quiet (by kernel_rfl) (by kernel_rfl); (conv => whnf); fail_if_success (show False)) | ((refine CallA.scalar (rWord_call g.funs[c]) ?_; rw [hx]))) <;> (conv => whnf))
      (refine RetK.p ?_ <;> repeat' (first | exact trivial | refine And.intro ?_ ?_ | with_reducible rfl | (refine pIEq ?_; (first | omega | (simp only [lenS] at *; omega) | grind)) | (refine bufMap ?_) | (refine bufNil ?_) | (refine bufEq ?_) | rfl); all_goals try first | refine pBEq ?_ | refine pIEq ?_)
      exact (hgE.trans e).symm
  rw [List.take_of_length_le hge] at hall
  have h1 : ¬ badW g.funs := fun ⟨x, hx, h⟩ => by rw [hall x hx] at h; cases h
  clear hall
  (conv => whnf); repeat' ((first | apply CondA.plain | refine' go_pin3 | (apply DrawA.quiet (by kernel_rfl) (by kernel_rfl); (conv => whnf); fail_if_success (show False))) <;> (conv => whnf))
  refine loop_rule (fun (c : Nat) => ⟨[(5, .ptr 0 0), (10, .p (pI c))], [some (.cells [.p (pS g.name), .p (.list g.pn (g.pins.map pI)), .p (.list g.fn (g.funs.map pS))])]⟩) (fun (c : Nat) => c ≤ g.funs.length ∧ ∀ (k : Nat) (h : k < g.funs.length), k < c → g.funs[k] ∉ g.funs.take k) (fun (c : Nat) => g.funs.length - c) 0 ?_ ?_ ?_; (refine SubA.auto rfl rfl rfl rfl ?_ ?_ <;> repeat' (first | exact trivial | refine And.intro ?_ ?_ | with_reducible rfl | (refine pIEq ?_; (first | omega | (simp only [lenS] at *; omega) | grind)) | (refine bufMap ?_) | (refine bufNil ?_) | (refine bufEq ?_) | rfl))
  · exact ⟨Nat.zero_le _, fun k h hk => by omega⟩
  rintro c ⟨hc, hall⟩
  rcases Nat.lt_or_ge c g.funs.length with hlt | hge
  · rcases Decidable.em (g.funs[c] ∈ g.funs.take c) with hx | hx
    · have e : groupE p.n g = 5 := by unfold groupE; rw [if_neg h9, if_neg (by omega), if_neg h2, if_neg h12, if_neg h1, if_pos ⟨c, hlt, hx⟩]
      (conv => whnf); repeat' ((first | apply CondA.plain | refine' go_pin3 | (apply DrawA.quiet (by kernel_rfl) (by kernel_rfl); (conv => whnf); fail_if_success (show False))) <;> (conv => whnf))
      refine loop_rule (fun (j : Nat) => ⟨[(5, .ptr 0 0), (10, .p (pI c)), (11, .p (pI j))], [some (.cells [.p (pS g.name), .p (.list g.pn (g.pins.map pI)), .p (.list g.fn (g.funs.map pS))])]⟩) (fun (j : Nat) => j ≤ c ∧ g.funs[c] ∉ g.funs.take j) (fun (j : Nat) => c - j) 0 ?_ ?_ ?_; (refine SubA.auto rfl rfl rfl rfl ?_ ?_ <;> repeat' (first | exact trivial | refine And.intro ?_ ?_ | with_reducible rfl | (refine pIEq ?_; (first | omega | (simp only [lenS] at *; omega) | grind)) | (refine bufMap ?_) | (refine bufNil ?_) | (refine bufEq ?_) | rfl))
      · exact ⟨Nat.zero_le _, by simp⟩
      rintro j ⟨hj, hnj⟩
      rcases Nat.lt_or_ge j c with hjl | hjg
      · have hq := seq_eq g.funs[j] g.funs[c]
        rcases Decidable.em (g.funs[j] = g.funs[c]) with he | he
        · rw [decide_eq_true he] at hq
          (conv => whnf); repeat' ((first | apply CondA.plain | refine' go_pin3 | (apply DrawA.quiet (by kernel_rfl) (by kernel_rfl); (conv => whnf); fail_if_success (show False))) <;> (conv => whnf))
          (refine RetK.p ?_ <;> repeat' (first | exact trivial | refine And.intro ?_ ?_ | with_reducible rfl | (refine pIEq ?_; (first | omega | (simp only [lenS] at *; omega) | grind)) | (refine bufMap ?_) | (refine bufNil ?_) | (refine bufEq ?_) | rfl); all_goals try first | refine pBEq ?_ | refine pIEq ?_)
          exact (hgE.trans e).symm
        · rw [decide_eq_false he] at hq
          (conv => whnf); repeat' ((first | apply CondA.plain | refine' go_pin3 | (apply DrawA.quiet (by kernel_rfl) (by kernel_rfl); (conv => whnf); fail_if_success (show False))) <;> (conv => whnf))
          (refine' ⟨j + 1, _, _, _⟩; rotate_right; (refine SubA.auto rfl rfl rfl rfl ?_ ?_ <;> repeat' (first | exact trivial | refine And.intro ?_ ?_ | with_reducible rfl | (refine pIEq ?_; (first | omega | (simp only [lenS] at *; omega) | grind)) | (refine bufMap ?_) | (refine bufNil ?_) | (refine bufEq ?_) | rfl)); rotate_right; (first | omega | (simp only []; omega) | (simp; omega) | (first | omega | (simp only [lenS] at *; omega) | grind)))
          refine ⟨by omega, ?_⟩
          rw [List.take_succ_eq_append_getElem (by omega)]
          intro h
          rcases List.mem_append.1 h with h | h
          · exact hnj h
          · exact he (List.mem_singleton.1 h).symm
      · have : j = c := by omega
        subst this
        exact absurd hx hnj
    · (conv => whnf); repeat' ((first | apply CondA.plain | refine' go_pin3 | (apply DrawA.quiet (by kernel_rfl) (by kernel_rfl); (conv => whnf); fail_if_success (show False))) <;> (conv => whnf))
      refine loop_rule (fun (j : Nat) => ⟨[(5, .ptr 0 0), (10, .p (pI c)), (11, .p (pI j))], [some (.cells [.p (pS g.name), .p (.list g.pn (g.pins.map pI)), .p (.list g.fn (g.funs.map pS))])]⟩) (fun (j : Nat) => j ≤ c) (fun (j : Nat) => c - j) 0 ?_ ?_ ?_; (refine SubA.auto rfl rfl rfl rfl ?_ ?_ <;> repeat' (first | exact trivial | refine And.intro ?_ ?_ | with_reducible rfl | (refine pIEq ?_; (first | omega | (simp only [lenS] at *; omega) | grind)) | (refine bufMap ?_) | (refine bufNil ?_) | (refine bufEq ?_) | rfl))
      · exact Nat.zero_le _
      rintro j hj
      rcases Nat.lt_or_ge j c with hjl | hjg
      · have hq := seq_eq g.funs[j] g.funs[c]
        have he : ¬ g.funs[j] = g.funs[c] := fun he => hx (by rw [← he]; exact List.mem_take_iff_getElem.2 ⟨j, by omega, rfl⟩)
        rw [decide_eq_false he] at hq
        (conv => whnf); repeat' ((first | apply CondA.plain | refine' go_pin3 | (apply DrawA.quiet (by kernel_rfl) (by kernel_rfl); (conv => whnf); fail_if_success (show False))) <;> (conv => whnf))
        (refine' ⟨j + 1, _, _, _⟩; rotate_right; (refine SubA.auto rfl rfl rfl rfl ?_ ?_ <;> repeat' (first | exact trivial | refine And.intro ?_ ?_ | with_reducible rfl | (refine pIEq ?_; (first | omega | (simp only [lenS] at *; omega) | grind)) | (refine bufMap ?_) | (refine bufNil ?_) | (refine bufEq ?_) | rfl)); rotate_right; (first | omega | (simp only []; omega) | (simp; omega) | (first | omega | (simp only [lenS] at *; omega) | grind)))
        omega
      · (conv => whnf); repeat' ((first | apply CondA.plain | refine' go_pin3 | (apply DrawA.quiet (by kernel_rfl) (by kernel_rfl); (conv => whnf); fail_if_success (show False))) <;> (conv => whnf))
        (refine' ⟨c + 1, _, _, _⟩; rotate_right; (refine SubA.auto rfl rfl rfl rfl ?_ ?_ <;> repeat' (first | exact trivial | refine And.intro ?_ ?_ | with_reducible rfl | (refine pIEq ?_; (first | omega | (simp only [lenS] at *; omega) | grind)) | (refine bufMap ?_) | (refine bufNil ?_) | (refine bufEq ?_) | rfl)); rotate_right; (first | omega | (simp only []; omega) | (simp; omega) | (first | omega | (simp only [lenS] at *; omega) | grind)))
        refine ⟨by omega, fun k h hk => ?_⟩
        rcases Nat.lt_or_ge k c with h3 | h3
        · exact hall k h h3
        · obtain rfl : k = c := by omega
          exact hx
  · have h5 : ¬ dupF g.funs := fun ⟨k, hk, h⟩ => hall k hk (by omega) h
    have e : groupE p.n g = 0 := by unfold groupE; rw [if_neg h9, if_neg (by omega), if_neg h2, if_neg h12, if_neg h1, if_neg h5]
    (conv => whnf); repeat' ((first | apply CondA.plain | refine' go_pin3 | (apply DrawA.quiet (by kernel_rfl) (by kernel_rfl); (conv => whnf); fail_if_success (show False))) <;> (conv => whnf))
    (refine RetK.p ?_ <;> repeat' (first | exact trivial | refine And.intro ?_ ?_ | with_reducible rfl | (refine pIEq ?_; (first | omega | (simp only [lenS] at *; omega) | grind)) | (refine bufMap ?_) | (refine bufNil ?_) | (refine bufEq ?_) | rfl); all_goals try first | refine pBEq ?_ | refine pIEq ?_)
    exact (hgE.trans e).symm
end Go.Proofs.Ytcemickjholnaaa
