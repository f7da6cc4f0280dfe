/- Groups of pins: what is wrong with one. -/
import Derived.Test.Ytcemickjholnaaapin1
import Derived.Test.Ytcemickjholnaaaint
namespace Go.Proofs.Ytcemickjholnaaa
set_option linter.unusedSimpArgs false
set_option linter.unusedVariables false
set_option linter.unnecessarySimpa false
open Go.Abs
set_option maxRecDepth 100000
structure Grp where
  name : ByteArray
  pn : Bool
  pins : List Int
  fn : Bool
  funs : List ByteArray
instance : Inhabited Grp := ⟨⟨⟨#[]⟩, true, [], true, []⟩⟩
def Grp.pv (g : Grp) : PV := .agg [pS g.name, .list g.pn (g.pins.map pI), .list g.fn (g.funs.map pS)]
structure Pin where
  n : Int
  nl : Bool
  gs : List Grp
def Pin.pv (p : Pin) : PV := .agg [pI p.n, .list p.nl (p.gs.map Grp.pv)]
/-- Kept for later: a goal of a walk's step. -/
theorem park_pin2 {P : Prop} (x : P) (_ : x = x) : P := x
/-- One step of a walk. -/
theorem go_pin2 {P : Prop} (h : P := by
  (first | ((first | apply LenA.map | apply NilA.map | apply NilA.mk); intro _) | ((first | apply NW.as | apply ValA.as); with_reducible assumption) | ((first | apply NW.i64 | apply NW.u32 | apply NW.u64 | apply NW.u8 | apply InA.nat | apply InA.map | apply AppA.snoc (f := pI) (a := _) rfl | apply AppA.one (f := pI) (a := _) rfl | apply AppA.snoc (f := pB) (a := _) rfl | apply AppA.one (f := pB) (a := _) rfl | apply AppA.snoc (f := pS) (a := _) rfl | apply AppA.one (f := pS) (a := _) rfl | apply AppA.map | apply AppA.nil | apply CutA.lo | apply CutA.hi); (first | omega | (simp only [lenS] at *; omega) | grind)) | ((first | (apply RemA.as; assumption) | apply RemA.self); (first | omega | (simp only [lenS] at *; omega) | grind)) | (apply ValA.as; assumption) | apply ValA.self | (apply NW.as; assumption) | (apply SzA.map; (intro _; rfl)) | with_reducible apply br_pt | with_reducible apply br_pf | with_reducible apply br_mt | with_reducible apply br_mf | apply Both.mk | ((first | apply br_T | apply br_F | apply br_mT | apply br_mF); assumption) | ((first | apply br_lss | apply br_leq | apply br_gtr | apply br_geq | apply br_dec | apply br_beq | apply br_bne | apply br_beqB | apply br_bneB | apply br_not | apply br_m | apply br_intro) <;> intro h0 <;> first | (exfalso; first | omega | exact tf h0 (by assumption) | exact tf (by assumption) h0 | exact h0 (by assumption) | exact h0 rfl | exact of_decide_eq_false h0 rfl) | skip) | refine ArrA.mk _ rfl rfl ?_ | (apply IdxA.lit; omega; exact rfl) | ((first | apply IdxA.of_nat | (apply IdxA.of_map; (first | omega | (simp only [lenS] at *; omega) | grind))); rotate_left; (first | omega | (simp only [lenS] at *; omega) | grind)) | apply AppC.own | apply CutO.part | apply IsL.set (f := pI) (a := _) rfl | apply IsL.rep (f := pI) (a := _) rfl | apply IsL.set (f := pB) (a := _) rfl | apply IsL.rep (f := pB) (a := _) rfl | apply IsL.set (f := pS) (a := _) rfl | apply IsL.rep (f := pS) (a := _) rfl | apply IsL.lit (f := pI) [] rfl | apply IsL.lit (f := pB) [] rfl | apply IsL.lit (f := pS) [] rfl | (apply And.intro; (first | with_reducible rfl | (show (_ : AV) = _; rfl) | (first | omega | (simp only [lenS] at *; omega) | grind)))) <;> (solve_by_elim (newGoals := .nonDependentOnly) (symm := false) (exfalso := false) (transparency := .reducible) only [rfl, park_pin2])) : P := h
theorem SIndex_call (nl : Bool) (xs : List ByteArray) (x : ByteArray) : ACall Try.prog 46 [.p (.list nl (xs.map pS)), .p (pS x)] [] fun r H => (∃ v : Int, r = .p (pI v) ∧ (0 ≤ v ↔ x ∈ xs)) ∧ H = [] := by
  refine acall_enter Try.func46 rfl rfl tabOK rfl ?_
  (conv => whnf); repeat' ((first | apply CondA.plain | refine' go_pin2 | (apply DrawA.quiet (by kernel_rfl) (by kernel_rfl); (conv => whnf); fail_if_success (show False))) <;> (conv => whnf))
  refine loop_rule (fun (c : Nat) => ⟨[(0, .p (.list nl (xs.map pS))), (1, .p (pS x)), (7, .p (pI xs.length)), (8, .p (pI c))], []⟩) (fun (c : Nat) => c ≤ xs.length ∧ x ∉ xs.take c) (fun (c : Nat) => xs.length - c) 0 ?_ ?_ ?_; (refine SubA.auto rfl rfl rfl rfl ?_ ?_ <;> repeat' (first | exact trivial | refine And.intro ?_ ?_ | with_reducible rfl | (refine pIEq ?_; (first | omega | (simp only [lenS] at *; omega) | grind)) | (refine bufMap ?_) | (refine bufNil ?_) | (refine bufEq ?_) | rfl))
  · simp
  rintro c ⟨hc, hn⟩
  rcases Nat.lt_or_ge c xs.length with hlt | hge
  · have hq := seq_eq x xs[c]
    have hq2 := seq_eq xs[c] x
    rcases Decidable.em (x = xs[c]) with he | he
    · rw [decide_eq_true he] at hq
      rw [decide_eq_true he.symm] at hq2
      (conv => whnf); repeat' ((first | apply CondA.plain | refine' go_pin2 | (apply DrawA.quiet (by kernel_rfl) (by kernel_rfl); (conv => whnf); fail_if_success (show False))) <;> (conv => whnf))
      (refine' RetK.auto (.p (pI c)) ([]) rfl rfl rfl rfl _ _ _ <;> repeat' (first | exact trivial | refine And.intro ?_ ?_ | with_reducible rfl | (refine pIEq ?_; (first | omega | (simp only [lenS] at *; omega) | grind)) | (refine bufMap ?_) | (refine bufNil ?_) | (refine bufEq ?_) | rfl))
      exact ⟨c, rfl, fun _ => by rw [he]; exact List.getElem_mem _, fun _ => Int.natCast_nonneg _⟩
    · rw [decide_eq_false he] at hq
      rw [decide_eq_false (fun h => he h.symm)] at hq2
      (conv => whnf); repeat' ((first | apply CondA.plain | refine' go_pin2 | (apply DrawA.quiet (by kernel_rfl) (by kernel_rfl); (conv => whnf); fail_if_success (show False))) <;> (conv => whnf))
      (refine' ⟨c + 1, _, _, _⟩; rotate_right; (refine SubA.auto rfl rfl rfl rfl ?_ ?_ <;> repeat' (first | exact trivial | refine And.intro ?_ ?_ | with_reducible rfl | (refine pIEq ?_; (first | omega | (simp only [lenS] at *; omega) | grind)) | (refine bufMap ?_) | (refine bufNil ?_) | (refine bufEq ?_) | rfl)); rotate_right; (first | omega | (simp only []; omega) | (simp; omega) | (first | omega | (simp only [lenS] at *; omega) | grind)))
      refine ⟨by omega, ?_⟩
      rw [List.take_succ_eq_append_getElem hlt]
      intro h
      rcases List.mem_append.1 h with h | h
      · exact hn h
      · exact he (List.mem_singleton.1 h)
  · rw [List.take_of_length_le hge] at hn
    (conv => whnf); repeat' ((first | apply CondA.plain | refine' go_pin2 | (apply DrawA.quiet (by kernel_rfl) (by kernel_rfl); (conv => whnf); fail_if_success (show False))) <;> (conv => whnf))
    (refine' RetK.auto (.p (pI (-1))) ([]) rfl rfl rfl rfl _ _ _ <;> repeat' (first | exact trivial | refine And.intro ?_ ?_ | with_reducible rfl | (refine pIEq ?_; (first | omega | (simp only [lenS] at *; omega) | grind)) | (refine bufMap ?_) | (refine bufNil ?_) | (refine bufEq ?_) | rfl))
    exact ⟨-1, rfl, fun h => by omega, fun h => absurd h hn⟩
theorem SContains_call (nl : Bool) (xs : List ByteArray) (x : ByteArray) : ACall Try.prog 35 [.p (.list nl (xs.map pS)), .p (pS x)] [] fun r H => r = .p (pB (decide (x ∈ xs))) ∧ H = [] := by
  refine acall_enter Try.func35 rfl rfl tabOK rfl ?_
  (conv => whnf); repeat' ((first | apply CondA.plain | refine' go_pin2 | (apply DrawA.quiet (by kernel_rfl) (by kernel_rfl); (conv => whnf); fail_if_success (show False))) <;> (conv => whnf))
  refine CallA.loc [] [] rfl rfl ((SIndex_call nl xs x).mono ?_)
  rintro _ _ ⟨⟨v, rfl, hv⟩, rfl⟩
  (conv => whnf); repeat' ((first | apply CondA.plain | refine' go_pin2 | (apply DrawA.quiet (by kernel_rfl) (by kernel_rfl); (conv => whnf); fail_if_success (show False))) <;> (conv => whnf))
  (refine RetK.p ?_ <;> repeat' (first | exact trivial | refine And.intro ?_ ?_ | with_reducible rfl | (refine pIEq ?_; (first | omega | (simp only [lenS] at *; omega) | grind)) | (refine bufMap ?_) | (refine bufNil ?_) | (refine bufEq ?_) | rfl); all_goals try first | refine pBEq ?_ | refine pIEq ?_)
  exact decide_eq_decide.2 hv
def incP (l : List Int) : Prop := ∀ (k : Nat) (h : k < l.length), 0 < k → l[k - 1] < l[k]
instance (l : List Int) : Decidable (incP l) := by unfold incP; infer_instance
def dupF (l : List ByteArray) : Prop := ∃ k, ∃ h : k < l.length, l[k] ∈ l.take k
instance (l : List ByteArray) : Decidable (dupF l) := decidable_of_iff (¬ ∀ (k : Nat) (h : k < l.length), l[k] ∉ l.take k) (by unfold dupF; simp)
def badI (n : Int) (l : List Int) : Prop := ∃ x ∈ l, x < 0 ∨ n ≤ x
instance (n : Int) (l : List Int) : Decidable (badI n l) := by unfold badI; infer_instance
def badW (l : List ByteArray) : Prop := ∃ x ∈ l, wordF x = false
instance (l : List ByteArray) : Decidable (badW l) := by unfold badW; infer_instance
/-- What is wrong with a group, besides its name. -/
def groupE (n : Int) (g : Grp) : Int :=
  if g.pins = [] ∨ g.funs = [] then 9 else if 8 < g.funs.length then 3 else if badI n g.pins then 2 else if ¬ incP g.pins then 12 else if badW g.funs then 1 else if dupF g.funs then 5 else 0
theorem inc_fail {l : List Int} {k : Nat} (h : k < l.length) (h0 : 0 < k) (hl : l[k] ≤ l[k - 1]) : ¬ incP l := fun hp => by have := hp k h h0; omega
theorem take_all_ {α : Type} {l : List α} {c : Nat} {Q : α → Prop} (hc : c < l.length) (h : ∀ x ∈ l.take c, Q x) (hq : Q l[c]) : ∀ x ∈ l.take (c + 1), Q x := fun x hx => by
  rw [List.take_succ_eq_append_getElem hc] at hx
  rcases List.mem_append.1 hx with h1 | h1
  · exact h x h1
  · rw [List.mem_singleton.1 h1]; exact hq
/-- What is wrong with a group of a list. -/
def gE (n : Int) (gs : List Grp) (i : Nat) : Int :=
  if wordF (gs.getD i default).name = false then 1 else if ∃ k, k < i ∧ (gs.getD k default).name = (gs.getD i default).name then 5 else groupE n (gs.getD i default)
set_option maxHeartbeats 4000000 in
theorem group_call (n : Int) (g : Grp) : ACall Try.prog 38 [.p (pI n), .p g.pv] [] fun r H => r = .p (pI (groupE n g)) ∧ H = [] := by
  refine acall_enter Try.func38 rfl rfl tabOK rfl ?_
  rcases Decidable.em (g.pins = [] ∨ g.funs = []) with h9 | h9
  · have e : groupE n g = 9 := by unfold groupE; rw [if_pos h9]
    rcases h9 with h9 | h9
    · have hl : g.pins.length = 0 := by rw [h9]; rfl
      (conv => whnf); repeat' ((first | apply CondA.plain | refine' go_pin2 | (apply DrawA.quiet (by kernel_rfl) (by kernel_rfl); (conv => whnf); fail_if_success (show False))) <;> (conv => whnf))
      (refine RetK.p ?_ <;> repeat' (first | exact trivial | refine And.intro ?_ ?_ | with_reducible rfl | (refine pIEq ?_; (first | omega | (simp only [lenS] at *; omega) | grind)) | (refine bufMap ?_) | (refine bufNil ?_) | (refine bufEq ?_) | rfl); all_goals try first | refine pBEq ?_ | refine pIEq ?_)
      exact e.symm
    · have hl : g.funs.length = 0 := by rw [h9]; rfl
      (conv => whnf); repeat' ((first | apply CondA.plain | refine' go_pin2 | (apply DrawA.quiet (by kernel_rfl) (by kernel_rfl); (conv => whnf); fail_if_success (show False))) <;> (conv => whnf))
      all_goals
        (refine RetK.p ?_ <;> repeat' (first | exact trivial | refine And.intro ?_ ?_ | with_reducible rfl | (refine pIEq ?_; (first | omega | (simp only [lenS] at *; omega) | grind)) | (refine bufMap ?_) | (refine bufNil ?_) | (refine bufEq ?_) | rfl); all_goals try first | refine pBEq ?_ | refine pIEq ?_)
        exact e.symm
  have hp0 : 0 < g.pins.length := List.length_pos_iff.2 fun h => h9 (.inl h)
  have hf0 : 0 < g.funs.length := List.length_pos_iff.2 fun h => h9 (.inr h)
  rcases Nat.lt_or_ge 8 g.funs.length with h3 | h3
  · have e : groupE n g = 3 := by unfold groupE; rw [if_neg h9, if_pos h3]
    (conv => whnf); repeat' ((first | apply CondA.plain | refine' go_pin2 | (apply DrawA.quiet (by kernel_rfl) (by kernel_rfl); (conv => whnf); fail_if_success (show False))) <;> (conv => whnf))
    (refine RetK.p ?_ <;> repeat' (first | exact trivial | refine And.intro ?_ ?_ | with_reducible rfl | (refine pIEq ?_; (first | omega | (simp only [lenS] at *; omega) | grind)) | (refine bufMap ?_) | (refine bufNil ?_) | (refine bufEq ?_) | rfl); all_goals try first | refine pBEq ?_ | refine pIEq ?_)
    exact e.symm
  (conv => whnf); repeat' ((first | apply CondA.plain | refine' go_pin2 | (apply DrawA.quiet (by kernel_rfl) (by kernel_rfl); (conv => whnf); fail_if_success (show False))) <;> (conv => whnf))
  refine loop_rule (fun (c : Nat) => ⟨[(0, .p (pI n)), (3, .ptr 0 0), (27, .p (.list g.pn (g.pins.map pI))), (28, .p (pI g.pins.length)), (29, .p (pI c))], [some (.cells [.p (pS g.name), .p (.list g.pn (g.pins.map pI)), .p (.list g.fn (g.funs.map pS))])]⟩) (fun (c : Nat) => c ≤ g.pins.length ∧ ∀ x ∈ g.pins.take c, 0 ≤ x ∧ x < n) (fun (c : Nat) => g.pins.length - c) 0 ?_ ?_ ?_; (refine SubA.auto rfl rfl rfl rfl ?_ ?_ <;> repeat' (first | exact trivial | refine And.intro ?_ ?_ | with_reducible rfl | (refine pIEq ?_; (first | omega | (simp only [lenS] at *; omega) | grind)) | (refine bufMap ?_) | (refine bufNil ?_) | (refine bufEq ?_) | rfl))
  · exact ⟨Nat.zero_le _, fun x hx => by simp at hx⟩
  rintro c ⟨hc, hall⟩
  rcases Nat.lt_or_ge c g.pins.length with hlt | hge
  · rcases Decidable.em (0 ≤ g.pins[c] ∧ g.pins[c] < n) with hx | hx
    · obtain ⟨hx1, hx2⟩ := hx
      (conv => whnf); repeat' ((first | apply CondA.plain | refine' go_pin2 | (apply DrawA.quiet (by kernel_rfl) (by kernel_rfl); (conv => whnf); fail_if_success (show False))) <;> (conv => whnf))
      (refine' ⟨c + 1, _, _, _⟩; rotate_right; (refine SubA.auto rfl rfl rfl rfl ?_ ?_ <;> repeat' (first | exact trivial | refine And.intro ?_ ?_ | with_reducible rfl | (refine pIEq ?_; (first | omega | (simp only [lenS] at *; omega) | grind)) | (refine bufMap ?_) | (refine bufNil ?_) | (refine bufEq ?_) | rfl)); rotate_right; (first | omega | (simp only []; omega) | (simp; omega) | (first | omega | (simp only [lenS] at *; omega) | grind)))
      exact ⟨by omega, take_all_ hlt hall ⟨hx1, hx2⟩⟩
    · have e : groupE n g = 2 := by unfold groupE; rw [if_neg h9, if_neg (by omega), if_pos ⟨_, List.getElem_mem hlt, by omega⟩]
      (conv => whnf); repeat' ((first | apply CondA.plain | refine' go_pin2 | (apply DrawA.quiet (by kernel_rfl) (by kernel_rfl); (conv => whnf); fail_if_success (show False))) <;> (conv => whnf))
      all_goals
        (refine RetK.p ?_ <;> repeat' (first | exact trivial | refine And.intro ?_ ?_ | with_reducible rfl | (refine pIEq ?_; (first | omega | (simp only [lenS] at *; omega) | grind)) | (refine bufMap ?_) | (refine bufNil ?_) | (refine bufEq ?_) | rfl); all_goals try first | refine pBEq ?_ | refine pIEq ?_)
        exact e.symm
  rw [List.take_of_length_le hge] at hall
  have h2 : ¬ badI n g.pins := fun ⟨x, hx, h⟩ => by have := hall x hx; omega
  clear hall
  (conv => whnf); repeat' ((first | apply CondA.plain | refine' go_pin2 | (apply DrawA.quiet (by kernel_rfl) (by kernel_rfl); (conv => whnf); fail_if_success (show False))) <;> (conv => whnf))
  refine loop_rule (fun (c : Nat) => ⟨[(3, .ptr 0 0), (7, .p (pI c))], [some (.cells [.p (pS g.name), .p (.list g.pn (g.pins.map pI)), .p (.list g.fn (g.funs.map pS))])]⟩) (fun (c : Nat) => 1 ≤ c ∧ c ≤ g.pins.length ∧ ∀ (k : Nat) (h : k < g.pins.length), k < c → 0 < k → g.pins[k - 1] < g.pins[k]) (fun (c : Nat) => g.pins.length - c) 1 ?_ ?_ ?_; (refine SubA.auto rfl rfl rfl rfl ?_ ?_ <;> repeat' (first | exact trivial | refine And.intro ?_ ?_ | with_reducible rfl | (refine pIEq ?_; (first | omega | (simp only [lenS] at *; omega) | grind)) | (refine bufMap ?_) | (refine bufNil ?_) | (refine bufEq ?_) | rfl))
  · exact ⟨Nat.le_refl _, hp0, fun k h h1 h2 => by omega⟩
  rintro c ⟨h1c, hc, hall⟩
  rcases Nat.lt_or_ge c g.pins.length with hlt | hge
  · have hc0 : (0 : Int) ≤ (c : Nat) := Int.natCast_nonneg c
    have hc1 : (0 : Int) ≤ (c : Nat) - 1 := by omega
    obtain ⟨y, hy⟩ : ∃ y, g.pins[((c : Nat) : Int).toNat]? = some y := ⟨_, List.getElem?_eq_getElem hlt⟩
    obtain ⟨z, hz⟩ : ∃ z, g.pins[((c : Int) - 1).toNat]? = some z := ⟨_, List.getElem?_eq_getElem (by omega)⟩
    have hy2 : g.pins[c] = y := by
      have := List.getElem?_eq_getElem hlt
      rw [Int.toNat_natCast] at hy
      rw [hy] at this; injection this with this; exact this.symm
    have hz2 : g.pins[c - 1] = z := by
      have e0 : ((c : Int) - 1).toNat = c - 1 := by omega
      have := List.getElem?_eq_getElem (l := g.pins) (i := c - 1) (by omega)
      rw [e0] at hz
      rw [hz] at this; injection this with this; exact this.symm
    rcases Decidable.em (z < y) with hx | hx
    · (conv => whnf); repeat' ((first | (apply IdxA.at_ (f := pI) y hc0 hy) | (apply IdxA.at_ (f := pI) z hc1 hz) | apply CondA.plain | refine' go_pin2 | (apply DrawA.quiet (by kernel_rfl) (by kernel_rfl); (conv => whnf); fail_if_success (show False))) <;> (conv => whnf))
      (refine' ⟨c + 1, _, _, _⟩; rotate_right; (refine SubA.auto rfl rfl rfl rfl ?_ ?_ <;> repeat' (first | exact trivial | refine And.intro ?_ ?_ | with_reducible rfl | (refine pIEq ?_; (first | omega | (simp only [lenS] at *; omega) | grind)) | (refine bufMap ?_) | (refine bufNil ?_) | (refine bufEq ?_) | rfl)); rotate_right; (first | omega | (simp only []; omega) | (simp; omega) | (first | omega | (simp only [lenS] at *; omega) | grind)))
      refine ⟨by omega, by omega, fun k h h1 h2 => ?_⟩
      rcases Nat.lt_or_ge k c with h3 | h3
      · exact hall k h h3 h2
      · obtain rfl : k = c := by omega
        rw [hy2, hz2]; exact hx
    · have hni : ¬ incP g.pins := inc_fail hlt (by omega) (by rw [hy2, hz2]; omega)
      have e : groupE n g = 12 := by unfold groupE; rw [if_neg h9, if_neg (by omega), if_neg h2, if_pos hni]
      (conv => whnf); repeat' ((first | (apply IdxA.at_ (f := pI) y hc0 hy) | (apply IdxA.at_ (f := pI) z hc1 hz) | apply CondA.plain | refine' go_pin2 | (apply DrawA.quiet (by kernel_rfl) (by kernel_rfl); (conv => whnf); fail_if_success (show False))) <;> (conv => whnf))
      (refine RetK.p ?_ <;> repeat' (first | exact trivial | refine And.intro ?_ ?_ | with_reducible rfl | (refine pIEq ?_; (first | omega | (simp only [lenS] at *; omega) | grind)) | (refine bufMap ?_) | (refine bufNil ?_) | (refine bufEq ?_) | rfl); all_goals try first | refine pBEq ?_ | refine pIEq ?_)
      exact e.symm
  have h12 : ¬ ¬ incP g.pins := fun h => h fun k hk h0 => hall k hk (by omega) h0
  clear hall
  (conv => whnf); repeat' ((first | apply CondA.plain | refine' go_pin2 | (apply DrawA.quiet (by kernel_rfl) (by kernel_rfl); (conv => whnf); fail_if_success (show False))) <;> (conv => whnf))
  refine loop_rule (fun (c : Nat) => ⟨[(3, .ptr 0 0), (61, .p (.list g.fn (g.funs.map pS))), (62, .p (pI g.funs.length)), (63, .p (pI c))], [some (.cells [.p (pS g.name), .p (.list g.pn (g.pins.map pI)), .p (.list g.fn (g.funs.map pS))])]⟩) (fun (c : Nat) => c ≤ g.funs.length ∧ ∀ x ∈ g.funs.take c, wordF x = true) (fun (c : Nat) => g.funs.length - c) 0 ?_ ?_ ?_; (refine SubA.auto rfl rfl rfl rfl ?_ ?_ <;> repeat' (first | exact trivial | refine And.intro ?_ ?_ | with_reducible rfl | (refine pIEq ?_; (first | omega | (simp only [lenS] at *; omega) | grind)) | (refine bufMap ?_) | (refine bufNil ?_) | (refine bufEq ?_) | rfl))
  · exact ⟨Nat.zero_le _, fun x hx => by simp at hx⟩
  rintro c ⟨hc, hall⟩
  rcases Nat.lt_or_ge c g.funs.length with hlt | hge
  · rcases Bool.eq_false_or_eq_true (wordF g.funs[c]) with hx | hx
    · (conv => whnf); repeat' ((first | apply CondA.plain | refine' go_pin2 | (apply DrawA.quiet (by kernel_rfl) (by kernel_rfl); (conv => whnf); fail_if_success (show False)) | ((refine CallA.scalar (Word_call g.funs[c]) ?_; rw [hx]))) <;> (conv => whnf))
      (refine' ⟨c + 1, _, _, _⟩; rotate_right; (refine SubA.auto rfl rfl rfl rfl ?_ ?_ <;> repeat' (first | exact trivial | refine And.intro ?_ ?_ | with_reducible rfl | (refine pIEq ?_; (first | omega | (simp only [lenS] at *; omega) | grind)) | (refine bufMap ?_) | (refine bufNil ?_) | (refine bufEq ?_) | rfl)); rotate_right; (first | omega | (simp only []; omega) | (simp; omega) | (first | omega | (simp only [lenS] at *; omega) | grind)))
      exact ⟨by omega, take_all_ hlt hall hx⟩
    · have e : groupE n g = 1 := by unfold groupE; rw [if_neg h9, if_neg (by omega), if_neg h2, if_neg h12, if_pos ⟨_, List.getElem_mem hlt, hx⟩]
      (conv => whnf); repeat' ((first | apply CondA.plain | refine' go_pin2 | (apply DrawA.quiet (by kernel_rfl) (by kernel_rfl); (conv => whnf); fail_if_success (show False)) | ((refine CallA.scalar (Word_call g.funs[c]) ?_; rw [hx]))) <;> (conv => whnf))
      (refine RetK.p ?_ <;> repeat' (first | exact trivial | refine And.intro ?_ ?_ | with_reducible rfl | (refine pIEq ?_; (first | omega | (simp only [lenS] at *; omega) | grind)) | (refine bufMap ?_) | (refine bufNil ?_) | (refine bufEq ?_) | rfl); all_goals try first | refine pBEq ?_ | refine pIEq ?_)
      exact e.symm
  rw [List.take_of_length_le hge] at hall
  have h1 : ¬ badW g.funs := fun ⟨x, hx, h⟩ => by rw [hall x hx] at h; cases h
  clear hall
  (conv => whnf); repeat' ((first | apply CondA.plain | refine' go_pin2 | (apply DrawA.quiet (by kernel_rfl) (by kernel_rfl); (conv => whnf); fail_if_success (show False))) <;> (conv => whnf))
  refine loop_rule (fun (c : Nat) => ⟨[(3, .ptr 0 0), (72, .p (.list g.fn (g.funs.map pS))), (73, .p (pI g.funs.length)), (74, .p (pI c))], [some (.cells [.p (pS g.name), .p (.list g.pn (g.pins.map pI)), .p (.list g.fn (g.funs.map pS))])]⟩) (fun (c : Nat) => c ≤ g.funs.length ∧ ∀ (k : Nat) (h : k < g.funs.length), k < c → g.funs[k] ∉ g.funs.take k) (fun (c : Nat) => g.funs.length - c) 0 ?_ ?_ ?_; (refine SubA.auto rfl rfl rfl rfl ?_ ?_ <;> repeat' (first | exact trivial | refine And.intro ?_ ?_ | with_reducible rfl | (refine pIEq ?_; (first | omega | (simp only [lenS] at *; omega) | grind)) | (refine bufMap ?_) | (refine bufNil ?_) | (refine bufEq ?_) | rfl))
  · exact ⟨Nat.zero_le _, fun k h hk => by omega⟩
  rintro c ⟨hc, hall⟩
  rcases Nat.lt_or_ge c g.funs.length with hlt | hge
  · rcases Decidable.em (g.funs[c] ∈ g.funs.take c) with hx | hx
    · have e : groupE n g = 5 := by unfold groupE; rw [if_neg h9, if_neg (by omega), if_neg h2, if_neg h12, if_neg h1, if_pos ⟨c, hlt, hx⟩]
      (conv => whnf); repeat' ((first | apply CondA.plain | refine' go_pin2 | (apply DrawA.quiet (by kernel_rfl) (by kernel_rfl); (conv => whnf); fail_if_success (show False)) | ((refine CallA.scalar (SContains_call _ (g.funs.take c) g.funs[c]) ?_; rw [decide_eq_true hx]))) <;> (conv => whnf))
      (refine RetK.p ?_ <;> repeat' (first | exact trivial | refine And.intro ?_ ?_ | with_reducible rfl | (refine pIEq ?_; (first | omega | (simp only [lenS] at *; omega) | grind)) | (refine bufMap ?_) | (refine bufNil ?_) | (refine bufEq ?_) | rfl); all_goals try first | refine pBEq ?_ | refine pIEq ?_)
      exact e.symm
    · (conv => whnf); repeat' ((first | apply CondA.plain | refine' go_pin2 | (apply DrawA.quiet (by kernel_rfl) (by kernel_rfl); (conv => whnf); fail_if_success (show False)) | ((refine CallA.scalar (SContains_call _ (g.funs.take c) g.funs[c]) ?_; rw [decide_eq_false hx]))) <;> (conv => whnf))
      (refine' ⟨c + 1, _, _, _⟩; rotate_right; (refine SubA.auto rfl rfl rfl rfl ?_ ?_ <;> repeat' (first | exact trivial | refine And.intro ?_ ?_ | with_reducible rfl | (refine pIEq ?_; (first | omega | (simp only [lenS] at *; omega) | grind)) | (refine bufMap ?_) | (refine bufNil ?_) | (refine bufEq ?_) | rfl)); rotate_right; (first | omega | (simp only []; omega) | (simp; omega) | (first | omega | (simp only [lenS] at *; omega) | grind)))
      refine ⟨by omega, fun k h hk => ?_⟩
      rcases Nat.lt_or_ge k c with h3 | h3
      · exact hall k h h3
      · obtain rfl : k = c := by omega
        exact hx
  · have h5 : ¬ dupF g.funs := fun ⟨k, hk, h⟩ => hall k hk (by omega) h
    have e : groupE n g = 0 := by unfold groupE; rw [if_neg h9, if_neg (by omega), if_neg h2, if_neg h12, if_neg h1, if_neg h5]
    (conv => whnf); repeat' ((first | apply CondA.plain | refine' go_pin2 | (apply DrawA.quiet (by kernel_rfl) (by kernel_rfl); (conv => whnf); fail_if_success (show False))) <;> (conv => whnf))
    (refine RetK.p ?_ <;> repeat' (first | exact trivial | refine And.intro ?_ ?_ | with_reducible rfl | (refine pIEq ?_; (first | omega | (simp only [lenS] at *; omega) | grind)) | (refine bufMap ?_) | (refine bufNil ?_) | (refine bufEq ?_) | rfl); all_goals try first | refine pBEq ?_ | refine pIEq ?_)
    exact e.symm
end Go.Proofs.Ytcemickjholnaaa
