/- Pinouts: what a valid one is; offers, names. -/
import Derived.Test.Ytcemickjholnaaapin4
namespace Go.Proofs.Ytcemickjholnaaa
set_option linter.unusedSimpArgs false
set_option linter.unusedVariables false
set_option linter.unnecessarySimpa false
open Go.Abs
set_option maxRecDepth 100000
structure GOK (n : Int) (g : Grp) : Prop where
  word : wordF g.name = true
  pne : g.pins ≠ []
  fne : g.funs ≠ []
  f8 : g.funs.length ≤ 8
  rng : ∀ x ∈ g.pins, 0 ≤ x ∧ x < n
  inc : incP g.pins
  words : ∀ x ∈ g.funs, wordF x = true
  nd : ¬ dupF g.funs
structure VP (p : Pin) : Prop where
  n : 0 ≤ p.n ∧ p.n ≤ 64
  len : p.gs.length ≤ 24
  ok : ∀ g ∈ p.gs, GOK p.n g
  names : ∀ i j, i < j → j < p.gs.length → (p.gs.getD i default).name ≠ (p.gs.getD j default).name
theorem groupE_zero {n : Int} {g : Grp} (h : groupE n g = 0) (hw : wordF g.name = true) : GOK n g := by
  unfold groupE at h
  split at h
  · cases h
  · split at h
    · cases h
    · split at h
      · cases h
      · split at h
        · cases h
        · split at h
          · cases h
          · split at h
            · cases h
            · rename_i h1 h2 h3 h4 h5 h6
              refine ⟨hw, fun e => h1 (.inl e), fun e => h1 (.inr e), by omega, fun x hx => ?_, Decidable.not_not.1 h4, fun x hx => ?_, h6⟩
              · refine Decidable.byContradiction fun hn => h3 ⟨x, hx, by omega⟩
              · cases hq : wordF x with
                | true => rfl
                | false => exact absurd ⟨x, hx, hq⟩ h5
theorem groupE_ok {n : Int} {g : Grp} (h : GOK n g) : groupE n g = 0 := by
  unfold groupE
  rw [if_neg (fun e => by rcases e with e | e; exact h.pne e; exact h.fne e), if_neg (by have := h.f8; omega), if_neg (fun ⟨x, hx, e⟩ => by have := h.rng x hx; omega), if_neg (fun e => e h.inc), if_neg (fun ⟨x, hx, e⟩ => by rw [h.words x hx] at e; cases e), if_neg h.nd]
theorem valid_of {p : Pin} (h : validP p = 0) : VP p := by
  unfold validP at h
  split at h
  · cases h
  · split at h
    · cases h
    · rename_i h1 h2
      have key : ∀ i, i < p.gs.length → gE p.n p.gs i = 0 := by
        intro i
        induction i using Nat.strongRecOn with
        | _ i ih =>
          intro hi
          refine Decidable.byContradiction fun hn => hn ?_
          have := firstE_at hi (fun j hj => ih j hj (by omega)) hn
          rw [this] at h
          exact h
      have at0 : ∀ i, i < p.gs.length → wordF (p.gs.getD i default).name = true ∧ (¬ ∃ k, k < i ∧ (p.gs.getD k default).name = (p.gs.getD i default).name) ∧ groupE p.n (p.gs.getD i default) = 0 := fun i hi => by
        have h3 := key i hi
        unfold gE at h3
        split at h3
        · cases h3
        · split at h3
          · cases h3
          · rename_i h4 h5
            exact ⟨by simpa using h4, h5, h3⟩
      refine ⟨by omega, by omega, fun g hg => ?_, fun i j hij hj e => (at0 j hj).2.1 ⟨i, hij, e⟩⟩
      obtain ⟨i, hi, rfl⟩ := List.getElem_of_mem hg
      obtain ⟨h4, _, h5⟩ := at0 i hi
      have e : p.gs.getD i default = p.gs[i] := by rw [List.getD_eq_getElem?_getD, List.getElem?_eq_getElem hi]; rfl
      rw [e] at h4 h5
      exact groupE_zero h5 h4
theorem valid_mk {p : Pin} (h : VP p) : validP p = 0 := by
  have hn := h.n
  refine validP_ok (by omega) (by have := h.len; omega) fun i hi => ?_
  have e : p.gs.getD i default = p.gs[i] := by rw [List.getD_eq_getElem?_getD, List.getElem?_eq_getElem hi]; rfl
  have hg := h.ok _ (List.getElem_mem hi)
  unfold gE
  rw [e, if_neg (by rw [hg.word]; simp), if_neg, groupE_ok hg]
  rintro ⟨k, hk, e2⟩
  exact h.names k i hk hi (by rw [e2, e])
theorem inc_ge {l : List Int} (hi : incP l) (h0 : ∀ x ∈ l, 0 ≤ x) : ∀ k, (h : k < l.length) → (k : Int) ≤ l[k]
  | 0, h => h0 _ (List.getElem_mem h)
  | k + 1, h => by
    have h1 := inc_ge hi h0 k (by omega)
    have h2 := hi (k + 1) h (by omega)
    have e : l[k + 1 - 1] = l[k] := rfl
    rw [e] at h2
    omega
theorem GOK.plen {n : Int} {g : Grp} (h : GOK n g) : (g.pins.length : Int) ≤ n := by
  have hp := List.length_pos_iff.2 h.pne
  have h1 := inc_ge h.inc (fun x hx => (h.rng x hx).1) (g.pins.length - 1) (by omega)
  have h2 := (h.rng _ (List.getElem_mem (show g.pins.length - 1 < g.pins.length by omega))).2
  omega
theorem gs_getD {p : Pin} {i : Nat} (h : i < p.gs.length) : p.gs.getD i default = p.gs[i] := by rw [List.getD_eq_getElem?_getD, List.getElem?_eq_getElem h]; rfl
/-- The groups that have a function, of the first ones. -/
def offG (gs : List Grp) (f : ByteArray) (c : Nat) : List Int := ((List.range c).filter fun i => decide (f ∈ (gs.getD i default).funs)).map fun (i : Nat) => (i : Int)
def offersF (p : Pin) (f : ByteArray) : List Int := if validP p = 0 then offG p.gs f p.gs.length else []
theorem offG_succ (gs : List Grp) (f : ByteArray) (c : Nat) : offG gs f (c + 1) = offG gs f c ++ (if f ∈ (gs.getD c default).funs then [(c : Int)] else []) := by
  unfold offG
  rw [List.range_succ, List.filter_append, List.map_append]
  congr 1
  by_cases h : f ∈ (gs.getD c default).funs
  · rw [if_pos h, List.filter_cons, if_pos (decide_eq_true h)]; rfl
  · rw [if_neg h, List.filter_cons, if_neg (by simpa using h)]; rfl
theorem offG_len (gs : List Grp) (f : ByteArray) (c : Nat) : (offG gs f c).length ≤ c := by
  unfold offG
  rw [List.length_map]
  exact Nat.le_trans (List.length_filter_le _ _) (by simp)
/-- Kept for later: a goal of a walk's step. -/
theorem park_pin5 {P : Prop} (x : P) (_ : x = x) : P := x
/-- One step of a walk. -/
theorem go_pin5 {P : Prop} (h : P := by
  (first | ((first | apply LenA.map | apply NilA.map | apply NilA.mk); intro _) | ((first | apply NW.as | apply ValA.as); with_reducible assumption) | ((first | apply NW.i64 | apply NW.u32 | apply NW.u64 | apply NW.u8 | apply InA.nat | apply InA.map | apply AppA.snoc (f := pI) (a := _) rfl | apply AppA.one (f := pI) (a := _) rfl | apply AppA.snoc (f := pB) (a := _) rfl | apply AppA.one (f := pB) (a := _) rfl | apply AppA.snoc (f := pS) (a := _) rfl | apply AppA.one (f := pS) (a := _) rfl | apply AppA.map | apply AppA.nil | apply CutA.lo | apply CutA.hi); (first | omega | (simp only [lenS] at *; omega) | grind)) | ((first | (apply RemA.as; assumption) | apply RemA.self); (first | omega | (simp only [lenS] at *; omega) | grind)) | (apply ValA.as; assumption) | apply ValA.self | (apply NW.as; assumption) | (apply SzA.map; (intro _; rfl)) | with_reducible apply br_pt | with_reducible apply br_pf | with_reducible apply br_mt | with_reducible apply br_mf | apply Both.mk | ((first | apply br_T | apply br_F | apply br_mT | apply br_mF); assumption) | ((first | apply br_lss | apply br_leq | apply br_gtr | apply br_geq | apply br_dec | apply br_beq | apply br_bne | apply br_beqB | apply br_bneB | apply br_not | apply br_m | apply br_intro) <;> intro h0 <;> first | (exfalso; first | omega | exact tf h0 (by assumption) | exact tf (by assumption) h0 | exact h0 (by assumption) | exact h0 rfl | exact of_decide_eq_false h0 rfl) | skip) | refine ArrA.mk _ rfl rfl ?_ | (apply IdxA.lit; omega; exact rfl) | ((first | apply IdxA.of_nat | (apply IdxA.of_map; (first | omega | (simp only [lenS] at *; omega) | grind))); rotate_left; (first | omega | (simp only [lenS] at *; omega) | grind)) | apply AppC.own | apply CutO.part | apply IsL.set (f := pI) (a := _) rfl | apply IsL.rep (f := pI) (a := _) rfl | apply IsL.set (f := pB) (a := _) rfl | apply IsL.rep (f := pB) (a := _) rfl | apply IsL.set (f := pS) (a := _) rfl | apply IsL.rep (f := pS) (a := _) rfl | apply IsL.lit (f := pI) [] rfl | apply IsL.lit (f := pI) [_] rfl | apply IsL.lit (f := pB) [] rfl | apply IsL.lit (f := pB) [_] rfl | apply IsL.lit (f := pS) [] rfl | apply IsL.lit (f := pS) [_] rfl | (apply And.intro; (first | with_reducible rfl | (show (_ : AV) = _; rfl) | (first | omega | (simp only [lenS] at *; omega) | grind)))) <;> (solve_by_elim (newGoals := .nonDependentOnly) (symm := false) (exfalso := false) (transparency := .reducible) only [rfl, park_pin5])) : P := h
theorem Offers_call (p : Pin) (f : ByteArray) : Pure Try.prog 13 [.p p.pv, .p (pS f)] (R1 pI (offersF p f)) := by
  refine acall_enter Try.func13 rfl rfl tabOK rfl ?_
  rcases Decidable.em (validP p = 0) with hv | hv
  rotate_left
  · have e : offersF p f = [] := by rw [offersF, if_neg hv]
    rw [e]
    (conv => whnf); repeat' ((first | apply CondA.plain | refine' go_pin5 | (apply DrawA.quiet (by kernel_rfl) (by kernel_rfl); (conv => whnf); fail_if_success (show False)) | (refine CallA.scalar (pValid_call p) ?_)) <;> (conv => whnf))
    (first | (apply RetK.r1; exact rfl; exact (fun _ => flat_ofB rfl)) | apply RetK.r1n | (apply RetK.r2; exact rfl; exact (fun _ => flat_ofB rfl)) | apply RetK.r2n | (apply RetK.r3; exact rfl; exact (fun _ => flat_ofB rfl)) | apply RetK.r3n) <;> rfl
  have hP := valid_of hv
  have h24 := hP.len
  have e : offersF p f = offG p.gs f p.gs.length := by rw [offersF, if_pos hv]
  rw [e]
  (conv => whnf); repeat' ((first | apply CondA.plain | refine' go_pin5 | (apply DrawA.quiet (by kernel_rfl) (by kernel_rfl); (conv => whnf); fail_if_success (show False)) | ((refine CallA.scalar (pValid_call p) ?_; rw [hv]))) <;> (conv => whnf))
  refine loop_rule (fun (⟨c, nb, o⟩ : Nat × Bool × List Int) => ⟨[(1, .p (pS f)), (5, .buf 0), (12, .p (.list p.nl (p.gs.map Grp.pv))), (13, .p (pI p.gs.length)), (14, .p (pI c))], [some (AO.buf 3 nb (o.map pI))]⟩) (fun (⟨c, nb, o⟩ : Nat × Bool × List Int) => c ≤ p.gs.length ∧ o = offG p.gs f c) (fun (⟨c, nb, o⟩ : Nat × Bool × List Int) => p.gs.length - c) (0, true, []) ?_ ?_ ?_; (refine SubA.auto1 (3, 5) rfl rfl rfl rfl rfl ?_ ?_ <;> repeat' (first | exact trivial | refine And.intro ?_ ?_ | with_reducible rfl | (refine pIEq ?_; (first | omega | (simp only [lenS] at *; omega) | grind)) | (refine bufMap ?_) | (refine bufNil ?_) | (refine bufEq ?_) | rfl))
  · exact ⟨Nat.zero_le _, rfl⟩
  rintro ⟨c, nb, o⟩ ⟨hc, ho⟩
  have hol : o.length ≤ c := by rw [ho]; exact offG_len _ _ _
  rcases Nat.lt_or_ge c p.gs.length with hlt | hge
  · have hs := offG_succ p.gs f c
    rw [gs_getD hlt, ← ho] at hs
    obtain ⟨g, hg⟩ : ∃ g, p.gs[c] = g := ⟨_, rfl⟩
    have hg1 : p.gs[((c : Nat) : Int).toNat]? = some g := by rw [Int.toNat_natCast, List.getElem?_eq_getElem hlt, hg]
    have hc0 : (0 : Int) ≤ (c : Nat) := Int.natCast_nonneg c
    rw [hg] at hs
    rcases Decidable.em (f ∈ g.funs) with hx | hx
    · rw [if_pos hx] at hs
      (conv => whnf); repeat' ((first | (apply IdxA.at_ (f := Grp.pv) g hc0 hg1) | apply CondA.plain | refine' go_pin5 | (apply DrawA.quiet (by kernel_rfl) (by kernel_rfl); (conv => whnf); fail_if_success (show False)) | ((refine CallA.scalar (SContains_call _ g.funs f) ?_; rw [decide_eq_true hx]))) <;> (conv => whnf))
      (refine' ⟨(c + 1, false, o ++ [(c : Int)]), _, _, _⟩; rotate_right; (refine SubA.auto rfl rfl rfl rfl ?_ ?_ <;> repeat' (first | exact trivial | refine And.intro ?_ ?_ | with_reducible rfl | (refine pIEq ?_; (first | omega | (simp only [lenS] at *; omega) | grind)) | (refine bufMap ?_) | (refine bufNil ?_) | (refine bufEq ?_) | rfl)); rotate_right; (first | omega | (simp only []; omega) | (simp; omega) | (first | omega | (simp only [lenS] at *; omega) | grind)))
      exact ⟨by omega, hs.symm⟩
    · rw [if_neg hx, List.append_nil] at hs
      (conv => whnf); repeat' ((first | (apply IdxA.at_ (f := Grp.pv) g hc0 hg1) | apply CondA.plain | refine' go_pin5 | (apply DrawA.quiet (by kernel_rfl) (by kernel_rfl); (conv => whnf); fail_if_success (show False)) | ((refine CallA.scalar (SContains_call _ g.funs f) ?_; rw [decide_eq_false hx]))) <;> (conv => whnf))
      (refine' ⟨(c + 1, nb, o), _, _, _⟩; rotate_right; (refine SubA.auto rfl rfl rfl rfl ?_ ?_ <;> repeat' (first | exact trivial | refine And.intro ?_ ?_ | with_reducible rfl | (refine pIEq ?_; (first | omega | (simp only [lenS] at *; omega) | grind)) | (refine bufMap ?_) | (refine bufNil ?_) | (refine bufEq ?_) | rfl)); rotate_right; (first | omega | (simp only []; omega) | (simp; omega) | (first | omega | (simp only [lenS] at *; omega) | grind)))
      exact ⟨by omega, hs.symm⟩
  · obtain rfl : c = p.gs.length := by omega
    rw [← ho]
    (conv => whnf); repeat' ((first | apply CondA.plain | refine' go_pin5 | (apply DrawA.quiet (by kernel_rfl) (by kernel_rfl); (conv => whnf); fail_if_success (show False))) <;> (conv => whnf))
    (first | (apply RetK.r1; exact rfl; exact (fun _ => flat_ofB rfl)) | apply RetK.r1n | (apply RetK.r2; exact rfl; exact (fun _ => flat_ofB rfl)) | apply RetK.r2n | (apply RetK.r3; exact rfl; exact (fun _ => flat_ofB rfl)) | apply RetK.r3n) <;> rfl
/-- The place of a string in a list; -1: it is not there. -/
def idxS (xs : List ByteArray) (x : ByteArray) : Int := if x ∈ xs then (xs.idxOf x : Int) else -1
theorem idxS_at {xs : List ByteArray} {x : ByteArray} {c : Nat} (h : c < xs.length) (he : xs[c] = x) (hn : x ∉ xs.take c) : idxS xs x = c := by
  have hm : x ∈ xs := by rw [← he]; exact List.getElem_mem _
  have e : xs = xs.take c ++ x :: xs.drop (c + 1) := by rw [← he, ← List.drop_eq_getElem_cons h, List.take_append_drop]
  rw [idxS, if_pos hm]
  have : xs.idxOf x = c := by
    rw [e, List.idxOf_append, if_neg hn]
    simp
    omega
  rw [this]
theorem idxS_none {xs : List ByteArray} {x : ByteArray} (h : x ∉ xs) : idxS xs x = -1 := by rw [idxS, if_neg h]
theorem idxS_ge {xs : List ByteArray} {x : ByteArray} : 0 ≤ idxS xs x ↔ x ∈ xs := by
  unfold idxS
  split
  · rename_i h
    exact ⟨fun _ => h, fun _ => Int.natCast_nonneg _⟩
  · rename_i h
    exact ⟨fun h2 => by omega, fun h2 => absurd h2 h⟩
theorem At_call (g : Grp) (f : ByteArray) : ACall Try.prog 15 [.p g.pv, .p (pS f)] [] fun r H => r = .p (pI (idxS g.funs f)) ∧ H = [] := by
  refine acall_enter Try.func15 rfl rfl tabOK rfl ?_
  (conv => whnf); repeat' ((first | apply CondA.plain | refine' go_pin5 | (apply DrawA.quiet (by kernel_rfl) (by kernel_rfl); (conv => whnf); fail_if_success (show False))) <;> (conv => whnf))
  refine loop_rule (fun (c : Nat) => ⟨[(1, .p (pS f)), (2, .ptr 0 0), (5, .p (pI c))], [some (.cells [.p (pS g.name), .p (.list g.pn (g.pins.map pI)), .p (.list g.fn (g.funs.map pS))])]⟩) (fun (c : Nat) => c ≤ g.funs.length ∧ f ∉ g.funs.take c) (fun (c : Nat) => g.funs.length - c) 0 ?_ ?_ ?_; (refine SubA.auto rfl rfl rfl rfl ?_ ?_ <;> repeat' (first | exact trivial | refine And.intro ?_ ?_ | with_reducible rfl | (refine pIEq ?_; (first | omega | (simp only [lenS] at *; omega) | grind)) | (refine bufMap ?_) | (refine bufNil ?_) | (refine bufEq ?_) | rfl))
  · exact ⟨Nat.zero_le _, by simp⟩
  rintro c ⟨hc, hn⟩
  rcases Nat.lt_or_ge c g.funs.length with hlt | hge
  · have hq := seq_eq g.funs[c] f
    rcases Decidable.em (g.funs[c] = f) with he | he
    · rw [decide_eq_true he] at hq
      have e := idxS_at hlt he hn
      (conv => whnf); repeat' ((first | apply CondA.plain | refine' go_pin5 | (apply DrawA.quiet (by kernel_rfl) (by kernel_rfl); (conv => whnf); fail_if_success (show False))) <;> (conv => whnf))
      (refine RetK.p ?_ <;> repeat' (first | exact trivial | refine And.intro ?_ ?_ | with_reducible rfl | (refine pIEq ?_; (first | omega | (simp only [lenS] at *; omega) | grind)) | (refine bufMap ?_) | (refine bufNil ?_) | (refine bufEq ?_) | rfl); all_goals try first | refine pBEq ?_ | refine pIEq ?_)
      exact e.symm
    · rw [decide_eq_false he] at hq
      (conv => whnf); repeat' ((first | apply CondA.plain | refine' go_pin5 | (apply DrawA.quiet (by kernel_rfl) (by kernel_rfl); (conv => whnf); fail_if_success (show False))) <;> (conv => whnf))
      (refine' ⟨c + 1, _, _, _⟩; rotate_right; (refine SubA.auto rfl rfl rfl rfl ?_ ?_ <;> repeat' (first | exact trivial | refine And.intro ?_ ?_ | with_reducible rfl | (refine pIEq ?_; (first | omega | (simp only [lenS] at *; omega) | grind)) | (refine bufMap ?_) | (refine bufNil ?_) | (refine bufEq ?_) | rfl)); rotate_right; (first | omega | (simp only []; omega) | (simp; omega) | (first | omega | (simp only [lenS] at *; omega) | grind)))
      refine ⟨by omega, ?_⟩
      rw [List.take_succ_eq_append_getElem hlt]
      intro h
      rcases List.mem_append.1 h with h | h
      · exact hn h
      · exact he (List.mem_singleton.1 h).symm
  · rw [List.take_of_length_le hge] at hn
    have e := idxS_none hn
    (conv => whnf); repeat' ((first | apply CondA.plain | refine' go_pin5 | (apply DrawA.quiet (by kernel_rfl) (by kernel_rfl); (conv => whnf); fail_if_success (show False))) <;> (conv => whnf))
    (refine RetK.p ?_ <;> repeat' (first | exact trivial | refine And.intro ?_ ?_ | with_reducible rfl | (refine pIEq ?_; (first | omega | (simp only [lenS] at *; omega) | grind)) | (refine bufMap ?_) | (refine bufNil ?_) | (refine bufEq ?_) | rfl); all_goals try first | refine pBEq ?_ | refine pIEq ?_)
    exact e.symm
theorem rOffers_call (p : Pin) (f : ByteArray) : Pure Try.prog 23 [.p p.pv, .p (pS f)] (R1 pI (offersF p f)) := by
  refine acall_enter Try.func23 rfl rfl tabOK rfl ?_
  rcases Decidable.em (validP p = 0) with hv | hv
  rotate_left
  · have e : offersF p f = [] := by rw [offersF, if_neg hv]
    rw [e]
    (conv => whnf); repeat' ((first | apply CondA.plain | refine' go_pin5 | (apply DrawA.quiet (by kernel_rfl) (by kernel_rfl); (conv => whnf); fail_if_success (show False)) | (refine CallA.scalar (rValid_call p) ?_)) <;> (conv => whnf))
    (first | (apply RetK.r1; exact rfl; exact (fun _ => flat_ofB rfl)) | apply RetK.r1n | (apply RetK.r2; exact rfl; exact (fun _ => flat_ofB rfl)) | apply RetK.r2n | (apply RetK.r3; exact rfl; exact (fun _ => flat_ofB rfl)) | apply RetK.r3n) <;> rfl
  have hP := valid_of hv
  have h24 := hP.len
  have e : offersF p f = offG p.gs f p.gs.length := by rw [offersF, if_pos hv]
  rw [e]
  (conv => whnf); repeat' ((first | apply CondA.plain | refine' go_pin5 | (apply DrawA.quiet (by kernel_rfl) (by kernel_rfl); (conv => whnf); fail_if_success (show False)) | ((refine CallA.scalar (rValid_call p) ?_; rw [hv]))) <;> (conv => whnf))
  refine loop_rule (fun (⟨c, nb, o⟩ : Nat × Bool × List Int) => ⟨[(1, .p (pS f)), (2, .ptr 0 0), (5, .buf 1), (6, .p (pI c))], [some (.cells [.p (pI p.n), .p (.list p.nl (p.gs.map Grp.pv))]), some (AO.buf 3 nb (o.map pI))]⟩) (fun (⟨c, nb, o⟩ : Nat × Bool × List Int) => c ≤ p.gs.length ∧ o = offG p.gs f c) (fun (⟨c, nb, o⟩ : Nat × Bool × List Int) => p.gs.length - c) (0, true, []) ?_ ?_ ?_; (refine SubA.auto1 (3, 5) rfl rfl rfl rfl rfl ?_ ?_ <;> repeat' (first | exact trivial | refine And.intro ?_ ?_ | with_reducible rfl | (refine pIEq ?_; (first | omega | (simp only [lenS] at *; omega) | grind)) | (refine bufMap ?_) | (refine bufNil ?_) | (refine bufEq ?_) | rfl))
  · exact ⟨Nat.zero_le _, rfl⟩
  rintro ⟨c, nb, o⟩ ⟨hc, ho⟩
  have hol : o.length ≤ c := by rw [ho]; exact offG_len _ _ _
  rcases Nat.lt_or_ge c p.gs.length with hlt | hge
  · have hs := offG_succ p.gs f c
    rw [gs_getD hlt, ← ho] at hs
    obtain ⟨g, hg⟩ : ∃ g, p.gs[c] = g := ⟨_, rfl⟩
    have hg1 : p.gs[((c : Nat) : Int).toNat]? = some g := by rw [Int.toNat_natCast, List.getElem?_eq_getElem hlt, hg]
    have hc0 : (0 : Int) ≤ (c : Nat) := Int.natCast_nonneg c
    rw [hg] at hs
    (conv => whnf); repeat' ((first | (apply IdxA.at_ (f := Grp.pv) g hc0 hg1) | apply CondA.plain | refine' go_pin5 | (apply DrawA.quiet (by kernel_rfl) (by kernel_rfl); (conv => whnf); fail_if_success (show False))) <;> (conv => whnf))
    refine CallA.loc [] [] rfl rfl ((At_call g f).mono ?_)
    rintro _ _ ⟨rfl, rfl⟩
    have hv2 := idxS_ge (xs := g.funs) (x := f)
    obtain ⟨v, hvv⟩ : ∃ v, idxS g.funs f = v := ⟨_, rfl⟩
    rw [hvv] at hv2
    rw [hvv]
    rcases Decidable.em (f ∈ g.funs) with hx | hx
    · rw [if_pos hx] at hs
      have := hv2.2 hx
      (conv => whnf); repeat' ((first | apply CondA.plain | refine' go_pin5 | (apply DrawA.quiet (by kernel_rfl) (by kernel_rfl); (conv => whnf); fail_if_success (show False))) <;> (conv => whnf))
      (refine' ⟨(c + 1, false, o ++ [(c : Int)]), _, _, _⟩; rotate_right; (refine SubA.auto rfl rfl rfl rfl ?_ ?_ <;> repeat' (first | exact trivial | refine And.intro ?_ ?_ | with_reducible rfl | (refine pIEq ?_; (first | omega | (simp only [lenS] at *; omega) | grind)) | (refine bufMap ?_) | (refine bufNil ?_) | (refine bufEq ?_) | rfl)); rotate_right; (first | omega | (simp only []; omega) | (simp; omega) | (first | omega | (simp only [lenS] at *; omega) | grind)))
      exact ⟨by omega, hs.symm⟩
    · rw [if_neg hx, List.append_nil] at hs
      have : v < 0 := Int.not_le.1 fun h => hx (hv2.1 h)
      (conv => whnf); repeat' ((first | apply CondA.plain | refine' go_pin5 | (apply DrawA.quiet (by kernel_rfl) (by kernel_rfl); (conv => whnf); fail_if_success (show False))) <;> (conv => whnf))
      (refine' ⟨(c + 1, nb, o), _, _, _⟩; rotate_right; (refine SubA.auto rfl rfl rfl rfl ?_ ?_ <;> repeat' (first | exact trivial | refine And.intro ?_ ?_ | with_reducible rfl | (refine pIEq ?_; (first | omega | (simp only [lenS] at *; omega) | grind)) | (refine bufMap ?_) | (refine bufNil ?_) | (refine bufEq ?_) | rfl)); rotate_right; (first | omega | (simp only []; omega) | (simp; omega) | (first | omega | (simp only [lenS] at *; omega) | grind)))
      exact ⟨by omega, hs.symm⟩
  · obtain rfl : c = p.gs.length := by omega
    rw [← ho]
    (conv => whnf); repeat' ((first | apply CondA.plain | refine' go_pin5 | (apply DrawA.quiet (by kernel_rfl) (by kernel_rfl); (conv => whnf); fail_if_success (show False))) <;> (conv => whnf))
    (first | (apply RetK.r1; exact rfl; exact (fun _ => flat_ofB rfl)) | apply RetK.r1n | (apply RetK.r2; exact rfl; exact (fun _ => flat_ofB rfl)) | apply RetK.r2n | (apply RetK.r3; exact rfl; exact (fun _ => flat_ofB rfl)) | apply RetK.r3n) <;> rfl
end Go.Proofs.Ytcemickjholnaaa
