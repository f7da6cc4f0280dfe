/- Reset lines: ways from one closed state to another; plain theory. -/
import Derived.Test.YtnafamlphnnmhaarsC
import Derived.Test.YtnafamlphnnmhaarsP
namespace Go.Proofs.Ytnafamlphnnmhaa
set_option linter.unusedSimpArgs false
set_option linter.unusedVariables false
set_option linter.unnecessarySimpa false
open Go.Abs
set_option maxRecDepth 100000
section
variable {l : List Rst} {a b : List Bool} {n : Nat}
def dnS (a b : List Bool) (n c : Nat) : List Bool := (List.range n).map fun j => a.getD j false && (b.getD j false || decide (j < c))
def upS (a b : List Bool) (n c : Nat) : List Bool := (List.range n).map fun j => b.getD j false && (a.getD j false || decide (j < c))
theorem dnS_len {c : Nat} : (dnS a b n c).length = n := by simp [dnS]
theorem upS_len {c : Nat} : (upS a b n c).length = n := by simp [upS]
theorem dnS_get {c j : Nat} (h : j < n) : (dnS a b n c).getD j false = (a.getD j false && (b.getD j false || decide (j < c))) := by simp [dnS, h]
theorem upS_get {c j : Nat} (h : j < n) : (upS a b n c).getD j false = (b.getD j false && (a.getD j false || decide (j < c))) := by simp [upS, h]
theorem getD_ext {s t : List Bool} (hl : s.length = t.length) (h : ∀ j, j < s.length → s.getD j false = t.getD j false) : s = t := by
  apply List.ext_getElem hl
  intro j h1 h2
  have := h j h1
  rwa [getD_at h1, getD_at h2] at this
theorem dnS_clo (hd : Down l) (ha : Clo l a) (hb : Clo l b) (c : Nat) : Clo l (dnS a b l.length c) := by
  refine ⟨dnS_len, fun i hi hs k hk => ?_⟩
  have hr := hd i hi _ (List.getElem_mem hk)
  rw [dnS_get hi, Bool.and_eq_true, Bool.or_eq_true, decide_eq_true_eq] at hs
  rw [dnS_get (by omega), ha.2 i hi hs.1 k hk]
  rcases hs.2 with h | h
  · rw [hb.2 i hi h k hk]; rfl
  · rw [decide_eq_true (by omega)]; simp
theorem upS_clo (hd : Down l) (ha : Clo l a) (hb : Clo l b) (c : Nat) : Clo l (upS a b l.length c) := by
  refine ⟨upS_len, fun i hi hs k hk => ?_⟩
  have hr := hd i hi _ (List.getElem_mem hk)
  rw [upS_get hi, Bool.and_eq_true, Bool.or_eq_true, decide_eq_true_eq] at hs
  rw [upS_get (by omega), hb.2 i hi hs.1 k hk]
  rcases hs.2 with h | h
  · rw [ha.2 i hi h k hk]; rfl
  · rw [decide_eq_true (by omega)]; simp
theorem dnS_all (ha : a.length = n) : dnS a b n n = a := by
  refine getD_ext (by rw [dnS_len, ha]) fun j hj => ?_
  rw [dnS_len] at hj
  rw [dnS_get hj, decide_eq_true hj]; simp
theorem upS_all (hb : b.length = n) : upS a b n n = b := by
  refine getD_ext (by rw [upS_len, hb]) fun j hj => ?_
  rw [upS_len] at hj
  rw [upS_get hj, decide_eq_true hj]; simp
theorem dn_up : dnS a b n 0 = upS a b n 0 := by
  refine getD_ext (by rw [upS_len, dnS_len]) fun j hj => ?_
  rw [dnS_len] at hj
  rw [dnS_get hj, upS_get hj]
  simp [Bool.and_comm]
theorem dnS_set {c : Nat} (hc : c < n) (h : offP a b c = true) : (dnS a b n (c + 1)).set c false = dnS a b n c := by
  refine getD_ext (by rw [List.length_set, dnS_len, dnS_len]) fun j hj => ?_
  rw [List.length_set, dnS_len] at hj
  rw [getD_at (by rw [List.length_set, dnS_len]; exact hj), List.getElem_set, dnS_get hj]
  simp only [offP, Bool.and_eq_true, Bool.not_eq_true'] at h
  split
  · rename_i e
    subst e
    rw [h.2, decide_eq_false (by omega)]; simp
  · rw [← getD_at (by rw [dnS_len]; exact hj), dnS_get hj]
    rcases Nat.lt_or_ge j c with g | g
    · rw [decide_eq_true g, decide_eq_true (by omega)]
    · rw [decide_eq_false (by omega), decide_eq_false (by omega)]
theorem dnS_skip {c : Nat} (hc : c < n) (h : offP a b c = false) : dnS a b n (c + 1) = dnS a b n c := by
  refine getD_ext (by rw [dnS_len, dnS_len]) fun j hj => ?_
  rw [dnS_len] at hj
  rw [dnS_get hj, dnS_get hj]
  by_cases e : j = c
  · subst e
    rw [decide_eq_true (by omega), decide_eq_false (by omega)]
    unfold offP at h
    cases h1 : a.getD j false <;> cases h2 : b.getD j false <;> simp_all
  · rcases Nat.lt_or_ge j c with g | g
    · rw [decide_eq_true g, decide_eq_true (by omega)]
    · rw [decide_eq_false (by omega), decide_eq_false (by omega)]
theorem upS_set {c : Nat} (hc : c < n) (h : offP b a c = true) : (upS a b n c).set c true = upS a b n (c + 1) := by
  refine getD_ext (by rw [List.length_set, upS_len, upS_len]) fun j hj => ?_
  rw [List.length_set, upS_len] at hj
  rw [getD_at (by rw [List.length_set, upS_len]; exact hj), List.getElem_set, upS_get hj]
  simp only [offP, Bool.and_eq_true, Bool.not_eq_true'] at h
  split
  · rename_i e
    subst e
    rw [h.1, decide_eq_true (by omega)]; simp
  · rw [← getD_at (by rw [upS_len]; exact hj), upS_get hj]
    rcases Nat.lt_or_ge j c with g | g
    · rw [decide_eq_true g, decide_eq_true (by omega)]
    · rw [decide_eq_false (by omega), decide_eq_false (by omega)]
theorem upS_skip {c : Nat} (hc : c < n) (h : offP b a c = false) : upS a b n (c + 1) = upS a b n c := by
  refine getD_ext (by rw [upS_len, upS_len]) fun j hj => ?_
  rw [upS_len] at hj
  rw [upS_get hj, upS_get hj]
  by_cases e : j = c
  · subst e
    rw [decide_eq_true (by omega), decide_eq_false (by omega)]
    unfold offP at h
    cases h1 : a.getD j false <;> cases h2 : b.getD j false <;> simp_all
  · rcases Nat.lt_or_ge j c with g | g
    · rw [decide_eq_true g, decide_eq_true (by omega)]
    · rw [decide_eq_false (by omega), decide_eq_false (by omega)]
theorem badW_ok {c : Nat} (h : c < l.length) {v : Int} (hv : v = 0 ∨ v = 1) : badW l ⟨11, c, v⟩ = false := by
  simp [badW]; omega
theorem apply_dn (hd : Down l) (ha : Clo l a) (hb : Clo l b) (R : List Wr) : ∀ (c : Nat) (m : Int), c ≤ l.length →
    applyF l (((List.range c).reverse.filter (offP a b)).map asW ++ R) (dnS a b l.length c) m = applyF l R (dnS a b l.length 0) (m + (((List.range c).reverse.filter (offP a b)).map asW).length)
  | 0, m, _ => by simp
  | c + 1, m, h => by
    have e : (List.range (c + 1)).reverse = c :: (List.range c).reverse := by rw [List.range_succ]; simp
    rw [e, List.filter_cons]
    cases hp : offP a b c with
    | true =>
      rw [if_pos rfl, List.map_cons, List.cons_append, applyF, show asW c = ⟨11, c, 0⟩ from rfl, badW_ok (by omega) (.inl rfl)]
      have hg : (dnS a b l.length (c + 1)).getD c false = true := by
        rw [dnS_get (by omega), decide_eq_true (by omega)]
        simp only [offP, Bool.and_eq_true] at hp
        rw [hp.1]; simp
      rw [if_neg (by simp)]
      dsimp only
      rw [show ((c : Int)).toNat = c from rfl, hg, if_neg (by simp), show ((0 : Int) == 1) = false from rfl, dnS_set (by omega) hp, if_pos (dnS_clo hd ha hb c), apply_dn hd ha hb R c _ (by omega)]
      congr 1
      simp only [List.length_cons]
      omega
    | false =>
      rw [if_neg (by simp), dnS_skip (by omega) hp]
      exact apply_dn hd ha hb R c m (by omega)
theorem apply_up (hd : Down l) (ha : Clo l a) (hb : Clo l b) (R : List Wr) : ∀ (d c : Nat) (m : Int), c + d = l.length →
    applyF l ((((List.range l.length).drop c).filter (offP b a)).map relW ++ R) (upS a b l.length c) m = applyF l R (upS a b l.length l.length) (m + ((((List.range l.length).drop c).filter (offP b a)).map relW).length)
  | 0, c, m, h => by
    rw [show c = l.length by omega, List.drop_of_length_le (by simp)]
    simp
  | d + 1, c, m, h => by
    have e : (List.range l.length).drop c = c :: (List.range l.length).drop (c + 1) := by
      rw [List.drop_eq_getElem_cons (by simp; omega)]; simp
    rw [e, List.filter_cons]
    cases hp : offP b a c with
    | true =>
      rw [if_pos rfl, List.map_cons, List.cons_append, applyF, show relW c = ⟨11, c, 1⟩ from rfl, badW_ok (by omega) (.inr rfl)]
      have hg : (upS a b l.length c).getD c false = false := by
        rw [upS_get (by omega), decide_eq_false (by omega)]
        simp only [offP, Bool.and_eq_true, Bool.not_eq_true'] at hp
        rw [hp.2]; simp
      rw [if_neg (by simp)]
      dsimp only
      rw [show ((c : Int)).toNat = c from rfl, hg, if_neg (by simp), show ((1 : Int) == 1) = true from rfl, upS_set (by omega) hp, if_pos (upS_clo hd ha hb (c + 1)), apply_up hd ha hb R d (c + 1) _ (by omega)]
      congr 1
      simp only [List.length_cons]
      omega
    | false =>
      rw [if_neg (by simp), ← upS_skip (by omega) hp]
      exact apply_up hd ha hb R d (c + 1) m (by omega)
/-- A plan leads where it should. -/
theorem apply_plan (hv : rstOk l = 0) (ha : Clo l a) (hb : Clo l b) : applyR l a (planL a b l.length) = ⟨b, (planL a b l.length).length, 0⟩ := by
  have hd := (rstOk_zero hv).2.1
  rw [applyR, if_pos hv, if_pos ha, planL]
  have e0 := apply_dn hd ha hb (((List.range l.length).filter (offP b a)).map relW) l.length 0 (Nat.le_refl _)
  rw [dnS_all ha.1] at e0
  rw [e0, dn_up]
  have := apply_up hd ha hb [] l.length 0 (0 + (((List.range l.length).reverse.filter (offP a b)).map asW).length) (by omega)
  rw [List.append_nil, List.drop_zero] at this
  rw [this, upS_all hb.1, applyF]
  simp
theorem apply_take : ∀ (w : List Wr) (s : List Bool) (m : Int) (i : Nat), (applyF l w s m).e = 0 → Clo l s → (applyF l (w.take i) s m).e = 0 ∧ Clo l (applyF l (w.take i) s m).st
  | w, s, m, 0, _, hs => by rw [List.take_zero, applyF]; exact ⟨rfl, hs⟩
  | [], s, m, i + 1, _, hs => by rw [List.take_nil, applyF]; exact ⟨rfl, hs⟩
  | x :: w, s, m, i + 1, h, hs => by
    rw [List.take_succ_cons, applyF]
    rw [applyF] at h
    split at h
    · cases h
    · rename_i h1
      rw [if_neg h1]
      split at h
      · cases h
      · rename_i h2
        rw [if_neg h2]
        split at h
        · rename_i h3
          rw [if_pos h3]
          exact apply_take w _ _ i h h3
        · cases h
/-- The state with what a line needs. -/
def orS (a x : List Bool) (n : Nat) : List Bool := (List.range n).map fun j => a.getD j false || x.getD j false
theorem orS_get {x : List Bool} {j : Nat} (h : j < n) : (orS a x n).getD j false = (a.getD j false || x.getD j false) := by simp [orS, h]
theorem orS_len {x : List Bool} : (orS a x n).length = n := by simp [orS]
theorem orS_clo {x : List Bool} (hd : Down l) (ha : Clo l a) (hx : Clo l x) : Clo l (orS a x l.length) := by
  refine ⟨orS_len, fun i hi hs k hk => ?_⟩
  have hr := hd i hi _ (List.getElem_mem hk)
  rw [orS_get hi, Bool.or_eq_true] at hs
  rw [orS_get (by omega)]
  rcases hs with h | h
  · rw [ha.2 i hi h k hk]; rfl
  · rw [hx.2 i hi h k hk]; simp
/-- The state without what needs a line. -/
def lessS (l : List Rst) (a : List Bool) (k : Nat) : List Bool := (List.range l.length).map fun j => a.getD j false && !abvB l k j
theorem lessS_get {k j : Nat} (h : j < l.length) : (lessS l a k).getD j false = (a.getD j false && !abvB l k j) := by simp [lessS, h]
theorem lessS_len {k : Nat} : (lessS l a k).length = l.length := by simp [lessS]
theorem lessS_clo (hd : Down l) (ha : Clo l a) {k : Nat} (hk : k < l.length) : Clo l (lessS l a k) := by
  refine ⟨lessS_len, fun i hi hs q hq => ?_⟩
  have hr := hd i hi _ (List.getElem_mem hq)
  rw [lessS_get hi, Bool.and_eq_true, Bool.not_eq_true'] at hs
  rw [lessS_get (by omega), ha.2 i hi hs.1 q hq]
  cases hb : abvB l k l[i].after[q].toNat with
  | false => rfl
  | true =>
    have h1 := (abvB_iff hd hk (by omega)).1 hb
    have h2 := (abvB_iff hd hk hi).2 (.cons (a := l[i].after[q].toNat) hi (Nat.zero_le _) (by rw [show ((l[i].after[q].toNat : Nat) : Int) = l[i].after[q] by omega]; exact List.getElem_mem hq) h1)
    rw [hs.2] at h2; cases h2
theorem need_clo (hv : rstOk l = 0) {k : Nat} (hk : k < l.length) : Clo l (needL l [(k : Int)]) := by
  have := ned_clo hv (inr_one hk)
  rwa [(ned_one hv hk).2] at this
theorem need_self (hd : Down l) {k : Nat} (hk : k < l.length) : (needL l [(k : Int)]).getD k false = true :=
  ((needL_spec hd (lines := [(k : Int)]) (by simp; omega)).2 k hk).2 ⟨k, by simp, .refl _⟩
theorem filter_congr' {P Q : Nat → Bool} {m : List Nat} (h : ∀ x ∈ m, P x = Q x) : m.filter P = m.filter Q := List.filter_congr h
theorem rel_plan (hv : rstOk l = 0) (ha : Clo l a) {k : Nat} (hk : k < l.length) : relL l a k = planL a (orS a (needL l [(k : Int)]) l.length) l.length := by
  rw [planL, relL]
  have e1 : (List.range l.length).reverse.filter (offP a (orS a (needL l [(k : Int)]) l.length)) = [] := List.filter_eq_nil_iff.2 fun x hx => by
    have hx' : x < l.length := List.mem_range.1 (List.mem_reverse.1 hx)
    rw [offP, orS_get hx']
    cases a.getD x false <;> simp
  rw [e1, List.map_nil, List.nil_append]
  congr 1
  refine filter_congr' fun x hx => ?_
  have hx' := List.mem_range.1 hx
  rw [relP, offP, orS_get hx']
  cases a.getD x false <;> simp
theorem as_plan (hv : rstOk l = 0) (ha : Clo l a) {k : Nat} (hk : k < l.length) : asL l a k = planL a (lessS l a k) l.length := by
  rw [planL, asL]
  have e1 : (List.range l.length).filter (offP (lessS l a k) a) = [] := List.filter_eq_nil_iff.2 fun x hx => by
    have hx' : x < l.length := List.mem_range.1 hx
    rw [offP, lessS_get hx']
    cases a.getD x false <;> simp
  rw [e1, List.map_nil, List.append_nil]
  congr 1
  refine filter_congr' fun x hx => ?_
  have hx' := List.mem_range.1 (List.mem_reverse.1 hx)
  rw [asP, offP, lessS_get hx']
  cases a.getD x false <;> cases abvB l k x <;> rfl
theorem rel_apply (hv : rstOk l = 0) (ha : Clo l a) {k : Nat} (hk : k < l.length) : applyR l a (relL l a k) = ⟨orS a (needL l [(k : Int)]) l.length, (relL l a k).length, 0⟩ := by
  rw [rel_plan hv ha hk]
  exact apply_plan hv ha (orS_clo (rstOk_zero hv).2.1 ha (need_clo hv hk))
theorem as_apply (hv : rstOk l = 0) (ha : Clo l a) {k : Nat} (hk : k < l.length) : applyR l a (asL l a k) = ⟨lessS l a k, (asL l a k).length, 0⟩ := by
  rw [as_plan hv ha hk]
  exact apply_plan hv ha (lessS_clo (rstOk_zero hv).2.1 ha hk)
end
end Go.Proofs.Ytnafamlphnnmhaa
