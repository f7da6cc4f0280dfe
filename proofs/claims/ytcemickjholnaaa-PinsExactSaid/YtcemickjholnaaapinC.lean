/- Pinouts: what owners are. -/
import Derived.Test.Ytcemickjholnaaapin8
namespace Go.Proofs.Ytcemickjholnaaa
set_option linter.unusedSimpArgs false
set_option linter.unusedVariables false
set_option linter.unnecessarySimpa false
open Go.Abs
/-- The pins of a group. -/
def pinsOf (gs : List Grp) (v : Int) : List Int := (gs.getD v.toNat default).pins
theorem inc_lt {l : List Int} (hi : incP l) : ∀ j, (hj : j < l.length) → ∀ i, (h : i < j) → l[i] < l[j]
  | 0, _, i, h => absurd h (by omega)
  | j + 1, hj, i, h => by
    have h2 := hi (j + 1) hj (by omega)
    have e : l[j + 1 - 1] = l[j] := rfl
    rw [e] at h2
    rcases Nat.lt_or_ge i j with h3 | h3
    · have := inc_lt hi j (by omega) i h3
      omega
    · obtain rfl : i = j := by omega
      exact h2
theorem inc_nd {l : List Int} (hi : incP l) : l.Pairwise (· ≠ ·) := by
  rw [List.pairwise_iff_getElem]
  intro i j h1 h2 h e
  have := inc_lt hi j h2 i h
  omega
theorem setD_same {o : List Int} {k : Nat} {v : Int} (h : k < o.length) : (o.set k v).getD k (-1) = v := by
  rw [List.getD_eq_getElem?_getD, List.getElem?_set_self h]; rfl
theorem setD_ne {o : List Int} {k i : Nat} {v : Int} (h : k ≠ i) : (o.set k v).getD i (-1) = o.getD i (-1) := by
  rw [List.getD_eq_getElem?_getD, List.getElem?_set_ne h, ← List.getD_eq_getElem?_getD]
/-- The number of free pins. -/
def nfree (o : List Int) : Nat := o.countP fun x => decide (x < 0)
theorem nfree_set {o : List Int} {k : Nat} {v : Int} (hk : k < o.length) (h : o.getD k (-1) = -1) (hv : 0 ≤ v) : nfree (o.set k v) + 1 = nfree o := by
  have e : o[k] = -1 := by
    rw [List.getD_eq_getElem?_getD, List.getElem?_eq_getElem hk] at h
    exact h
  unfold nfree
  rw [List.countP_set hk, e, if_pos (by decide), if_neg (by simp; omega), Nat.add_zero]
  have : 0 < o.countP fun x => decide (x < 0) := List.countP_pos_iff.2 ⟨o[k], List.getElem_mem hk, by rw [e]; decide⟩
  omega
/-- The pins of a group get their owner. -/
theorem setOwn_spec {v : Int} (hv : 0 ≤ v) : ∀ {ps o : List Int}, ps.Pairwise (· ≠ ·) → (∀ x ∈ ps, 0 ≤ x ∧ x < o.length) →
    (∃ x ∈ ps, o.getD x.toNat (-1) ≠ -1) ∧ setOwn v ps o = none ∨ (∀ x ∈ ps, o.getD x.toNat (-1) = -1) ∧ ∃ o', setOwn v ps o = some o' ∧ o'.length = o.length ∧ (∀ x ∈ ps, o'.getD x.toNat (-1) = v) ∧ (∀ i : Nat, (i : Int) ∉ ps → o'.getD i (-1) = o.getD i (-1)) ∧ nfree o' + ps.length = nfree o
  | [], o, _, _ => .inr ⟨fun x hx => (by cases hx), o, rfl, rfl, fun x hx => (by cases hx), fun _ _ => rfl, rfl⟩
  | x :: ps, o, hp, hr => by
    obtain ⟨hx0, hx1⟩ := hr x List.mem_cons_self
    rcases Decidable.em (o.getD x.toNat (-1) = -1) with h | h
    · have hnd := List.pairwise_cons.1 hp
      have hcase := setOwn_spec hv (ps := ps) (o := o.set x.toNat v) hnd.2 (fun y hy => by
        have := hr y (List.mem_cons_of_mem _ hy)
        rw [List.length_set]; exact this)
      have hk : x.toNat < o.length := by omega
      have hother : ∀ y ∈ ps, (o.set x.toNat v).getD y.toNat (-1) = o.getD y.toNat (-1) := fun y hy => by
        have h1 := hnd.1 y hy
        have h2 := hr y (List.mem_cons_of_mem _ hy)
        exact setD_ne (by omega)
      rw [setOwn, if_neg (by simpa using h)]
      rcases hcase with ⟨⟨y, hy, h3⟩, h4⟩ | ⟨h3, o', h4, h5, h6, h7, h8⟩
      · exact .inl ⟨⟨y, List.mem_cons_of_mem _ hy, by rw [← hother y hy]; exact h3⟩, h4⟩
      · refine .inr ⟨fun y hy => ?_, o', h4, by rw [h5, List.length_set], fun y hy => ?_, fun i hi => ?_, ?_⟩
        · rcases List.mem_cons.1 hy with rfl | hy
          · exact h
          · rw [← hother y hy]; exact h3 y hy
        · rcases List.mem_cons.1 hy with rfl | hy
          · have hyn : ((y.toNat : Nat) : Int) ∉ ps := fun hm => by
              have := hnd.1 _ hm
              omega
            rw [h7 _ hyn, setD_same hk]
          · exact h6 y hy
        · have hi2 : (i : Int) ≠ x := fun e => hi (by rw [e]; exact List.mem_cons_self)
          rw [h7 i (fun hm => hi (List.mem_cons_of_mem _ hm)), setD_ne (by omega)]
        · have := nfree_set hk h hv
          rw [List.length_cons]; omega
    · exact .inl ⟨⟨x, List.mem_cons_self, h⟩, by rw [setOwn, if_pos h]⟩
/-- Uses that can be together. -/
def Apart (gs : List Grp) (a b : Us) : Prop := a.g ≠ b.g ∧ ∀ x ∈ pinsOf gs a.g, x ∉ pinsOf gs b.g
structure OwnS (gs : List Grp) (n : Nat) (us : List Us) (o0 o : List Int) : Prop where
  len : o.length = n
  own : ∀ u ∈ us, ∀ x ∈ pinsOf gs u.g, o.getD x.toNat (-1) = u.g
  oth : ∀ i : Nat, (∀ u ∈ us, (i : Int) ∉ pinsOf gs u.g) → o.getD i (-1) = o0.getD i (-1)
  cnt : nfree o + (us.map fun u => (pinsOf gs u.g).length).sum = nfree o0
theorem good_ps {p : Pin} (hP : VP p) {u : Us} (hb : ¬ badU p.gs u) : 0 ≤ u.g ∧ u.g < p.gs.length ∧ (pinsOf p.gs u.g).Pairwise (· ≠ ·) ∧ (∀ x ∈ pinsOf p.gs u.g, 0 ≤ x ∧ x < p.n) ∧ pinsOf p.gs u.g ≠ [] := by
  unfold badU at hb
  have h1 : u.g.toNat < p.gs.length := by omega
  have hg := hP.ok _ (List.getElem_mem h1)
  rw [← gs_getD h1] at hg
  exact ⟨by omega, by omega, inc_nd hg.inc, hg.rng, hg.pne⟩
theorem ownG_spec {p : Pin} (hP : VP p) : ∀ (us : List Us) (seen o : List Int), (o.length : Int) = p.n →
    ((ownG p.gs us seen o).2 = 0 ↔ (∀ u ∈ us, ¬ badU p.gs u ∧ u.g ∉ seen ∧ ∀ x ∈ pinsOf p.gs u.g, o.getD x.toNat (-1) = -1) ∧ us.Pairwise (Apart p.gs)) ∧
    ((ownG p.gs us seen o).2 = 0 → OwnS p.gs p.n.toNat us o (ownG p.gs us seen o).1)
  | [], seen, o, ho => by
    refine ⟨⟨fun _ => ⟨fun u hu => (by cases hu), List.Pairwise.nil⟩, fun _ => rfl⟩, fun _ => ⟨by show o.length = _; omega, fun u hu => (by cases hu), fun _ _ => rfl, rfl⟩⟩
  | u :: r, seen, o, ho => by
    rw [ownG]
    rcases Decidable.em (badU p.gs u) with hb | hb
    · rw [if_pos hb]
      exact ⟨⟨fun h => (by cases h), fun h => absurd hb (h.1 u List.mem_cons_self).1⟩, fun h => (by cases h)⟩
    rw [if_neg hb]
    rcases Decidable.em (u.g ∈ seen) with hs | hs
    · rw [if_pos hs]
      exact ⟨⟨fun h => (by cases h), fun h => absurd hs (h.1 u List.mem_cons_self).2.1⟩, fun h => (by cases h)⟩
    rw [if_neg hs]
    obtain ⟨hg0, hg1, hnd, hrng, hne⟩ := good_ps hP hb
    have hset := setOwn_spec hg0 (o := o) hnd (fun x hx => by have := hrng x hx; omega)
    rcases hset with ⟨⟨x, hx, h3⟩, h4⟩ | ⟨h3, o', h4, h5, h6, h7, h8⟩
    · have h4' : setOwn u.g (p.gs.getD u.g.toNat default).pins o = none := h4
      rw [h4']
      exact ⟨⟨fun h => (by cases h), fun h => absurd ((h.1 u List.mem_cons_self).2.2 x hx) h3⟩, fun h => (by cases h)⟩
    · have h4' : setOwn u.g (p.gs.getD u.g.toNat default).pins o = some o' := h4
      rw [h4']
      obtain ⟨k1, k2⟩ := ownG_spec hP r (seen ++ [u.g]) o' (by omega)
      dsimp only
      constructor
      · rw [k1, List.pairwise_cons]
        constructor
        · rintro ⟨a1, a2⟩
          have hap : ∀ w ∈ r, Apart p.gs u w := fun w hw => by
            obtain ⟨b1, b2, b3⟩ := a1 w hw
            refine ⟨fun e => b2 (List.mem_append_right _ (List.mem_singleton.2 e.symm)), fun x hx hx2 => ?_⟩
            have h9 := b3 x hx2
            have h10 := h6 x hx
            omega
          refine ⟨fun w hw => ?_, hap, a2⟩
          rcases List.mem_cons.1 hw with rfl | hw
          · exact ⟨hb, hs, h3⟩
          · obtain ⟨b1, b2, b3⟩ := a1 w hw
            refine ⟨b1, fun hm => b2 (List.mem_append_left _ hm), fun x hx => ?_⟩
            have hx0 := (good_ps hP b1).2.2.2.1 x hx
            have h9 : ((x.toNat : Nat) : Int) ∉ pinsOf p.gs u.g := fun hm => (hap w hw).2 _ hm (by rw [Int.toNat_of_nonneg hx0.1]; exact hx)
            rw [← h7 _ h9]
            exact b3 x hx
        · rintro ⟨a1, a2, a3⟩
          refine ⟨fun w hw => ?_, a3⟩
          obtain ⟨b1, b2, b3⟩ := a1 w (List.mem_cons_of_mem _ hw)
          refine ⟨b1, fun hm => ?_, fun x hx => ?_⟩
          · rcases List.mem_append.1 hm with hm | hm
            · exact b2 hm
            · exact (a2 w hw).1 (List.mem_singleton.1 hm).symm
          · have hx0 := (good_ps hP b1).2.2.2.1 x hx
            have h9 : ((x.toNat : Nat) : Int) ∉ pinsOf p.gs u.g := fun hm => (a2 w hw).2 _ hm (by rw [Int.toNat_of_nonneg hx0.1]; exact hx)
            rw [h7 _ h9]
            exact b3 x hx
      · intro hz
        obtain ⟨c1, c2, c3, c4⟩ := k2 hz
        have hall := k1.1 hz
        refine ⟨c1, fun w hw x hx => ?_, fun i hi => ?_, ?_⟩
        · rcases List.mem_cons.1 hw with rfl | hw
          · have hx0 := hrng x hx
            rw [c3 x.toNat fun w2 hw2 hm => ?_]
            · exact h6 x hx
            · rw [Int.toNat_of_nonneg hx0.1] at hm
              have h9 := (hall.1 w2 hw2).2.2 x hm
              have h10 := h6 x hx
              omega
          · exact c2 w hw x hx
        · rw [c3 i fun w hw => hi w (List.mem_cons_of_mem _ hw), h7 i (hi u List.mem_cons_self)]
        · rw [List.map_cons, List.sum_cons]
          show _ + ((pinsOf p.gs u.g).length + _) = _
          omega
/-- Uses that have owners. -/
def Goods (p : Pin) (us : List Us) : Prop := (∀ u ∈ us, ¬ badU p.gs u) ∧ us.Pairwise (Apart p.gs)
theorem repl_getD (n i : Nat) : (List.replicate n (-1 : Int)).getD i (-1) = -1 := by
  rw [List.getD_eq_getElem?_getD, List.getElem?_replicate]
  split <;> rfl
theorem nfree_repl (n : Nat) : nfree (List.replicate n (-1)) = n := by
  unfold nfree
  rw [List.countP_replicate, if_pos (by decide)]
theorem owners_ok {p : Pin} (hP : VP p) {us : List Us} : (ownersF p us).2 = 0 ↔ Goods p us := by
  have hn := hP.n
  rw [ownersF, if_pos (valid_mk hP), (ownG_spec hP us [] _ (by rw [List.length_replicate]; omega)).1]
  exact ⟨fun h => ⟨fun u hu => (h.1 u hu).1, h.2⟩, fun h => ⟨fun u hu => ⟨h.1 u hu, fun hm => (by cases hm), fun x _ => repl_getD _ _⟩, h.2⟩⟩
theorem owners_spec {p : Pin} (hP : VP p) {us : List Us} (h : Goods p us) : OwnS p.gs p.n.toNat us (List.replicate p.n.toNat (-1)) (ownersF p us).1 := by
  have hn := hP.n
  have h2 := (owners_ok hP).2 h
  rw [ownersF, if_pos (valid_mk hP)] at h2 ⊢
  exact (ownG_spec hP us [] _ (by rw [List.length_replicate]; omega)).2 h2
theorem owners_free {p : Pin} (hP : VP p) {us : List Us} (h : Goods p us) {i : Nat} (hi : ∀ u ∈ us, (i : Int) ∉ pinsOf p.gs u.g) : (ownersF p us).1.getD i (-1) = -1 := by
  rw [(owners_spec hP h).oth i hi, repl_getD]
/-- The numbers of the free pins. -/
theorem freeG_count (o : List Int) : ∀ c, c ≤ o.length → (freeG o c).length = nfree (o.take c)
  | 0, _ => rfl
  | c + 1, h => by
    have ih := freeG_count o c (by omega)
    have hd : o.getD c 0 = o[c] := by rw [List.getD_eq_getElem?_getD, List.getElem?_eq_getElem (by omega)]; rfl
    rw [freeG_succ, List.length_append, ih, List.take_succ_eq_append_getElem (by omega), hd]
    unfold nfree
    rw [List.countP_append, List.countP_cons, List.countP_nil]
    by_cases h2 : o[c] < 0
    · rw [if_pos h2, if_pos (decide_eq_true h2)]; rfl
    · rw [if_neg h2, if_neg (by simpa using h2)]; rfl
theorem free_len {p : Pin} {us : List Us} (h : (ownersF p us).2 = 0) : (freeF p us).length = nfree (ownersF p us).1 := by
  rw [freeF, if_pos h, freeG_count _ _ (Nat.le_refl _), List.take_length]
theorem free_mem {p : Pin} (hP : VP p) {us : List Us} (h : Goods p us) {x : Int} : x ∈ freeF p us ↔ 0 ≤ x ∧ x < p.n ∧ ∀ u ∈ us, x ∉ pinsOf p.gs u.g := by
  have hs := owners_spec hP h
  have hl := hs.len
  have hn := hP.n
  rw [freeF, if_pos ((owners_ok hP).2 h)]
  unfold freeG
  rw [List.mem_map]
  constructor
  · rintro ⟨i, hi, rfl⟩
    have h1 := List.mem_filter.1 hi
    have h2 := List.mem_range.1 h1.1
    have h3 := of_decide_eq_true h1.2
    refine ⟨by omega, by omega, fun u hu hm => ?_⟩
    have h4 := hs.own u hu _ hm
    have h5 := (good_ps hP (h.1 u hu)).1
    rw [Int.toNat_natCast, List.getD_eq_getElem?_getD, List.getElem?_eq_getElem h2] at h4
    rw [List.getD_eq_getElem?_getD, List.getElem?_eq_getElem h2] at h3
    have h3 : (ownersF p us).1[i] < 0 := h3
    have h4 : (ownersF p us).1[i] = u.g := h4
    omega
  · rintro ⟨h0, h1, h2⟩
    refine ⟨x.toNat, List.mem_filter.2 ⟨List.mem_range.2 (by omega), ?_⟩, by omega⟩
    have h3 := owners_free hP h (i := x.toNat) (fun u hu => by rw [Int.toNat_of_nonneg h0]; exact h2 u hu)
    have h4 : x.toNat < (ownersF p us).1.length := by omega
    rw [List.getD_eq_getElem?_getD, List.getElem?_eq_getElem h4] at h3 ⊢
    have h3 : (ownersF p us).1[x.toNat] = -1 := h3
    show decide ((ownersF p us).1[x.toNat] < 0) = true
    rw [h3]; rfl
end Go.Proofs.Ytcemickjholnaaa
