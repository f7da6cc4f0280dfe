/- Whatever the list of numbers, TopScales returns true, and its argument reads as it did; its package variables are tied to the program's text. Part 6 of 8. -/
import Derived.Test.YtbcndmkgjdoojaaGreatDoorM5
set_option linter.unusedSimpArgs false
set_option linter.unusedVariables false
set_option linter.unnecessarySimpa false
namespace Go.Proofs.YtbcndmkgjdoojaaGreatDoor
open Go.Abs
set_option maxRecDepth 100000
instance : Inhabited Ck := ⟨⟨0, false, [], false, [], 0, 0⟩⟩
def mx (a b : Int) : Int := if a < b then b else a
/-- Factors on a path: with parents, with a clock, behind n clocks. -/
def facP (i : Nat) (fs ps : List Int) : List Int := ps.foldl (fun fs p => fs.set i (mx (fs.getD i 0) (fs.getD p.toNat 0))) fs
def facS (c : Ck) (i : Nat) (fs : List Int) : List Int := if c.kind = 2 ∨ c.kind = 3 then (facP i fs c.ps).set i ((facP i fs c.ps).getD i 0 + 1) else facP i fs c.ps
def facN (l : List Ck) : Nat → List Int
  | 0 => List.replicate l.length 0
  | k + 1 => facS (l.getD k default) k (facN l k)
def stN (l : List Ck) : Nat → Int
  | 0 => 1
  | k + 1 => stN l k * (l.getD k default).cs.length
def CkOK (l : List Ck) : Prop := l.length ≤ 16 ∧ (∀ c ∈ l, c.ps.length ≤ 8 ∧ c.cs.length ≤ 8) ∧ (∀ (i : Nat) (h : i < l.length), CkW l[i] i) ∧ ∀ k, k < l.length → stN l (k + 1) ≤ 4096 ∧ (facN l (k + 1)).getD k 0 ≤ 4
theorem len_facP (i : Nat) (ps : List Int) : ∀ fs : List Int, (facP i fs ps).length = fs.length := by
  induction ps with
  | nil => intro fs; rfl
  | cons p ps ih => intro fs; rw [facP, List.foldl_cons]; exact (ih _).trans (by simp)
theorem len_facS (c : Ck) (i : Nat) (fs : List Int) : (facS c i fs).length = fs.length := by
  unfold facS
  split <;> simp [len_facP]
theorem len_facN (l : List Ck) : ∀ k, (facN l k).length = l.length
  | 0 => by simp [facN]
  | k + 1 => by rw [facN, len_facS, len_facN l k]
/-- Only the clock's own factor changes, and it stays in bounds. -/
theorem facP_at (i : Nat) (ps : List Int) : ∀ (fs : List Int), (∀ j, 0 ≤ fs.getD j 0 ∧ fs.getD j 0 ≤ 4) → ∀ j, 0 ≤ (facP i fs ps).getD j 0 ∧ (facP i fs ps).getD j 0 ≤ 4 := by
  induction ps with
  | nil => intro fs h; exact h
  | cons p ps ih =>
    intro fs h
    rw [facP, List.foldl_cons]
    refine ih _ fun j => ?_
    have h1 := h j
    have h2 := h i
    have h3 := h p.toNat
    rw [getD_set]
    unfold mx
    split
    · split <;> omega
    · exact h1
theorem facP_snoc (i : Nat) (fs ps : List Int) (p : Int) : facP i fs (ps ++ [p]) = (facP i fs ps).set i (mx ((facP i fs ps).getD i 0) ((facP i fs ps).getD p.toNat 0)) := by
  rw [facP, List.foldl_append]
  rfl
theorem facS_at {c : Ck} {i : Nat} {fs : List Int} (h : ∀ j, 0 ≤ fs.getD j 0 ∧ fs.getD j 0 ≤ 4) (h4 : (facS c i fs).getD i 0 ≤ 4) (j : Nat) : 0 ≤ (facS c i fs).getD j 0 ∧ (facS c i fs).getD j 0 ≤ 4 := by
  have h1 := facP_at i c.ps fs h
  unfold facS at h4 ⊢
  split
  · rename_i hk
    rw [if_pos hk, getD_set] at h4
    have h2 := h1 j
    have h3 := h1 i
    rw [getD_set]
    split
    · rename_i hj
      obtain ⟨rfl, hj⟩ := hj
      rw [if_pos ⟨rfl, hj⟩] at h4
      omega
    · exact h2
  · exact h1 j
def kcASC0 : Sc := (.one 9 (.take 10 (.take 11 (.one 12 .done))))
def kcASC1 : Sc := (.one 5 (.take 10 (.take 11 (.one 12 .done))))
def kcA : Sc := (.take 0 (.take 1 (.take 2 (.take 3 (.take 4 (.take 6 (.take 7 (.take 8 (.two 5 9 kcASC0 kcASC1)))))))))
set_option maxHeartbeats 4000000 in
theorem Check_call (nl : Bool) (l : List Ck) : ACall Tryz.prog 60 [.p (.list nl (l.map Ck.pv))] [] fun r H => ∃ e : Int, r = .p (pI e) ∧ H = [] ∧ (e = 0 ↔ CkOK l) := by
  refine acall_enter Tryz.func60 rfl rfl tabOK rfl ?_
  rcases Nat.lt_or_ge 16 l.length with h16 | h16
  · (conv => whnf); repeat' ((first | apply CondA.plain | refine' gC | refine' gpI | refine' gpB | refine' gCkpv | refine' gE | (apply DrawA.quiet (by kernel_rfl) (by kernel_rfl); (conv => whnf); fail_if_success (show False))) <;> (conv => whnf))
    (refine RetK.p ?_ <;> repeat' (first | exact trivial | refine And.intro ?_ ?_ | with_reducible rfl | (refine pIEq ?_; exact ar_) | (refine bufMap ?_) | (refine bufNil ?_) | (refine bufEq ?_) | rfl); all_goals try first | refine pBEq ?_ | refine pIEq ?_)
    exact ⟨3, rfl, rfl, fun h => (by cases h), fun h => by have := h.1; omega⟩
  (conv => whnf); repeat' ((first | apply CondA.plain | refine' gC | refine' gpI | refine' gpB | refine' gCkpv | refine' gE | (apply DrawA.quiet (by kernel_rfl) (by kernel_rfl); (conv => whnf); fail_if_success (show False)) | ((refine call_exB (bigger_contains nl l) ?_; intro b0 hb0))) <;> (conv => whnf))
  · (refine RetK.p ?_ <;> repeat' (first | exact trivial | refine And.intro ?_ ?_ | with_reducible rfl | (refine pIEq ?_; exact ar_) | (refine bufMap ?_) | (refine bufNil ?_) | (refine bufEq ?_) | rfl); all_goals try first | refine pBEq ?_ | refine pIEq ?_)
    refine ⟨3, rfl, rfl, fun h => (by cases h), fun h => ?_⟩
    obtain ⟨x, hx, hn⟩ := hb0.1 (by assumption)
    exact absurd (h.2.1 x hx) hn
  have h8 : ∀ c ∈ l, c.ps.length ≤ 8 ∧ c.cs.length ≤ 8 := fun x hx => by
    by_cases h : x.ps.length ≤ 8 ∧ x.cs.length ≤ 8
    · exact h
    · have := hb0.2 ⟨x, hx, h⟩
      simp_all
  clear hb0
  refine loop_rule (fun (c : Nat) => ⟨[(0, .p (.list nl (l.map Ck.pv))), (18, .p (.list nl (l.map Ck.pv))), (19, .p (pI l.length)), (20, .p (pI c))], []⟩) (fun (c : Nat) => c ≤ l.length ∧ ∀ (i : Nat) (h : i < l.length), i < c → CkW l[i] i) (fun (c : Nat) => l.length - c) 0 ?_ ?_ ?_; (refine SubA.auto rfl rfl rfl rfl ?_ ?_ <;> repeat' (first | exact trivial | refine And.intro ?_ ?_ | with_reducible rfl | (refine pIEq ?_; exact ar_) | (refine bufMap ?_) | (refine bufNil ?_) | (refine bufEq ?_) | rfl))
  · exact ⟨by omega, by omega⟩
  rintro c ⟨hc, hok⟩
  rcases Nat.lt_or_ge c l.length with hlt | hge
  · (conv => whnf); repeat' ((first | apply CondA.plain | refine' gC | refine' gpI | refine' gpB | refine' gCkpv | refine' gE | (apply DrawA.quiet (by kernel_rfl) (by kernel_rfl); (conv => whnf); fail_if_success (show False)) | ((refine call_exB (cvalid_call l[c] c (by omega)) ?_; intro b hb))) <;> (conv => whnf))
    · (refine RetK.p ?_ <;> repeat' (first | exact trivial | refine And.intro ?_ ?_ | with_reducible rfl | (refine pIEq ?_; exact ar_) | (refine bufMap ?_) | (refine bufNil ?_) | (refine bufEq ?_) | rfl); all_goals try first | refine pBEq ?_ | refine pIEq ?_)
      refine ⟨1, rfl, rfl, fun h => (by cases h), fun h => ?_⟩
      have := hb.2 (h.2.2.1 c hlt)
      simp_all
    · (refine' ⟨c + 1, _, _, _⟩; rotate_right; (refine SubA.auto rfl rfl rfl rfl ?_ ?_ <;> repeat' (first | exact trivial | refine And.intro ?_ ?_ | with_reducible rfl | (refine pIEq ?_; exact ar_) | (refine bufMap ?_) | (refine bufNil ?_) | (refine bufEq ?_) | rfl)); rotate_right; exact ar2_)
      refine ⟨by omega, fun i h hi => ?_⟩
      rcases Nat.lt_or_ge i c with h1 | h1
      · exact hok i h h1
      · obtain rfl : i = c := by omega
        exact hb.1 (by simp_all)
  have hc' : c = l.length := by omega
  subst hc'
  replace hok : ∀ (i : Nat) (h : i < l.length), CkW l[i] i := fun i h => hok i h h
  clear hc hge
  (conv => whnf); repeat' ((first | apply CondA.plain | refine' gC | refine' gpI | refine' gpB | refine' gCkpv | refine' gE | (apply DrawA.quiet (by kernel_rfl) (by kernel_rfl); (conv => whnf); fail_if_success (show False))) <;> (conv => whnf))
  refine loop_rule (fun (c : Nat) => ⟨[(5, .p (pI (stN l c))), (6, .buf 0), (33, .p (.list nl (l.map Ck.pv))), (34, .p (pI l.length)), (35, .p (pI c))], [some (AO.buf 3 false ((facN l c).map pI))]⟩) (fun (c : Nat) => c ≤ l.length ∧ (∀ k, k < c → stN l (k + 1) ≤ 4096 ∧ (facN l (k + 1)).getD k 0 ≤ 4) ∧ (∀ j, 0 ≤ (facN l c).getD j 0 ∧ (facN l c).getD j 0 ≤ 4) ∧ 0 ≤ stN l c ∧ stN l c ≤ 4096) (fun (c : Nat) => l.length - c) 0 ?_ ?_ ?_; (refine SubA.auto rfl rfl rfl rfl ?_ ?_ <;> repeat' (first | exact trivial | refine And.intro ?_ ?_ | with_reducible rfl | (refine pIEq ?_; exact ar_) | (refine bufMap ?_) | (refine bufNil ?_) | (refine bufEq ?_) | rfl))
  · refine ⟨by omega, by omega, fun j => ?_, by rw [stN]; omega, by rw [stN]; omega⟩
    simp only [facN, List.getD_eq_getElem?_getD, List.getElem?_replicate]
    split <;> simp
  rintro c ⟨hc, hpre, hfs, hs0, hs1⟩
  rcases Nat.lt_or_ge c l.length with hlt | hge
  rotate_left
  · (conv => whnf); repeat' ((first | apply CondA.plain | refine' gC | refine' gpI | refine' gpB | refine' gCkpv | refine' gE | (apply DrawA.quiet (by kernel_rfl) (by kernel_rfl); (conv => whnf); fail_if_success (show False))) <;> (conv => whnf))
    (refine RetK.p ?_ <;> repeat' (first | exact trivial | refine And.intro ?_ ?_ | with_reducible rfl | (refine pIEq ?_; exact ar_) | (refine bufMap ?_) | (refine bufNil ?_) | (refine bufEq ?_) | rfl); all_goals try first | refine pBEq ?_ | refine pIEq ?_)
    exact ⟨0, rfl, rfl, fun _ => ⟨h16, h8, hok, fun k hk => hpre k (by omega)⟩, fun _ => rfl⟩
  have h8c := h8 _ (List.getElem_mem hlt)
  have hps : ∀ (q : Nat) (h : q < l[c].ps.length), 0 ≤ l[c].ps[q] ∧ l[c].ps[q] < (c : Int) := fun q h => (hok c hlt).1 _ (List.getElem_mem h)
  have hel : l.getD c default = l[c] := getD_at hlt
  have hfl := len_facN l c
  (conv => whnf); repeat' ((first | apply CondA.plain | refine' gC | refine' gpI | refine' gpB | refine' gCkpv | refine' gE | (apply DrawA.quiet (by kernel_rfl) (by kernel_rfl); (conv => whnf); fail_if_success (show False))) <;> (conv => whnf))
  refine loop_rule (fun (q : Nat) => ⟨[(5, .p (pI (stN l c))), (6, .buf 0), (7, .p (pI c)), (8, .ptr 1 0), (33, .p (.list nl (l.map Ck.pv))), (34, .p (pI l.length)), (35, .p (pI c)), (41, .p (.list l[c].pn (l[c].ps.map pI))), (42, .p (pI l[c].ps.length)), (43, .p (pI q))], [some (AO.buf 3 false ((facP c (facN l c) (l[c].ps.take q)).map pI)), some (.cells [.p (pI l[c].kind), .p (.list l[c].pn (l[c].ps.map pI)), .p (.list l[c].cn (l[c].cs.map pI)), .p (pI l[c].lo), .p (pI l[c].hi)])]⟩) (fun (q : Nat) => q ≤ l[c].ps.length) (fun (q : Nat) => l[c].ps.length - q) 0 ?_ ?_ ?_; (refine SubA.auto rfl rfl rfl rfl ?_ ?_ <;> repeat' (first | exact trivial | refine And.intro ?_ ?_ | with_reducible rfl | (refine pIEq ?_; exact ar_) | (refine bufMap ?_) | (refine bufNil ?_) | (refine bufEq ?_) | rfl))
  · omega
  rintro q hq
  replace hq : q ≤ l[c].ps.length := hq
  have hFl : (facP c (facN l c) (l[c].ps.take q)).length = l.length := (len_facP _ _ _).trans hfl
  have hFb := facP_at c (l[c].ps.take q) _ hfs
  rcases Nat.lt_or_ge q l[c].ps.length with hql | hqg
  · have hpq := hps q hql
    have hsn := facP_snoc c (facN l c) (l[c].ps.take q) l[c].ps[q]
    rw [← List.take_succ_eq_append_getElem hql] at hsn
    generalize facP c (facN l c) (l[c].ps.take q) = F at hFl hFb hsn ⊢
    rw [mx, getD_at (show c < F.length by omega), getD_at (show (l[c].ps[q]).toNat < F.length by omega)] at hsn
    (conv => whnf); repeat' ((first | apply CondA.plain | refine' gC | refine' gpI | refine' gpB | refine' gCkpv | refine' gE | (apply DrawA.orders kcA (by kernel_rfl) (by kernel_rfl) (by decide +kernel))) <;> (conv => whnf))
    all_goals
      (refine' ⟨q + 1, _, _, _⟩; rotate_right; (refine SubA.auto rfl rfl rfl rfl ?_ ?_ <;> repeat' (first | exact trivial | refine And.intro ?_ ?_ | with_reducible rfl | (refine pIEq ?_; exact ar_) | (refine bufMap ?_) | (refine bufNil ?_) | (refine bufEq ?_) | rfl)); rotate_right; exact ar2_)
    all_goals first | omega | exact hsn.symm | skip
  · have hq' : q = l[c].ps.length := by omega
    rw [hq', List.take_length] at hFl hFb ⊢
    have hfS : facN l (c + 1) = facS l[c] c (facN l c) := by rw [facN, hel]
    have hst : stN l (c + 1) = stN l c * l[c].cs.length := by rw [stN, hel]
    have hmul : 0 ≤ stN l c * (l[c].cs.length : Int) ∧ stN l c * (l[c].cs.length : Int) ≤ 4096 * 8 := ⟨Int.mul_nonneg hs0 (by omega), Int.mul_le_mul hs1 (by omega) (by omega) (by omega)⟩
    unfold facS at hfS
    generalize facP c (facN l c) l[c].ps = F at hFl hFb hfS ⊢
    have hFc := hFb c
    have hFe : F.getD c 0 = F[c]'(by omega) := getD_at _
    rw [hFe] at hFc hfS
    have hat : (facN l (c + 1)).getD c 0 ≤ 4 → ∀ j, 0 ≤ (facN l (c + 1)).getD j 0 ∧ (facN l (c + 1)).getD j 0 ≤ 4 := fun h => by
      rw [facN] at h ⊢
      exact facS_at hfs h
    rcases (by omega : l[c].kind = 2 ∨ l[c].kind = 3 ∨ (¬ l[c].kind = 2 ∧ ¬ l[c].kind = 3)) with hk | hk | ⟨hk, hk'⟩
    · rw [if_pos (by omega)] at hfS
      have hF2 : (facN l (c + 1)).length = l.length := len_facN _ _
      have hF3 : (facN l (c + 1)).getD c 0 = (facN l (c + 1))[c]'(by omega) := getD_at _
      rw [hF3] at hat
      simp only [hfS] at hF3 hat
      (conv => whnf); repeat' ((first | apply CondA.plain | refine' gC | refine' gpI | refine' gpB | refine' gCkpv | refine' gE | (apply DrawA.quiet (by kernel_rfl) (by kernel_rfl); (conv => whnf); fail_if_success (show False))) <;> (conv => whnf))
      · (refine RetK.p ?_ <;> repeat' (first | exact trivial | refine And.intro ?_ ?_ | with_reducible rfl | (refine pIEq ?_; exact ar_) | (refine bufMap ?_) | (refine bufNil ?_) | (refine bufEq ?_) | rfl); all_goals try first | refine pBEq ?_ | refine pIEq ?_)
        exact ⟨3, rfl, rfl, fun h => (by cases h), fun h => by have := (h.2.2.2 c hlt).1; omega⟩
      · (refine RetK.p ?_ <;> repeat' (first | exact trivial | refine And.intro ?_ ?_ | with_reducible rfl | (refine pIEq ?_; exact ar_) | (refine bufMap ?_) | (refine bufNil ?_) | (refine bufEq ?_) | rfl); all_goals try first | refine pBEq ?_ | refine pIEq ?_)
        exact ⟨3, rfl, rfl, fun h => (by cases h), fun h => by have := (h.2.2.2 c hlt).2; rw [hfS, hF3] at this; omega⟩
      · (refine' ⟨c + 1, _, _, _⟩; rotate_right; (refine SubA.auto rfl rfl rfl rfl ?_ ?_ <;> repeat' (first | exact trivial | refine And.intro ?_ ?_ | with_reducible rfl | (refine pIEq ?_; exact ar_) | (refine bufMap ?_) | (refine bufNil ?_) | (refine bufEq ?_) | rfl)); rotate_right; exact ar2_)
        all_goals first
          | exact hfS
          | exact hst
          | exact hfS.symm
          | exact hst.symm
          | (refine ⟨by omega, fun k hk => ?_, ?_, by omega, by omega⟩
             · rcases Nat.lt_or_ge k c with h1 | h1
               · exact hpre k h1
               · obtain rfl : k = c := by omega
                 exact ⟨by omega, by rw [hfS, hF3]; omega⟩
             · exact fun j => by rw [hfS]; exact hat (by omega) j)
          | skip
    · rw [if_pos (by omega)] at hfS
      have hF2 : (facN l (c + 1)).length = l.length := len_facN _ _
      have hF3 : (facN l (c + 1)).getD c 0 = (facN l (c + 1))[c]'(by omega) := getD_at _
      rw [hF3] at hat
      simp only [hfS] at hF3 hat
      (conv => whnf); repeat' ((first | apply CondA.plain | refine' gC | refine' gpI | refine' gpB | refine' gCkpv | refine' gE | (apply DrawA.quiet (by kernel_rfl) (by kernel_rfl); (conv => whnf); fail_if_success (show False))) <;> (conv => whnf))
      · (refine RetK.p ?_ <;> repeat' (first | exact trivial | refine And.intro ?_ ?_ | with_reducible rfl | (refine pIEq ?_; exact ar_) | (refine bufMap ?_) | (refine bufNil ?_) | (refine bufEq ?_) | rfl); all_goals try first | refine pBEq ?_ | refine pIEq ?_)
        exact ⟨3, rfl, rfl, fun h => (by cases h), fun h => by have := (h.2.2.2 c hlt).1; omega⟩
      · (refine RetK.p ?_ <;> repeat' (first | exact trivial | refine And.intro ?_ ?_ | with_reducible rfl | (refine pIEq ?_; exact ar_) | (refine bufMap ?_) | (refine bufNil ?_) | (refine bufEq ?_) | rfl); all_goals try first | refine pBEq ?_ | refine pIEq ?_)
        exact ⟨3, rfl, rfl, fun h => (by cases h), fun h => by have := (h.2.2.2 c hlt).2; rw [hfS, hF3] at this; omega⟩
      · (refine' ⟨c + 1, _, _, _⟩; rotate_right; (refine SubA.auto rfl rfl rfl rfl ?_ ?_ <;> repeat' (first | exact trivial | refine And.intro ?_ ?_ | with_reducible rfl | (refine pIEq ?_; exact ar_) | (refine bufMap ?_) | (refine bufNil ?_) | (refine bufEq ?_) | rfl)); rotate_right; exact ar2_)
        all_goals first
          | exact hfS
          | exact hst
          | exact hfS.symm
          | exact hst.symm
          | (refine ⟨by omega, fun k hk => ?_, ?_, by omega, by omega⟩
             · rcases Nat.lt_or_ge k c with h1 | h1
               · exact hpre k h1
               · obtain rfl : k = c := by omega
                 exact ⟨by omega, by rw [hfS, hF3]; omega⟩
             · exact fun j => by rw [hfS]; exact hat (by omega) j)
          | skip
    · rw [if_neg (by omega)] at hfS
      have hF2 : (facN l (c + 1)).length = l.length := len_facN _ _
      have hF3 : (facN l (c + 1)).getD c 0 = (facN l (c + 1))[c]'(by omega) := getD_at _
      rw [hF3] at hat
      simp only [hfS] at hF3 hat
      (conv => whnf); repeat' ((first | apply CondA.plain | refine' gC | refine' gpI | refine' gpB | refine' gCkpv | refine' gE | (apply DrawA.quiet (by kernel_rfl) (by kernel_rfl); (conv => whnf); fail_if_success (show False))) <;> (conv => whnf))
      · (refine RetK.p ?_ <;> repeat' (first | exact trivial | refine And.intro ?_ ?_ | with_reducible rfl | (refine pIEq ?_; exact ar_) | (refine bufMap ?_) | (refine bufNil ?_) | (refine bufEq ?_) | rfl); all_goals try first | refine pBEq ?_ | refine pIEq ?_)
        exact ⟨3, rfl, rfl, fun h => (by cases h), fun h => by have := (h.2.2.2 c hlt).1; omega⟩
      · (refine' ⟨c + 1, _, _, _⟩; rotate_right; (refine SubA.auto rfl rfl rfl rfl ?_ ?_ <;> repeat' (first | exact trivial | refine And.intro ?_ ?_ | with_reducible rfl | (refine pIEq ?_; exact ar_) | (refine bufMap ?_) | (refine bufNil ?_) | (refine bufEq ?_) | rfl)); rotate_right; exact ar2_)
        all_goals first
          | exact hfS
          | exact hst
          | exact hfS.symm
          | exact hst.symm
          | (refine ⟨by omega, fun k hk => ?_, ?_, by omega, by omega⟩
             · rcases Nat.lt_or_ge k c with h1 | h1
               · exact hpre k h1
               · obtain rfl : k = c := by omega
                 exact ⟨by omega, by rw [hfS, hF3]; omega⟩
             · exact fun j => by rw [hfS]; exact hat (by omega) j)
          | skip
open Go.Abs
set_option maxRecDepth 100000
theorem csetting_call (nl n2 : Bool) (l : List Ck) (s : List Int) (h16 : l.length ≤ 16) : ACall Tryz.prog 79 [.p (.list nl (l.map Ck.pv)), .p (.list n2 (s.map pI))] [] fun r H => ∃ b : Bool, r = .p (pB b) ∧ H = [] ∧ (b = true ↔ SetOK l s) := by
  refine acall_enter Tryz.func79 rfl rfl tabOK rfl ?_
  (conv => whnf); repeat' ((first | apply CondA.plain | refine' gC | refine' gpI | refine' gpB | refine' gCkpv | refine' gLmpv | refine' gE | (apply DrawA.quiet (by kernel_rfl) (by kernel_rfl); (conv => whnf); fail_if_success (show False))) <;> (conv => whnf))
  · (refine RetK.p ?_ <;> repeat' (first | exact trivial | refine And.intro ?_ ?_ | with_reducible rfl | (refine pIEq ?_; exact ar_) | (refine bufMap ?_) | (refine bufNil ?_) | (refine bufEq ?_) | rfl); all_goals try first | refine pBEq ?_ | refine pIEq ?_)
    exact ⟨_, rfl, rfl, fun h => (by cases h), fun h => by have := h.1; omega⟩
  refine loop_rule (fun (c : Nat) => ⟨[(0, .p (.list nl (l.map Ck.pv))), (12, .p (.list n2 (s.map pI))), (13, .p (pI s.length)), (14, .p (pI c))], []⟩) (fun (c : Nat) => c ≤ s.length ∧ ∀ (i : Nat) (h : i < s.length) (h' : i < l.length), i < c → 0 ≤ s[i] ∧ s[i] < l[i].cs.length) (fun (c : Nat) => s.length - c) 0 ?_ ?_ ?_; (refine SubA.auto rfl rfl rfl rfl ?_ ?_ <;> repeat' (first | exact trivial | refine And.intro ?_ ?_ | with_reducible rfl | (refine pIEq ?_; exact ar_) | (refine bufMap ?_) | (refine bufNil ?_) | (refine bufEq ?_) | rfl))
  · exact ⟨by omega, by omega⟩
  rintro c ⟨hc, hok⟩
  rcases Nat.lt_or_ge c s.length with hlt | hge
  · have hl : c < l.length := by omega
    (conv => whnf); repeat' ((first | apply CondA.plain | refine' gC | refine' gpI | refine' gpB | refine' gCkpv | refine' gLmpv | refine' gE | (apply DrawA.quiet (by kernel_rfl) (by kernel_rfl); (conv => whnf); fail_if_success (show False)) | (refine CallA.scalar (cwithin_call _ _ _) ?_)) <;> (conv => whnf))
    · have hx := of_decide_eq_false h0
      (refine RetK.p ?_ <;> repeat' (first | exact trivial | refine And.intro ?_ ?_ | with_reducible rfl | (refine pIEq ?_; exact ar_) | (refine bufMap ?_) | (refine bufNil ?_) | (refine bufEq ?_) | rfl); all_goals try first | refine pBEq ?_ | refine pIEq ?_)
      refine ⟨_, rfl, rfl, fun h => (by cases h), fun h => ?_⟩
      have := h.2 c hlt hl
      omega
    · have hx := of_decide_eq_true h0
      (refine' ⟨c + 1, _, _, _⟩; rotate_right; (refine SubA.auto rfl rfl rfl rfl ?_ ?_ <;> repeat' (first | exact trivial | refine And.intro ?_ ?_ | with_reducible rfl | (refine pIEq ?_; exact ar_) | (refine bufMap ?_) | (refine bufNil ?_) | (refine bufEq ?_) | rfl)); rotate_right; exact ar2_)
      refine ⟨by omega, fun i h h' hic => ?_⟩
      rcases Nat.lt_or_ge i c with h1 | h1
      · exact hok i h h' h1
      · obtain rfl : i = c := by omega
        omega
  · (conv => whnf); repeat' ((first | apply CondA.plain | refine' gC | refine' gpI | refine' gpB | refine' gCkpv | refine' gLmpv | refine' gE | (apply DrawA.quiet (by kernel_rfl) (by kernel_rfl); (conv => whnf); fail_if_success (show False))) <;> (conv => whnf))
    (refine RetK.p ?_ <;> repeat' (first | exact trivial | refine And.intro ?_ ?_ | with_reducible rfl | (refine pIEq ?_; exact ar_) | (refine bufMap ?_) | (refine bufNil ?_) | (refine bufEq ?_) | rfl); all_goals try first | refine pBEq ?_ | refine pIEq ?_)
    exact ⟨_, rfl, rfl, fun _ => ⟨by omega, fun i h h' => hok i h h' (by omega)⟩, fun _ => rfl⟩
theorem cSetting_call (nl n2 : Bool) (l : List Ck) (s : List Int) : ACall Tryz.prog 36 [.p (.list nl (l.map Ck.pv)), .p (.list n2 (s.map pI))] [] fun r H => ∃ b : Bool, r = .p (pB b) ∧ H = [] ∧ (b = true ↔ CkOK l ∧ SetOK l s) := by
  refine acall_enter Tryz.func36 rfl rfl tabOK rfl ?_
  (conv => whnf); repeat' ((first | apply CondA.plain | refine' gC | refine' gpI | refine' gpB | refine' gCkpv | refine' gLmpv | refine' gE | (apply DrawA.quiet (by kernel_rfl) (by kernel_rfl); (conv => whnf); fail_if_success (show False)) | ((refine call_exI (Check_call nl l) ?_; intro e he)) | ((refine call_exB (csetting_call nl n2 l s (he.1 (by assumption)).1) ?_; intro b hb))) <;> (conv => whnf))
  all_goals
    (refine RetK.p ?_ <;> repeat' (first | exact trivial | refine And.intro ?_ ?_ | with_reducible rfl | (refine pIEq ?_; exact ar_) | (refine bufMap ?_) | (refine bufNil ?_) | (refine bufEq ?_) | rfl); all_goals try first | refine pBEq ?_ | refine pIEq ?_)
  · exact ⟨_, rfl, rfl, by show b = true ↔ _; rw [hb]; exact ⟨fun h => ⟨he.1 (by assumption), h⟩, fun h => h.2⟩⟩
  · exact ⟨_, rfl, rfl, fun h => (by cases h), fun h => by have := he.2 h.1; omega⟩
def LmB (n : Nat) (x : Lm) : Prop := (0 ≤ x.clk ∧ x.clk ≤ (n : Int) - 1) ∧ (0 ≤ x.hi ∧ x.hi ≤ 4000000000) ∧ (0 ≤ x.lo ∧ x.lo ≤ x.hi)
theorem badlim_call (nl : Bool) (l : List Ck) (h16 : l.length ≤ 16) (x : Lm) : ACall Tryz.prog 112 [.p x.pv, .ptr 0 0] [some (.cells [.p (.list nl (l.map Ck.pv))])] fun r H => ∃ b : Bool, r = .p (pB b) ∧ H = [some (.cells [.p (.list nl (l.map Ck.pv))])] ∧ (b = true ↔ ¬ LmB l.length x) := by
  refine acall_enter Tryz.func112 rfl rfl tabOK rfl ?_
  (conv => whnf); repeat' ((first | apply CondA.plain | refine' gC | refine' gpI | refine' gpB | refine' gCkpv | refine' gLmpv | refine' gE | (apply DrawA.quiet (by kernel_rfl) (by kernel_rfl); (conv => whnf); fail_if_success (show False)) | (refine CallA.scalar (cwithin_call _ _ _) ?_)) <;> (conv => whnf))
  all_goals
    (refine' RetK.auto (.p (pB _)) ([some (.cells [.p (.list nl (l.map Ck.pv))])]) rfl rfl rfl rfl _ _ _ <;> repeat' (first | exact trivial | refine And.intro ?_ ?_ | with_reducible rfl | (refine pIEq ?_; exact ar_) | (refine bufMap ?_) | (refine bufNil ?_) | (refine bufEq ?_) | rfl))
    refine ⟨_, rfl, rfl, ?_⟩
    unfold LmB
    simp only [decide_eq_true_eq, decide_eq_false_iff_not] at *
    try simp
    try grind
theorem badlim_index (nl : Bool) (l : List Ck) (h16 : l.length ≤ 16) (nq : Bool) (xs : List Lm)  : ACall Tryz.prog 152 [.p (.list nq (xs.map Lm.pv)), .clo (.func 112) [.ptr 0 0]] [some (.cells [.p (.list nl (l.map Ck.pv))])] fun r' H' => ∃ v : Int, r' = .p (pI v) ∧ H' = [some (.cells [.p (.list nl (l.map Ck.pv))])] ∧ (0 ≤ v ↔ ∃ x ∈ xs, ¬ LmB l.length x) := by
  refine acall_enter Tryz.func152 rfl rfl tabOK rfl ?_
  (conv => whnf); repeat' ((first | apply CondA.plain | refine' gC | refine' gpI | refine' gpB | refine' gCkpv | refine' gLmpv | refine' gE | (apply DrawA.quiet (by kernel_rfl) (by kernel_rfl); (conv => whnf); fail_if_success (show False))) <;> (conv => whnf))
  refine loop_rule (fun (c : Nat) => ⟨[(0, .p (.list nq (xs.map Lm.pv))), (1, .clo (.func 112) [.ptr 0 0]), (7, .p (pI xs.length)), (8, .p (pI c))], [some (.cells [.p (.list nl (l.map Ck.pv))])]⟩) (fun (c : Nat) => c ≤ xs.length ∧ ∀ (k : Nat) (h : k < xs.length), k < c → ¬ (fun x => ¬ LmB l.length x) xs[k]) (fun (c : Nat) => xs.length - c) 0 ?_ ?_ ?_; (refine SubA.auto rfl rfl rfl rfl ?_ ?_ <;> repeat' (first | exact trivial | refine And.intro ?_ ?_ | with_reducible rfl | (refine pIEq ?_; exact ar_) | (refine bufMap ?_) | (refine bufNil ?_) | (refine bufEq ?_) | rfl))
  · exact ⟨by omega, by omega⟩
  rintro c ⟨hc, hok⟩
  rcases Nat.lt_or_ge c xs.length with hlt | hge
  · (conv => whnf); repeat' ((first | apply CondA.plain | refine' gC | refine' gpI | refine' gpB | refine' gCkpv | refine' gLmpv | refine' gE | (apply DrawA.quiet (by kernel_rfl) (by kernel_rfl); (conv => whnf); fail_if_success (show False))) <;> (conv => whnf))
    refine CallA.loc [0] [] rfl rfl ((badlim_call nl l h16 xs[c]).mono ?_)
    rintro r' H' ⟨b, rfl, rfl, hb⟩
    (conv => whnf); repeat' ((first | apply CondA.plain | refine' gC | refine' gpI | refine' gpB | refine' gCkpv | refine' gLmpv | refine' gE | (apply DrawA.quiet (by kernel_rfl) (by kernel_rfl); (conv => whnf); fail_if_success (show False))) <;> (conv => whnf))
    · (refine' RetK.auto (.p (pI c)) ([some (.cells [.p (.list nl (l.map Ck.pv))])]) rfl rfl rfl rfl _ _ _ <;> repeat' (first | exact trivial | refine And.intro ?_ ?_ | with_reducible rfl | (refine pIEq ?_; exact ar_) | (refine bufMap ?_) | (refine bufNil ?_) | (refine bufEq ?_) | rfl))
      exact ⟨_, rfl, rfl, fun _ => ⟨_, List.getElem_mem hlt, hb.1 (by assumption)⟩, fun _ => by omega⟩
    · (refine' ⟨c + 1, _, _, _⟩; rotate_right; (refine SubA.auto rfl rfl rfl rfl ?_ ?_ <;> repeat' (first | exact trivial | refine And.intro ?_ ?_ | with_reducible rfl | (refine pIEq ?_; exact ar_) | (refine bufMap ?_) | (refine bufNil ?_) | (refine bufEq ?_) | rfl)); rotate_right; exact ar2_)
      refine ⟨by omega, fun k hk hkc => ?_⟩
      rcases Nat.lt_or_ge k c with h3 | h3
      · exact hok k hk h3
      · obtain rfl : k = c := by omega
        exact fun h => by have hbf : b = false := (by assumption); rw [hb.2 h] at hbf; cases hbf
  · (conv => whnf); repeat' ((first | apply CondA.plain | refine' gC | refine' gpI | refine' gpB | refine' gCkpv | refine' gLmpv | refine' gE | (apply DrawA.quiet (by kernel_rfl) (by kernel_rfl); (conv => whnf); fail_if_success (show False))) <;> (conv => whnf))
    (refine' RetK.auto (.p (pI (-1))) ([some (.cells [.p (.list nl (l.map Ck.pv))])]) rfl rfl rfl rfl _ _ _ <;> repeat' (first | exact trivial | refine And.intro ?_ ?_ | with_reducible rfl | (refine pIEq ?_; exact ar_) | (refine bufMap ?_) | (refine bufNil ?_) | (refine bufEq ?_) | rfl))
    refine ⟨_, rfl, rfl, fun h => (by omega), fun ⟨x, hx, h⟩ => ?_⟩
    obtain ⟨k, hk, rfl⟩ := List.getElem_of_mem hx
    exact absurd h (hok k hk (by omega))
theorem badlim_contains (nl : Bool) (l : List Ck) (h16 : l.length ≤ 16) (nq : Bool) (xs : List Lm)  : ACall Tryz.prog 111 [.p (.list nq (xs.map Lm.pv)), .clo (.func 112) [.ptr 0 0]] [some (.cells [.p (.list nl (l.map Ck.pv))])] fun r' H' => ∃ b : Bool, r' = .p (pB b) ∧ H' = [some (.cells [.p (.list nl (l.map Ck.pv))])] ∧ (b = true ↔ ∃ x ∈ xs, ¬ LmB l.length x) := by
  refine acall_enter Tryz.func111 rfl rfl tabOK rfl ?_
  (conv => whnf); repeat' ((first | apply CondA.plain | refine' gC | refine' gpI | refine' gpB | refine' gCkpv | refine' gLmpv | refine' gE | (apply DrawA.quiet (by kernel_rfl) (by kernel_rfl); (conv => whnf); fail_if_success (show False))) <;> (conv => whnf))
  refine CallA.all ((badlim_index nl l h16 nq xs ).mono ?_)
  rintro r' H' ⟨v, rfl, rfl, hv⟩
  (conv => whnf); repeat' ((first | apply CondA.plain | refine' gC | refine' gpI | refine' gpB | refine' gCkpv | refine' gLmpv | refine' gE | (apply DrawA.quiet (by kernel_rfl) (by kernel_rfl); (conv => whnf); fail_if_success (show False))) <;> (conv => whnf))
  (refine' RetK.auto (.p (pB _)) ([some (.cells [.p (.list nl (l.map Ck.pv))])]) rfl rfl rfl rfl _ _ _ <;> repeat' (first | exact trivial | refine And.intro ?_ ?_ | with_reducible rfl | (refine pIEq ?_; exact ar_) | (refine bufMap ?_) | (refine bufNil ?_) | (refine bufEq ?_) | rfl))
  exact ⟨_, rfl, rfl, by rw [decide_eq_true_eq]; exact hv⟩

def LimOK (l : List Ck) (m : List Lm) : Prop := CkOK l ∧ m.length ≤ 32 ∧ ∀ x ∈ m, LmB l.length x
theorem cLimits_call (nl n2 : Bool) (l : List Ck) (m : List Lm) : ACall Tryz.prog 61 [.p (.list nl (l.map Ck.pv)), .p (.list n2 (m.map Lm.pv))] [] fun r H => ∃ b : Bool, r = .p (pB b) ∧ H = [] ∧ (b = true ↔ LimOK l m) := by
  refine acall_enter Tryz.func61 rfl rfl tabOK rfl ?_
  (conv => whnf); repeat' ((first | apply CondA.plain | refine' gC | refine' gpI | refine' gpB | refine' gCkpv | refine' gLmpv | refine' gE | (apply DrawA.quiet (by kernel_rfl) (by kernel_rfl); (conv => whnf); fail_if_success (show False)) | ((refine call_exI (Check_call nl l) ?_; intro e he))) <;> (conv => whnf))
  · refine CallA.loc [0] [] rfl rfl ((badlim_contains nl l (he.1 (by assumption)).1 n2 m).mono ?_)
    rintro _ _ ⟨b, rfl, rfl, hb⟩
    (conv => whnf); repeat' ((first | apply CondA.plain | refine' gC | refine' gpI | refine' gpB | refine' gCkpv | refine' gLmpv | refine' gE | (apply DrawA.quiet (by kernel_rfl) (by kernel_rfl); (conv => whnf); fail_if_success (show False))) <;> (conv => whnf))
    (refine RetK.p ?_ <;> repeat' (first | exact trivial | refine And.intro ?_ ?_ | with_reducible rfl | (refine pIEq ?_; exact ar_) | (refine bufMap ?_) | (refine bufNil ?_) | (refine bufEq ?_) | rfl); all_goals try first | refine pBEq ?_ | refine pIEq ?_)
    refine ⟨_, rfl, rfl, ?_⟩
    show (!b) = true ↔ _
    rw [Bool.not_eq_true', Bool.eq_false_iff, ne_eq, hb]
    unfold LimOK
    constructor
    · intro h
      refine ⟨he.1 (by assumption), by omega, fun x hx => ?_⟩
      by_cases hx2 : LmB l.length x
      · exact hx2
      · exact absurd ⟨x, hx, hx2⟩ h
    · rintro ⟨_, _, h⟩ ⟨x, hx, hn⟩
      exact hn (h x hx)
  · (refine RetK.p ?_ <;> repeat' (first | exact trivial | refine And.intro ?_ ?_ | with_reducible rfl | (refine pIEq ?_; exact ar_) | (refine bufMap ?_) | (refine bufNil ?_) | (refine bufEq ?_) | rfl); all_goals try first | refine pBEq ?_ | refine pIEq ?_)
    exact ⟨_, rfl, rfl, fun h => (by cases h), fun h => by have := h.2.1; omega⟩
  · (refine RetK.p ?_ <;> repeat' (first | exact trivial | refine And.intro ?_ ?_ | with_reducible rfl | (refine pIEq ?_; exact ar_) | (refine bufMap ?_) | (refine bufNil ?_) | (refine bufEq ?_) | rfl); all_goals try first | refine pBEq ?_ | refine pIEq ?_)
    exact ⟨_, rfl, rfl, fun h => (by cases h), fun h => by have := he.2 h.1; omega⟩
open Go.Abs
set_option maxRecDepth 100000
theorem CkW.v {c : Ck} {i : Nat} (h : CkW c i) (h1 : c.ps.length ≤ 8) (h2 : c.cs.length ≤ 8) : CkV c i := by
  obtain ⟨h3, _, _, h4⟩ := h
  refine ⟨h3, ?_, h1, h2⟩
  rcases h4 with ⟨k, a, b, _⟩ | ⟨k, a, b, _⟩ | ⟨k, a, b⟩ | ⟨k, a, b⟩
  · exact ⟨by omega, .inl k⟩
  · exact ⟨by omega, .inr (.inr ⟨by omega, by omega⟩)⟩
  · refine ⟨by omega, .inr (.inl ⟨k, fun x hx => ?_⟩)⟩
    obtain ⟨j, hj, rfl⟩ := List.getElem_of_mem hx
    have := (b j hj).1
    omega
  · exact ⟨by rw [b]; simp, .inr (.inr ⟨by omega, by omega⟩)⟩
theorem CkOK.v {l : List Ck} (h : CkOK l) : AllV l := fun i hi => (h.2.2.1 i hi).v (h.2.1 _ (List.getElem_mem hi)).1 (h.2.1 _ (List.getElem_mem hi)).2
def cqA : Sc := (.take 0 (.frz 1 (.take 2 (.frz 3 (.take 4 (.take 5 (.take 6 (.load 7 (.take 8 (.load 9 (.take 10 (.load 11 (.take 12 .done)))))))))))))
set_option maxHeartbeats 2000000 in
theorem cparent_call (nl n2 : Bool) (l : List Ck) (s : List Int) (hv : AllV l) (h16 : l.length ≤ 16) (hs : SetOK l s) (i : Nat) (hi : i < l.length) : ACall Tryz.prog 134 [.p (.list nl (l.map Ck.pv)), .p (.list n2 (s.map pI)), .p (pI i)] [] fun r H => r = .p (pI (parF l[i] (s[i]'(by rw [hs.1]; exact hi)))) ∧ H = [] := by
  refine acall_enter Tryz.func134 rfl rfl tabOK rfl ?_
  have hsl := hs.1
  have hk := hs.2 i (by omega) hi
  obtain ⟨h1, h2, hps⟩ := (hv i hi).facts hk
  (conv => whnf); repeat' ((first | apply CondA.plain | refine' gC | refine' gpI | refine' gpB | refine' gCkpv | refine' gpR | refine' gE | fail) <;> (conv => whnf))
  · have e : parF l[i] s[i] = -1 := if_pos h0
    rw [e]
    (refine RetK.p ?_ <;> repeat' (first | exact trivial | refine And.intro ?_ ?_ | with_reducible rfl | (refine pIEq ?_; exact ar_) | (refine bufMap ?_) | (refine bufNil ?_) | (refine bufEq ?_) | rfl); all_goals try first | refine pBEq ?_ | refine pIEq ?_)
  · rename_i h9
    have h6 := h1 h0
    have e : parF l[i] s[i] = l[i].ps[(l[i].cs[(s[i]).toNat]'(by omega)).toNat]'(by omega) := by
      rw [parF, if_neg h9, if_pos h0, getD_at (show (s[i]).toNat < l[i].cs.length by omega), getD_at (show (l[i].cs[(s[i]).toNat]'(by omega)).toNat < l[i].ps.length by omega)]
    rw [e]
    refine DrawA.retire 7 0 [pI l[i].kind, .list l[i].pn (l[i].ps.map pI), .list l[i].cn (l[i].cs.map pI), pI l[i].lo, pI l[i].hi] rfl rfl ?_
    (conv => whnf); repeat' ((first | apply CondA.plain | refine' gC | refine' gpI | refine' gpB | refine' gCkpv | refine' gpR | refine' gE | (apply DrawA.orders cqA (by kernel_rfl) (by kernel_rfl) (by decide +kernel))) <;> (conv => whnf))
    all_goals (refine RetK.p ?_ <;> repeat' (first | exact trivial | refine And.intro ?_ ?_ | with_reducible rfl | (refine pIEq ?_; exact ar_) | (refine bufMap ?_) | (refine bufNil ?_) | (refine bufEq ?_) | rfl); all_goals try first | refine pBEq ?_ | refine pIEq ?_)
  · rename_i h9
    have h6 := h2 h9 h0
    have e : parF l[i] s[i] = l[i].ps[0]'(by omega) := by rw [parF, if_neg h9, if_neg h0, getD_at (show 0 < l[i].ps.length by omega)]
    rw [e]
    (refine RetK.p ?_ <;> repeat' (first | exact trivial | refine And.intro ?_ ?_ | with_reducible rfl | (refine pIEq ?_; exact ar_) | (refine bufMap ?_) | (refine bufNil ?_) | (refine bufEq ?_) | rfl); all_goals try first | refine pBEq ?_ | refine pIEq ?_)
open Go.Abs
set_option maxRecDepth 100000
/-- The rate of a clock, with those of the clocks ahead of it. -/
def rt1 (c : Ck) (k : Int) (fs : List (Int × Int)) : Int × Int :=
  if parF c k < 0 then (c.cs.getD k.toNat 0, 1) else
  if fs.getD (parF c k).toNat (0, 0) = (0, 1) ∨ (c.kind = 5 ∧ c.cs.getD k.toNat 0 = 0) then (0, 1) else
  if c.kind = 2 then (scaledR (fs.getD (parF c k).toNat (0, 0)).1 (fs.getD (parF c k).toNat (0, 0)).2 (c.cs.getD k.toNat 0) (overP (fs.getD (parF c k).toNat (0, 0)).1 (fs.getD (parF c k).toNat (0, 0)).2 (c.cs.getD k.toNat 0))).1 else
  if c.kind = 3 then (scaledR (fs.getD (parF c k).toNat (0, 0)).1 (fs.getD (parF c k).toNat (0, 0)).2 (c.cs.getD k.toNat 0) (timesP (fs.getD (parF c k).toNat (0, 0)).1 (fs.getD (parF c k).toNat (0, 0)).2 (c.cs.getD k.toNat 0))).1 else
  fs.getD (parF c k).toNat (0, 0)
def rtN (l : List Ck) (s : List Int) : Nat → List (Int × Int)
  | 0 => List.replicate l.length (0, 0)
  | k + 1 => (rtN l s k).set k (rt1 (l.getD k default) (s.getD k 0) (rtN l s k))
def rts (l : List Ck) (s : List Int) : List (Int × Int) := rtN l s l.length
theorem len_rtN (l : List Ck) (s : List Int) : ∀ k, (rtN l s k).length = l.length
  | 0 => by simp [rtN]
  | k + 1 => by rw [rtN, List.length_set, len_rtN l s k]
def crA : Sc := (.take 0 (.frz 1 (.take 2 (.take 3 (.take 4 (.load 5 (.take 6 (.load 7 (.take 8 .done)))))))))
def crB : Sc := (.take 0 (.take 1 (.take 2 (.load 3 (.load 4 (.take 5 (.take 6 (.take 7 (.frz 8 (.take 9 (.take 10 (.take 11 (.take 12 (.take 13 (.take 14 (.take 15 .done))))))))))))))))
set_option maxHeartbeats 4000000 in
theorem crates_call (nl n2 : Bool) (l : List Ck) (s : List Int) (hv : AllV l) (h16 : l.length ≤ 16) (hs : SetOK l s) : ACall Tryz.prog 80 [.p (.list nl (l.map Ck.pv)), .p (.list n2 (s.map pI))] [] fun r H => ∃ b : Bool, r = .buf 0 ∧ H = [some (AO.buf 79 b ((rts l s).map pR))] := by
  refine acall_enter Tryz.func80 rfl rfl tabOK rfl ?_
  have hsl := hs.1
  (conv => whnf); repeat' ((first | apply CondA.plain | refine' gC | refine' gpI | refine' gpB | refine' gCkpv | refine' gpR | refine' gE | (apply DrawA.quiet (by kernel_rfl) (by kernel_rfl); (conv => whnf); fail_if_success (show False))) <;> (conv => whnf))
  refine loop_rule (fun (c : Nat) => ⟨[(0, .p (.list nl (l.map Ck.pv))), (1, .p (.list n2 (s.map pI))), (5, .buf 0), (13, .p (.list nl (l.map Ck.pv))), (14, .p (pI l.length)), (15, .p (pI c))], [some (AO.buf 79 false ((rtN l s c).map pR))]⟩) (fun (c : Nat) => c ≤ l.length) (fun (c : Nat) => l.length - c) 0 ?_ ?_ ?_; (refine SubA.auto rfl rfl rfl rfl ?_ ?_ <;> repeat' (first | exact trivial | refine And.intro ?_ ?_ | with_reducible rfl | (refine pIEq ?_; exact ar_) | (refine bufMap ?_) | (refine bufNil ?_) | (refine bufEq ?_) | rfl))
  · omega
  rintro c hc
  replace hc : c ≤ l.length := hc
  rcases Nat.lt_or_ge c l.length with hlt | hge
  rotate_left
  · obtain rfl : c = l.length := by omega
    (conv => whnf); repeat' ((first | apply CondA.plain | refine' gC | refine' gpI | refine' gpB | refine' gCkpv | refine' gpR | refine' gE | (apply DrawA.quiet (by kernel_rfl) (by kernel_rfl); (conv => whnf); fail_if_success (show False))) <;> (conv => whnf))
    (refine' RetK.auto (.buf 0) ([some (AO.buf 79 false ((rts l s).map pR))]) rfl rfl rfl rfl _ _ _ <;> repeat' (first | exact trivial | refine And.intro ?_ ?_ | with_reducible rfl | (refine pIEq ?_; exact ar_) | (refine bufMap ?_) | (refine bufNil ?_) | (refine bufEq ?_) | rfl))
    exact ⟨_, rfl, rfl⟩
  have hcs : c < s.length := by omega
  have hk := hs.2 c hcs hlt
  have hpr := parF_range (hv c hlt) hk
  have hF1 := len_rtN l s c
  have hsn : rtN l s (c + 1) = (rtN l s c).set c (rt1 l[c] s[c] (rtN l s c)) := by rw [rtN, getD_at hlt, getD_at (show c < s.length by omega)]
  generalize rtN l s c = F at hF1 hsn ⊢
  have hch : l[c].cs.getD (s[c]).toNat 0 = l[c].cs[(s[c]).toNat]'(by omega) := getD_at _
  (conv => whnf); repeat' ((first | apply CondA.plain | refine' gC | refine' gpI | refine' gpB | refine' gCkpv | refine' gpR | refine' gE | fail) <;> (conv => whnf))
  refine DrawA.retire 7 1 [pI l[c].kind, .list l[c].pn (l[c].ps.map pI), .list l[c].cn (l[c].cs.map pI), pI l[c].lo, pI l[c].hi] rfl rfl ?_
  (conv => whnf); repeat' ((first | refine' gC | refine' gpI | refine' gpB | refine' gCkpv | refine' gpR | refine' gE | (apply DrawA.orders crA (by kernel_rfl) (by kernel_rfl) (by decide +kernel)) | (refine CallA.scalar (cparent_call nl n2 l s hv h16 hs c hlt) ?_)) <;> (conv => whnf))
  unfold rt1 at hsn
  rw [hch] at hsn
  generalize parF l[c] s[c] = p at hpr hsn ⊢
  by_cases hp : p < 0
  · rw [if_pos hp] at hsn
    (conv => whnf); repeat' ((first | apply CondA.plain | refine' gC | refine' gpI | refine' gpB | refine' gCkpv | refine' gpR | refine' gE | (apply DrawA.quiet (by kernel_rfl) (by kernel_rfl); (conv => whnf); fail_if_success (show False))) <;> (conv => whnf))
    (refine' ⟨c + 1, _, _, _⟩; rotate_right; (refine SubA.auto rfl rfl rfl rfl ?_ ?_ <;> repeat' (first | exact trivial | refine And.intro ?_ ?_ | with_reducible rfl | (refine pIEq ?_; exact ar_) | (refine bufMap ?_) | (refine bufNil ?_) | (refine bufEq ?_) | rfl)); rotate_right; exact ar2_)
    all_goals first | omega | exact hsn.symm
  · rw [if_neg hp, getD_at (show p.toNat < F.length by omega)] at hsn
    have hzt : (F[p.toNat].fst == 0 && (F[p.toNat].snd == 1 && true)) = true ↔ F[p.toNat] = (0, 1) := by
      rw [Prod.ext_iff]
      simp
    (conv => whnf); repeat' ((first | apply CondA.plain | refine' gC | refine' gpI | refine' gpB | refine' gCkpv | refine' gpR | refine' gE | (apply DrawA.orders crB (by kernel_rfl) (by kernel_rfl) (by decide +kernel)) | (refine call_flat2 (pR_flat _) (pI_flat _) (cover_call _ _ _) ?_) | (refine call_flat2 (pR_flat _) (pI_flat _) (ctimes_call _ _ _) ?_)) <;> (conv => whnf))
    all_goals
      (refine' ⟨c + 1, _, _, _⟩; rotate_right; (refine SubA.auto rfl rfl rfl rfl ?_ ?_ <;> repeat' (first | exact trivial | refine And.intro ?_ ?_ | with_reducible rfl | (refine pIEq ?_; exact ar_) | (refine bufMap ?_) | (refine bufNil ?_) | (refine bufEq ?_) | rfl)); rotate_right; exact ar2_)
    all_goals first
      | omega
      | (rw [hsn]
         congr 1
         grind)
open Go.Abs
set_option maxRecDepth 100000
theorem Rates_call (nl n2 : Bool) (l : List Ck) (s : List Int) (hl : CkOK l) (hs : SetOK l s) : ACall Tryz.prog 37 [.p (.list nl (l.map Ck.pv)), .p (.list n2 (s.map pI))] [] fun r H => ∃ b : Bool, r = .tup [.buf 0, .p (pI 0)] ∧ H = [some (AO.buf 79 b ((rts l s).map pR))] := by
  refine acall_enter Tryz.func37 rfl rfl tabOK rfl ?_
  (conv => whnf); repeat' ((first | apply CondA.plain | refine' gC | refine' gpI | refine' gpB | refine' gCkpv | refine' gpR | refine' gE | (apply DrawA.quiet (by kernel_rfl) (by kernel_rfl); (conv => whnf); fail_if_success (show False)) | ((refine call_exI (Check_call nl l) ?_; intro e he)) | ((refine call_exB (csetting_call nl n2 l s hl.1) ?_; intro b hb))) <;> (conv => whnf))
  · exact absurd (he.2 hl) h0
  · have := hb.2 hs
    simp_all
  · refine CallA.loc [] [] rfl rfl ((crates_call nl n2 l s hl.v hl.1 hs).mono ?_)
    rintro _ _ ⟨b, rfl, rfl⟩
    (conv => whnf); repeat' ((first | apply CondA.plain | refine' gC | refine' gpI | refine' gpB | refine' gCkpv | refine' gpR | refine' gE | (apply DrawA.quiet (by kernel_rfl) (by kernel_rfl); (conv => whnf); fail_if_success (show False))) <;> (conv => whnf))
    (refine' RetK.auto (.tup [.buf 0, .p (pI 0)]) ([some (AO.buf 79 b ((rts l s).map pR))]) rfl rfl rfl rfl _ _ _ <;> repeat' (first | exact trivial | refine And.intro ?_ ?_ | with_reducible rfl | (refine pIEq ?_; exact ar_) | (refine bufMap ?_) | (refine bufNil ?_) | (refine bufEq ?_) | rfl))
    exact ⟨b, rfl, rfl⟩
theorem call_rates {P : Program} {f : FuncId} {args : List AV} {H : AH} {K : AV → AH → Prop} {e : TypeId} {xs : List (Int × Int)} (h : ACall P f (toLocL H [] true args) [] fun r H' => ∃ b : Bool, r = .tup [.buf 0, .p (pI 0)] ∧ H' = [some (AO.buf e b (xs.map pR))])
    (hk : ∀ b, K (.tup [.buf H.length, .p (pI 0)]) (H ++ [some (AO.buf e b (xs.map pR))])) : CallA P f args H K :=
  CallA.pure h fun r H' ⟨b, h1, h2⟩ => by
    subst h1; subst h2
    refine ⟨⟨trivial, trivial, trivial⟩, ?_, ?_⟩
    · simp [flatH, AO.flat, pR_flat]
      rintro _ a b _ rfl
      exact pR_flat _
    · have e0 : backρ [] H.length 0 = H.length := rfl
      simpa [renH, AV.ren, renL, e0, AO.ren] using hk b
open Go.Abs
set_option maxRecDepth 100000
structure Bd where
  ix : Int
  clk : Int
  lo : Int
  hi : Int
  own : Bool
def Bd.pv (b : Bd) : PV := .agg [pI b.ix, pI b.clk, pI b.lo, pI b.hi, pB b.own]
theorem gBdpv {P : Prop} (h : P := by
  (first | ((first | apply AppA.snoc (f := Bd.pv) (a := _) rfl | apply AppA.one (f := Bd.pv) (a := _) rfl | (apply AppA.snoc (f := Bd.pv) (a := ⟨_, _, _, _, _⟩); dsimp only [Bd.pv]; exact rfl) | (apply AppA.one (f := Bd.pv) (a := ⟨_, _, _, _, _⟩); dsimp only [Bd.pv]; exact rfl)); exact ar_) | apply IsL.set (f := Bd.pv) (a := _) rfl | apply IsL.rep (f := Bd.pv) (a := _) rfl | (apply IsL.set (f := Bd.pv) (a := ⟨_, _, _, _, _⟩); dsimp only [Bd.pv]; exact rfl) | (apply IsL.rep (f := Bd.pv) (a := ⟨_, _, _, _, _⟩); dsimp only [Bd.pv]; exact rfl) | apply IsL.lit (f := Bd.pv) [] rfl | apply IsL.lit (f := Bd.pv) [_] rfl | apply IsL.lit (f := Bd.pv) [_, _] rfl | apply IsL.lit (f := Bd.pv) [_, _, _] rfl | apply IsL.lit (f := Bd.pv) [] rfl | apply IsL.lit (f := Bd.pv) [⟨_, _, _, _, _⟩] rfl | apply IsL.lit (f := Bd.pv) [⟨_, _, _, _, _⟩, ⟨_, _, _, _, _⟩] rfl | apply IsL.lit (f := Bd.pv) [⟨_, _, _, _, _⟩, ⟨_, _, _, _, _⟩, ⟨_, _, _, _, _⟩] rfl) <;> (solve_by_elim (newGoals := .nonDependentOnly) (symm := false) (exfalso := false) (transparency := .reducible) only [rfl, park_])) : P := h
def brk (b : Bd) (r : Int × Int) : Bool := if r.1 = 0 then !b.own else !withinR r.1 r.2 b.lo b.hi
theorem broken_call (b : Bd) (r : Int × Int) : ACall Tryz.prog 63 [.p b.pv, .p (pR r)] [] fun r' H => r' = .p (pB (brk b r)) ∧ H = [] := by
  refine acall_enter Tryz.func63 rfl rfl tabOK rfl ?_
  (conv => whnf); repeat' ((first | apply CondA.plain | refine' gC | refine' gpI | refine' gpB | refine' gCkpv | refine' gpR | refine' gLmpv | refine' gBdpv | refine' gE | (apply DrawA.quiet (by kernel_rfl) (by kernel_rfl); (conv => whnf); fail_if_success (show False)) | (refine CallA.scalar (cWithin_call _ _ _ _) ?_)) <;> (conv => whnf))
  · (refine RetK.p ?_ <;> repeat' (first | exact trivial | refine And.intro ?_ ?_ | with_reducible rfl | (refine pIEq ?_; exact ar_) | (refine bufMap ?_) | (refine bufNil ?_) | (refine bufEq ?_) | rfl); all_goals try first | refine pBEq ?_ | refine pIEq ?_)
    rw [brk, if_pos h0]
  · (refine RetK.p ?_ <;> repeat' (first | exact trivial | refine And.intro ?_ ?_ | with_reducible rfl | (refine pIEq ?_; exact ar_) | (refine bufMap ?_) | (refine bufNil ?_) | (refine bufEq ?_) | rfl); all_goals try first | refine pBEq ?_ | refine pIEq ?_)
    rw [brk, if_neg h0]
/-- The bounds that clocks and limits mean. -/
def BdOK (l : List Ck) (bs : List Bd) : Prop := (∀ b ∈ bs, 0 ≤ b.clk ∧ b.clk < (l.length : Int)) ∧ ∀ (i : Nat) (h : i < l.length), l[i].hi ≠ 0 → ∃ b ∈ bs, b.clk = (i : Int) ∧ b.lo = l[i].lo ∧ b.hi = l[i].hi ∧ b.own = true
set_option maxHeartbeats 2000000 in
theorem all_call (nl n2 : Bool) (l : List Ck) (m : List Lm) (h16 : l.length ≤ 16) (hm : m.length ≤ 32) (hmv : ∀ x ∈ m, LmB l.length x) : ACall Tryz.prog 62 [.p (.list nl (l.map Ck.pv)), .p (.list n2 (m.map Lm.pv))] [] fun r H => ∃ (bs : List Bd) (nb : Bool), BdOK l bs ∧ bs.length ≤ 48 ∧ r = .buf 0 ∧ H = [some (AO.buf 141 nb (bs.map Bd.pv))] := by
  refine acall_enter Tryz.func62 rfl rfl tabOK rfl ?_
  (conv => whnf); repeat' ((first | apply CondA.plain | refine' gC | refine' gpI | refine' gpB | refine' gCkpv | refine' gpR | refine' gLmpv | refine' gBdpv | refine' gE | (apply DrawA.quiet (by kernel_rfl) (by kernel_rfl); (conv => whnf); fail_if_success (show False))) <;> (conv => whnf))
  refine loop_rule (fun (⟨c, bs, nb⟩ : Nat × List Bd × Bool) => ⟨[(0, .p (.list nl (l.map Ck.pv))), (1, .p (.list n2 (m.map Lm.pv))), (5, .buf 0), (10, .p (.list n2 (m.map Lm.pv))), (11, .p (pI m.length)), (12, .p (pI c))], [some (AO.buf 141 nb (bs.map Bd.pv))]⟩) (fun (⟨c, bs, nb⟩ : Nat × List Bd × Bool) => c ≤ m.length ∧ bs.length = c ∧ ∀ b ∈ bs, 0 ≤ b.clk ∧ b.clk < (l.length : Int)) (fun (⟨c, bs, nb⟩ : Nat × List Bd × Bool) => m.length - c) (0, [], true) ?_ ?_ ?_; (refine SubA.auto1 (141, 5) rfl rfl rfl rfl rfl ?_ ?_ <;> repeat' (first | exact trivial | refine And.intro ?_ ?_ | with_reducible rfl | (refine pIEq ?_; exact ar_) | (refine bufMap ?_) | (refine bufNil ?_) | (refine bufEq ?_) | rfl))
  · exact ⟨by omega, rfl, by simp⟩
  rintro ⟨c, bs, nb⟩ ⟨hc, hbl, hbs⟩
  try simp only at hc hbl hbs
  (conv => whnf); repeat' ((first | apply CondA.plain | refine' gC | refine' gpI | refine' gpB | refine' gCkpv | refine' gpR | refine' gLmpv | refine' gBdpv | refine' gE | (apply DrawA.quiet (by kernel_rfl) (by kernel_rfl); (conv => whnf); fail_if_success (show False))) <;> (conv => whnf))
  · have hcm : c < m.length := by omega
    have hx := hmv _ (List.getElem_mem hcm)
    (refine' ⟨(c + 1, bs ++ [⟨c, m[c].clk, m[c].lo, m[c].hi, false⟩], _), _, _, _⟩; rotate_right; (refine SubA.auto rfl rfl rfl rfl ?_ ?_ <;> repeat' (first | exact trivial | refine And.intro ?_ ?_ | with_reducible rfl | (refine pIEq ?_; exact ar_) | (refine bufMap ?_) | (refine bufNil ?_) | (refine bufEq ?_) | rfl)); rotate_right; exact ar2_)
    refine ⟨by omega, by simp; omega, fun b hb => ?_⟩
    rcases List.mem_append.1 hb with hb | hb
    · exact hbs b hb
    · simp only [List.mem_singleton] at hb
      subst hb
      exact ⟨hx.1.1, by have := hx.1.2; show m[c].clk < _; omega⟩
  have hbl2 : bs.length ≤ 32 := by omega
  refine loop_rule (fun (⟨c, bs, nb⟩ : Nat × List Bd × Bool) => ⟨[(1, .p (.list n2 (m.map Lm.pv))), (5, .buf 0), (29, .p (.list nl (l.map Ck.pv))), (30, .p (pI l.length)), (31, .p (pI c))], [some (AO.buf 141 nb (bs.map Bd.pv))]⟩) (fun (⟨c, bs, nb⟩ : Nat × List Bd × Bool) => c ≤ l.length ∧ bs.length ≤ 32 + c ∧ (∀ b ∈ bs, 0 ≤ b.clk ∧ b.clk < (l.length : Int)) ∧ ∀ (i : Nat) (h : i < l.length), i < c → l[i].hi ≠ 0 → ∃ b ∈ bs, b.clk = (i : Int) ∧ b.lo = l[i].lo ∧ b.hi = l[i].hi ∧ b.own = true) (fun (⟨c, bs, nb⟩ : Nat × List Bd × Bool) => l.length - c) (0, bs, nb) ?_ ?_ ?_; (refine SubA.auto rfl rfl rfl rfl ?_ ?_ <;> repeat' (first | exact trivial | refine And.intro ?_ ?_ | with_reducible rfl | (refine pIEq ?_; exact ar_) | (refine bufMap ?_) | (refine bufNil ?_) | (refine bufEq ?_) | rfl))
  · exact ⟨by omega, by omega, hbs, by omega⟩
  clear hbl hbs hbl2 hc
  rintro ⟨c, bs, nb⟩ ⟨hc, hbl, hbs, hown⟩
  try simp only at hc hbl hbs hown
  rcases Nat.lt_or_ge c l.length with hlt | hge
  · (conv => whnf); repeat' ((first | apply CondA.plain | refine' gC | refine' gpI | refine' gpB | refine' gCkpv | refine' gpR | refine' gLmpv | refine' gBdpv | refine' gE | (apply DrawA.quiet (by kernel_rfl) (by kernel_rfl); (conv => whnf); fail_if_success (show False))) <;> (conv => whnf))
    · (refine' ⟨(c + 1, bs ++ [⟨m.length + c, c, l[c].lo, l[c].hi, true⟩], _), _, _, _⟩; rotate_right; (refine SubA.auto rfl rfl rfl rfl ?_ ?_ <;> repeat' (first | exact trivial | refine And.intro ?_ ?_ | with_reducible rfl | (refine pIEq ?_; exact ar_) | (refine bufMap ?_) | (refine bufNil ?_) | (refine bufEq ?_) | rfl)); rotate_right; exact ar2_)
      refine ⟨by omega, by simp; omega, fun b hb => ?_, fun i h hic hi => ?_⟩
      · rcases List.mem_append.1 hb with hb | hb
        · exact hbs b hb
        · simp only [List.mem_singleton] at hb
          subst hb
          exact ⟨by show (0 : Int) ≤ c; omega, by show (c : Int) < _; omega⟩
      · rcases Nat.lt_or_ge i c with h1 | h1
        · obtain ⟨b, hb, h2⟩ := hown i h h1 hi
          exact ⟨b, List.mem_append_left _ hb, h2⟩
        · obtain rfl : i = c := by omega
          exact ⟨_, List.mem_append_right _ (List.mem_singleton.2 rfl), rfl, rfl, rfl, rfl⟩
    · (refine' ⟨(c + 1, bs, nb), _, _, _⟩; rotate_right; (refine SubA.auto rfl rfl rfl rfl ?_ ?_ <;> repeat' (first | exact trivial | refine And.intro ?_ ?_ | with_reducible rfl | (refine pIEq ?_; exact ar_) | (refine bufMap ?_) | (refine bufNil ?_) | (refine bufEq ?_) | rfl)); rotate_right; exact ar2_)
      refine ⟨by omega, by omega, hbs, fun i h hic hi => ?_⟩
      rcases Nat.lt_or_ge i c with h1 | h1
      · exact hown i h h1 hi
      · obtain rfl : i = c := by omega
        exact absurd (by assumption) hi
  · (conv => whnf); repeat' ((first | apply CondA.plain | refine' gC | refine' gpI | refine' gpB | refine' gCkpv | refine' gpR | refine' gLmpv | refine' gBdpv | refine' gE | (apply DrawA.quiet (by kernel_rfl) (by kernel_rfl); (conv => whnf); fail_if_success (show False))) <;> (conv => whnf))
    (refine' RetK.auto (.buf 0) ([some (AO.buf 141 nb (bs.map Bd.pv))]) rfl rfl rfl rfl _ _ _ <;> repeat' (first | exact trivial | refine And.intro ?_ ?_ | with_reducible rfl | (refine pIEq ?_; exact ar_) | (refine bufMap ?_) | (refine bufNil ?_) | (refine bufEq ?_) | rfl))
    exact ⟨bs, nb, ⟨hbs, fun i h => hown i h (by omega)⟩, by omega, rfl, rfl⟩
open Go.Abs
set_option maxRecDepth 100000
theorem tbegin_call (nl n2 : Bool) (l : List Ck) (m : List Lm) : ACall Tryz.prog 26 [.p (.list nl (l.map Ck.pv)), .p (.list n2 (m.map Lm.pv))] [] fun r H => ∃ e : Int, r = .p (pI e) ∧ H = [] ∧ (e = 0 → LimOK l m) := by
  refine acall_enter Tryz.func26 rfl rfl tabOK rfl ?_
  (conv => whnf); repeat' ((first | apply CondA.plain | refine' gC | refine' gpI | refine' gpB | refine' gCkpv | refine' gpR | refine' gLmpv | refine' gBdpv | refine' gE | (apply DrawA.quiet (by kernel_rfl) (by kernel_rfl); (conv => whnf); fail_if_success (show False)) | ((refine call_exI (Check_call nl l) ?_; intro e he)) | ((refine call_exB (cLimits_call nl n2 l m) ?_; intro b hb))) <;> (conv => whnf))
  · (refine RetK.p ?_ <;> repeat' (first | exact trivial | refine And.intro ?_ ?_ | with_reducible rfl | (refine pIEq ?_; exact ar_) | (refine bufMap ?_) | (refine bufNil ?_) | (refine bufEq ?_) | rfl); all_goals try first | refine pBEq ?_ | refine pIEq ?_)
    exact ⟨e, rfl, rfl, fun h => absurd h h0⟩
  · (refine RetK.p ?_ <;> repeat' (first | exact trivial | refine And.intro ?_ ?_ | with_reducible rfl | (refine pIEq ?_; exact ar_) | (refine bufMap ?_) | (refine bufNil ?_) | (refine bufEq ?_) | rfl); all_goals try first | refine pBEq ?_ | refine pIEq ?_)
    exact ⟨1, rfl, rfl, fun h => (by cases h)⟩
  · (refine RetK.p ?_ <;> repeat' (first | exact trivial | refine And.intro ?_ ?_ | with_reducible rfl | (refine pIEq ?_; exact ar_) | (refine bufMap ?_) | (refine bufNil ?_) | (refine bufEq ?_) | rfl); all_goals try first | refine pBEq ?_ | refine pIEq ?_)
    exact ⟨0, rfl, rfl, fun _ => hb.1 (by assumption)⟩
def pU (k : Int) : PV := .v (.int .u64 k)
def sv0 : AH := [some (.cells [.p (.list true [])]), some (.cells [.p (pB false)])]
def sv1 (b : Bool) (s : List Int) : AH := [some (.cells [.buf 2]), some (.cells [.p (pB true)]), some (AO.buf 3 b (s.map pI))]
def svB (nl : Bool) (s : List Int) : Option AO := some (AO.buf 3 nl (s.map pI))
theorem call_cloneI {P : Program} {f : FuncId} {args : List AV} {H : AH} {K : AV → AH → Prop} {e : TypeId} {xs : List Int} (h : ACall P f (toLocL H [] true args) [] fun r H' => ∃ b : Bool, r = .buf 0 ∧ H' = [some (AO.buf e b (xs.map pI))])
    (hk : ∀ b, K (.buf H.length) (H ++ [some (AO.buf e b (xs.map pI))])) : CallA P f args H K :=
  CallA.pure h fun r H' ⟨b, h1, h2⟩ => by
    subst h1; subst h2
    refine ⟨trivial, ?_, ?_⟩
    · simp [flatH, AO.flat]
      intro a _
      exact pI_flat a
    · have e0 : backρ [] H.length 0 = H.length := rfl
      simpa [renH, AV.ren, renL, e0, AO.ren] using hk b
theorem see_call (nl : Bool) (s : List Int) (hs : s.length ≤ 16) (k : Int) : ACall Tryz.prog 28 [.buf 2, .p (pU k), .ptr 0 0, .ptr 1 0] (sv0 ++ [svB nl s]) fun r H => (k ≠ 0 ∧ r = .p (pB true) ∧ H = sv0 ++ [svB nl s]) ∨ (k = 0 ∧ r = .p (pB false) ∧ ∃ b, H = [some (.cells [.buf 3]), some (.cells [.p (pB true)]), svB nl s, svB b s]) := by
  refine acall_enter Tryz.func28 rfl rfl tabOK rfl ?_
  (conv => whnf); repeat' ((first | apply CondA.plain | refine' gC | refine' gpI | refine' gpB | refine' gCkpv | refine' gpR | refine' gLmpv | refine' gBdpv | refine' gE | (apply DrawA.quiet (by kernel_rfl) (by kernel_rfl); (conv => whnf); fail_if_success (show False))) <;> (conv => whnf))
  · refine call_cloneI (CloneI_call nl s (by omega)) ?_
    intro b
    (conv => whnf); repeat' ((first | apply CondA.plain | refine' gC | refine' gpI | refine' gpB | refine' gCkpv | refine' gpR | refine' gLmpv | refine' gBdpv | refine' gE | (apply DrawA.quiet (by kernel_rfl) (by kernel_rfl); (conv => whnf); fail_if_success (show False))) <;> (conv => whnf))
    (refine RetK.mk _ _ _ [3] (.p (pB false)) [some (.cells [.buf 3]), some (.cells [.p (pB true)]), svB nl s, svB b s] rfl rfl ?_ rfl rfl ?_ <;> (repeat' (first | exact trivial | refine And.intro ?_ ?_ | with_reducible rfl | (refine pIEq ?_; exact ar_) | (refine bufMap ?_) | (refine bufNil ?_) | (refine bufEq ?_) | rfl)))
    exact .inr ⟨h0, rfl, b, rfl⟩
  · (refine' RetK.auto (.p (pB true)) (sv0 ++ [svB nl s]) rfl rfl rfl rfl _ _ _ <;> repeat' (first | exact trivial | refine And.intro ?_ ?_ | with_reducible rfl | (refine pIEq ?_; exact ar_) | (refine bufMap ?_) | (refine bufNil ?_) | (refine bufEq ?_) | rfl))
    exact .inl ⟨h0, rfl, rfl⟩
open Go.Abs
set_option maxRecDepth 100000
def rads (l : List Ck) : List Nat := l.map fun c => c.cs.length
theorem SetOK.v {l : List Ck} {s : List Int} (h : SetOK l s) : SetV (rads l) s := ⟨by rw [h.1]; simp [rads], fun i h1 h2 => by simpa [rads] using h.2 i h1 (by simpa [rads] using h2)⟩
theorem SetV.ok {l : List Ck} {s : List Int} (h : SetV (rads l) s) : SetOK l s := ⟨by rw [h.1]; simp [rads], fun i h1 h2 => by simpa [rads] using h.2 i h1 (by simpa [rads] using h2)⟩
theorem len_rts (l : List Ck) (s : List Int) : (rts l s).length = l.length := len_rtN l s _
/-- The clocks' own bounds are kept. -/
def Keeps1 (l : List Ck) (bs : List Bd) (s : List Int) : Prop := ∀ b ∈ bs, brk b ((rts l s).getD b.clk.toNat (0, 0)) = false
theorem or_ne (a : Int) {w : Int} (h : 0 < w ∧ w < 18446744073709551616) : 0 < ((BitVec.ofInt IntKind.u64.bits a ||| BitVec.ofInt IntKind.u64.bits w).toNat : Int) ∧ ((BitVec.ofInt IntKind.u64.bits a ||| BitVec.ofInt IntKind.u64.bits w).toNat : Int) ≤ 18446744073709551615 := by
  have h1 : (BitVec.ofInt IntKind.u64.bits w).toNat = w.toNat := by
    rw [BitVec.toNat_ofInt]
    show (w % ((2 ^ 64 : Nat) : Int)).toNat = _
    omega
  have h2 : (BitVec.ofInt IntKind.u64.bits w).toNat ≤ (BitVec.ofInt IntKind.u64.bits a ||| BitVec.ofInt IntKind.u64.bits w).toNat := by
    rw [BitVec.toNat_or]
    exact Nat.right_le_or
  have h3 := (BitVec.ofInt IntKind.u64.bits a ||| BitVec.ofInt IntKind.u64.bits w).isLt
  replace h3 : (BitVec.ofInt IntKind.u64.bits a ||| BitVec.ofInt IntKind.u64.bits w).toNat < 2 ^ 64 := h3
  omega
def tvA : Sc := (.frz 0 (.take 1 (.take 2 (.frz 3 (.take 4 (.load 5 (.one 6 .done)))))))
def tvBSC0 : Sc := (.one 11 (.take 12 (.take 13 (.take 14 (.take 15 .done)))))
def tvBSC1 : Sc := (.take 12 (.take 13 (.one 6 (.take 14 (.take 15 .done)))))
def tvB : Sc := (.take 0 (.take 1 (.take 2 (.take 3 (.take 4 (.take 5 (.take 7 (.take 8 (.take 9 (.take 10 (.two 6 11 tvBSC0 tvBSC1)))))))))))
set_option maxHeartbeats 8000000 in
theorem visit_call (nl n2 : Bool) (l : List Ck) (m : List Lm) (hl : LimOK l m) : ACall Tryz.prog 27 [.p (.list nl (l.map Ck.pv)), .p (.list n2 (m.map Lm.pv)), .clo (.func 28) [.ptr 0 0, .ptr 1 0]] sv0 fun r H => r = .tup [] ∧ (H = sv0 ∨ ∃ (s : List Int) (b : Bool) (bs : List Bd), SetOK l s ∧ BdOK l bs ∧ Keeps1 l bs s ∧ H = sv1 b s) := by
  refine acall_enter Tryz.func27 rfl rfl tabOK rfl ?_
  have h16 := hl.1.1
  have hr1 : ∀ r ∈ rads l, 1 ≤ r := fun r hr => by
    obtain ⟨c, hc, rfl⟩ := List.mem_map.1 hr
    obtain ⟨i, hi, rfl⟩ := List.getElem_of_mem hc
    exact (hl.1.v i hi).2.1.1
  (conv => whnf); repeat' ((first | apply CondA.plain | refine' gC | refine' gpI | refine' gpB | refine' gCkpv | refine' gpR | refine' gLmpv | refine' gBdpv | refine' gE | (apply DrawA.quiet (by kernel_rfl) (by kernel_rfl); (conv => whnf); fail_if_success (show False))) <;> (conv => whnf))
  refine CallA.loc [] [] rfl rfl ((all_call nl n2 l m h16 hl.2.1 hl.2.2).mono ?_)
  rintro _ _ ⟨bs, nb, hbs, hbl, rfl, rfl⟩
  (conv => whnf); repeat' ((first | apply CondA.plain | refine' gC | refine' gpI | refine' gpB | refine' gCkpv | refine' gpR | refine' gLmpv | refine' gBdpv | refine' gE | (apply DrawA.quiet (by kernel_rfl) (by kernel_rfl); (conv => whnf); fail_if_success (show False))) <;> (conv => whnf))
  refine loop_rule (fun (s : List Int) => ⟨[(0, .p (.list nl (l.map Ck.pv))), (2, .clo (.func 28) [.ptr 0 0, .ptr 1 0]), (6, .p (.list nb (bs.map Bd.pv))), (7, .buf 2)], [some (.cells [.p (.list true [])]), some (.cells [.p (pB false)]), some (AO.buf 3 false (s.map pI))]⟩) (fun (s : List Int) => SetOK l s) (fun (s : List Int) => prodN (rads l) - (numF (rads l) s).toNat) (List.replicate l.length 0) ?_ ?_ ?_; (refine SubA.thawed _ [2] [6] ?_; refine SubA.auto rfl rfl rfl rfl ?_ ?_ <;> repeat' (first | exact trivial | refine And.intro ?_ ?_ | with_reducible rfl | (refine pIEq ?_; exact ar_) | (refine bufMap ?_) | (refine bufNil ?_) | (refine bufEq ?_) | rfl))
  · exact ⟨by simp, fun i h h' => by
      have := (hl.1.v i h').2.1.1
      simp
      omega⟩
  intro s hs
  have hsl := hs.1
  have hrl := len_rts l s
  (conv => whnf); repeat' ((first | apply CondA.plain | refine' gC | refine' gpI | refine' gpB | refine' gCkpv | refine' gpR | refine' gLmpv | refine' gBdpv | refine' gE | (apply DrawA.quiet (by kernel_rfl) (by kernel_rfl); (conv => whnf); fail_if_success (show False)) | ((refine call_rates (Rates_call nl false l s hl.1 hs) ?_; intro b0))) <;> (conv => whnf))
  refine loop_rule (fun (⟨q, br⟩ : Nat × Int) => ⟨[(0, .p (.list nl (l.map Ck.pv))), (2, .clo (.func 28) [.ptr 0 0, .ptr 1 0]), (6, .p (.list nb (bs.map Bd.pv))), (7, .buf 2), (8, .p (.list b0 ((rts l s).map pR))), (10, .p (pU br)), (26, .p (.list nb (bs.map Bd.pv))), (27, .p (pI bs.length)), (28, .p (pI q))], [some (.cells [.p (.list true [])]), some (.cells [.p (pB false)]), some (AO.buf 3 false (s.map pI))]⟩) (fun (⟨q, br⟩ : Nat × Int) => q ≤ bs.length ∧ 0 ≤ br ∧ br < 18446744073709551616 ∧ (br = 0 → ∀ k (h : k < bs.length), k < q → brk bs[k] ((rts l s).getD (bs[k]).clk.toNat (0, 0)) = false)) (fun (⟨q, br⟩ : Nat × Int) => bs.length - q) (0, 0) ?_ ?_ ?_; (refine SubA.thawed _ [3] [8] ?_; refine SubA.auto rfl rfl rfl rfl ?_ ?_ <;> repeat' (first | exact trivial | refine And.intro ?_ ?_ | with_reducible rfl | (refine pIEq ?_; exact ar_) | (refine bufMap ?_) | (refine bufNil ?_) | (refine bufEq ?_) | rfl))
  · exact ⟨by omega, by omega, by omega, by omega⟩
  rintro ⟨q, br⟩ ⟨hq, hb0, hb1, hbz⟩
  try simp only at hq hb0 hb1 hbz
  rcases Nat.lt_or_ge q bs.length with hlt | hge
  · have hbc := hbs.1 _ (List.getElem_mem hlt)
    have hgr : (rts l s).getD (bs[q]).clk.toNat (0, 0) = (rts l s)[(bs[q]).clk.toNat]'(by omega) := getD_at _
    (conv => whnf); repeat' ((first | apply CondA.plain | refine' gC | refine' gpI | refine' gpB | refine' gCkpv | refine' gpR | refine' gLmpv | refine' gBdpv | refine' gE | fail) <;> (conv => whnf))
    refine DrawA.retire 12 3 [pI bs[q].ix, pI bs[q].clk, pI bs[q].lo, pI bs[q].hi, pB bs[q].own] rfl rfl ?_
    (conv => whnf); repeat' ((first | apply CondA.plain | refine' gC | refine' gpI | refine' gpB | refine' gCkpv | refine' gpR | refine' gLmpv | refine' gBdpv | refine' gE | (apply DrawA.orders tvA (by kernel_rfl) (by kernel_rfl) (by decide +kernel)) | (refine CallA.scalar (broken_call _ _) ?_)) <;> (conv => whnf))
    · have hw : 0 < (1 * 2 ^ min ((q : Int)).toNat IntKind.u64.bits : Int) ∧ (1 * 2 ^ min ((q : Int)).toNat IntKind.u64.bits : Int) < 18446744073709551616 := by
        have e : min ((q : Int)).toNat IntKind.u64.bits = q := by show min _ 64 = _; omega
        rw [e]
        have h1 : (2 : Int) ^ q ≤ 2 ^ 48 := by exact_mod_cast Nat.pow_le_pow_right (by omega) (by omega)
        have h2 : (0 : Int) < 2 ^ q := by exact_mod_cast Nat.pow_pos (by omega)
        omega
      generalize (1 * 2 ^ min ((q : Int)).toNat IntKind.u64.bits : Int) = w at hw ⊢
      refine NW.u64 (by omega) ?_
      (conv => whnf); repeat' ((first | apply CondA.plain | refine' gC | refine' gpI | refine' gpB | refine' gCkpv | refine' gpR | refine' gLmpv | refine' gBdpv | refine' gE | fail) <;> (conv => whnf))
      have ho := or_ne br hw
      generalize ((BitVec.ofInt IntKind.u64.bits br ||| BitVec.ofInt IntKind.u64.bits w).toNat : Int) = v at ho ⊢
      refine NW.u64 (by omega) ?_
      (conv => whnf); repeat' ((first | apply CondA.plain | refine' gC | refine' gpI | refine' gpB | refine' gCkpv | refine' gpR | refine' gLmpv | refine' gBdpv | refine' gE | fail) <;> (conv => whnf))
      (refine' ⟨(q + 1, v), _, _, _⟩; rotate_right; (refine SubA.auto rfl rfl rfl rfl ?_ ?_ <;> repeat' (first | exact trivial | refine And.intro ?_ ?_ | with_reducible rfl | (refine pIEq ?_; exact ar_) | (refine bufMap ?_) | (refine bufNil ?_) | (refine bufEq ?_) | rfl)); rotate_right; exact ar2_)
      exact ⟨by omega, by omega, by omega, by omega⟩
    · (refine' ⟨(q + 1, br), _, _, _⟩; rotate_right; (refine SubA.auto rfl rfl rfl rfl ?_ ?_ <;> repeat' (first | exact trivial | refine And.intro ?_ ?_ | with_reducible rfl | (refine pIEq ?_; exact ar_) | (refine bufMap ?_) | (refine bufNil ?_) | (refine bufEq ?_) | rfl)); rotate_right; exact ar2_)
      refine ⟨by omega, hb0, hb1, fun h k hk hkq => ?_⟩
      rcases Nat.lt_or_ge k q with h1 | h1
      · exact hbz h k hk h1
      · obtain rfl : k = q := by omega
        rw [hgr]
        exact h0
  have hq' : q = bs.length := by omega
  subst hq'
  (conv => whnf); repeat' ((first | apply CondA.plain | refine' gC | refine' gpI | refine' gpB | refine' gCkpv | refine' gpR | refine' gLmpv | refine' gBdpv | refine' gE | fail) <;> (conv => whnf))
  refine CallA.loc [0, 1, 2] [] rfl rfl ((see_call false s (by omega) br).mono ?_)
  rintro _ _ (⟨hne, rfl, rfl⟩ | ⟨h00, rfl, b, rfl⟩)
  rotate_left
  · (conv => whnf); repeat' ((first | apply CondA.plain | refine' gC | refine' gpI | refine' gpB | refine' gCkpv | refine' gpR | refine' gLmpv | refine' gBdpv | refine' gE | fail) <;> (conv => whnf))
    (refine RetK.mk _ _ _ [3] (.tup []) (sv1 b s) rfl rfl ?_ rfl rfl ?_ <;> (repeat' (first | exact trivial | refine And.intro ?_ ?_ | with_reducible rfl | (refine pIEq ?_; exact ar_) | (refine bufMap ?_) | (refine bufNil ?_) | (refine bufEq ?_) | rfl)))
    refine .inr ⟨s, b, bs, hs, hbs, fun x hx => ?_, rfl⟩
    obtain ⟨k, hk, rfl⟩ := List.getElem_of_mem hx
    exact hbz h00 k hk hk
  (conv => whnf); repeat' ((first | apply CondA.plain | refine' gC | refine' gpI | refine' gpB | refine' gCkpv | refine' gpR | refine' gLmpv | refine' gBdpv | refine' gE | fail) <;> (conv => whnf))
  refine loop_rule (fun (a : Nat) => ⟨[(0, .p (.list nl (l.map Ck.pv))), (2, .clo (.func 28) [.ptr 0 0, .ptr 1 0]), (6, .p (.list nb (bs.map Bd.pv))), (7, .buf 2), (13, .p (pI ((a : Int) - 1)))], [some (.cells [.p (.list true [])]), some (.cells [.p (pB false)]), svB false s]⟩) (fun (a : Nat) => a ≤ l.length ∧ ∀ (i : Nat) (h : i < s.length) (h' : i < l.length), a ≤ i → s[i] = (l[i].cs.length : Int) - 1) (fun (a : Nat) => a) l.length ?_ ?_ ?_; (refine SubA.auto rfl rfl rfl rfl ?_ ?_ <;> repeat' (first | exact trivial | refine And.intro ?_ ?_ | with_reducible rfl | (refine pIEq ?_; exact ar_) | (refine bufMap ?_) | (refine bufNil ?_) | (refine bufEq ?_) | rfl))
  · exact ⟨by omega, by omega⟩
  clear hbz hb0 hb1 hge hq
  rintro a ⟨ha, hmax⟩
  rcases a with _ | a
  · (conv => whnf); repeat' ((first | apply CondA.plain | refine' gC | refine' gpI | refine' gpB | refine' gCkpv | refine' gpR | refine' gLmpv | refine' gBdpv | refine' gE | (apply DrawA.orders tvB (by kernel_rfl) (by kernel_rfl) (by decide +kernel))) <;> (conv => whnf))
    all_goals
      (refine' RetK.auto (.tup []) (sv0) rfl rfl rfl rfl _ _ _ <;> repeat' (first | exact trivial | refine And.intro ?_ ?_ | with_reducible rfl | (refine pIEq ?_; exact ar_) | (refine bufMap ?_) | (refine bufNil ?_) | (refine bufEq ?_) | rfl))
      exact .inl rfl
  have hz : (((a + 1 : Nat)) : Int) - 1 = (a : Nat) := by omega
  have has : a < s.length := by omega
  have hal : a < l.length := by omega
  have hsa := hs.2 a has hal
  have hca := (hl.1.v a hal).2.2.2
  rw [hz]
  by_cases hea : s[a] = (l[a].cs.length : Int) - 1
  · (conv => whnf); repeat' ((first | apply CondA.plain | refine' gC | refine' gpI | refine' gpB | refine' gCkpv | refine' gpR | refine' gLmpv | refine' gBdpv | refine' gE | (apply DrawA.orders tvB (by kernel_rfl) (by kernel_rfl) (by decide +kernel))) <;> (conv => whnf))
    all_goals
      (refine' ⟨a, _, _, _⟩; rotate_right; (refine SubA.auto rfl rfl rfl rfl ?_ ?_ <;> repeat' (first | exact trivial | refine And.intro ?_ ?_ | with_reducible rfl | (refine pIEq ?_; exact ar_) | (refine bufMap ?_) | (refine bufNil ?_) | (refine bufEq ?_) | rfl)); rotate_right; exact ar2_)
    all_goals first
      | omega
      | (refine ⟨by omega, fun i h h' hai => ?_⟩
         rcases Nat.lt_or_ge a i with h1 | h1
         · exact hmax i h h' h1
         · obtain rfl : i = a := by omega
           exact hea)
  · have hV := nextS_V hr1 hs.v has (by simpa [rads] using hea)
    have hN := nextS_num hr1 hs.v has (by simpa [rads] using hea) fun i h h' hai => by
      have := hmax i h (by omega) (by omega)
      simpa [rads] using this
    have hR := numF_range hV
    have hR0 := numF_range hs.v
    have e : ((a : Int) + 1).toNat = a + 1 := by omega
    have e2 : (s.set a (s[a] + 1)).take (a + 1) = s.take a ++ [s[a] + 1] := by
      apply List.ext_getElem
      · simp; omega
      · intro i h1 h2
        simp only [List.getElem_take, List.getElem_set, List.getElem_append, List.length_take]
        simp only [List.length_take, List.length_set] at h1
        split
        · subst_vars
          rw [dif_neg (by omega)]
          simp
        · rw [dif_pos (by omega)]
    have hpz : pz (Value.int IntKind.i64 0) = pI 0 := rfl
    (conv => whnf); repeat' ((first | apply CondA.plain | refine' gC | refine' gpI | refine' gpB | refine' gCkpv | refine' gpR | refine' gLmpv | refine' gBdpv | refine' gE | (apply DrawA.orders tvB (by kernel_rfl) (by kernel_rfl) (by decide +kernel))) <;> (conv => whnf))
    all_goals
      refine IsL.mk ((nextS s a).map pI) ?_ ?_
      · simp only [Option.getD_none, List.length_map, List.length_set, Int.toNat_natCast, e, hpz]
        rw [← List.map_take, ← List.map_drop, List.drop_eq_nil_of_le (by simp), nextS, getD_at has, e2]
        simp
      (conv => whnf); repeat' ((first | apply CondA.plain | refine' gC | refine' gpI | refine' gpB | refine' gCkpv | refine' gpR | refine' gLmpv | refine' gBdpv | refine' gE | fail) <;> (conv => whnf))
      (refine' ⟨nextS s a, _, _, _⟩; rotate_right; (refine SubA.auto rfl rfl rfl rfl ?_ ?_ <;> repeat' (first | exact trivial | refine And.intro ?_ ?_ | with_reducible rfl | (refine pIEq ?_; exact ar_) | (refine bufMap ?_) | (refine bufNil ?_) | (refine bufEq ?_) | rfl)); rotate_right; exact ar2_)
    all_goals exact hV.ok
open Go.Abs
set_option maxRecDepth 100000
/-- A setting keeps the clocks' own limits. -/
def OwnOK (l : List Ck) (s : List Int) : Prop := ∀ (i : Nat) (h : i < l.length), l[i].hi ≠ 0 → ((rts l s).getD i (0, 0)).1 = 0 ∨ withinR ((rts l s).getD i (0, 0)).1 ((rts l s).getD i (0, 0)).2 l[i].lo l[i].hi = true
theorem own_of {l : List Ck} {bs : List Bd} {s : List Int} (h : BdOK l bs) (hk : Keeps1 l bs s) : OwnOK l s := fun i hi hh => by
  obtain ⟨b, hb, h1, h2, h3, h4⟩ := h.2 i hi hh
  have h5 := hk b hb
  rw [h1, Int.toNat_natCast] at h5
  unfold brk at h5
  rw [h2, h3, h4] at h5
  split at h5
  · exact .inl (by assumption)
  · exact .inr (by simpa using h5)
theorem Solve_call (nl n2 : Bool) (l : List Ck) (m : List Lm) : ACall Tryz.prog 11 [.p (.list nl (l.map Ck.pv)), .p (.list n2 (m.map Lm.pv))] [] fun r H => (∃ e : Int, e ≠ 0 ∧ r = .tup [.p (.list true []), .p (pI e)] ∧ H = []) ∨ ∃ (s : List Int) (b : Bool), CkOK l ∧ SetOK l s ∧ OwnOK l s ∧ r = .tup [.p (.list b (s.map pI)), .p (pI 0)] ∧ H = [] := by
  refine acall_enter Tryz.func11 rfl rfl tabOK rfl ?_
  (conv => whnf); repeat' ((first | apply CondA.plain | refine' gC | refine' gpI | refine' gpB | refine' gCkpv | refine' gpR | refine' gLmpv | refine' gBdpv | refine' gE | (apply DrawA.quiet (by kernel_rfl) (by kernel_rfl); (conv => whnf); fail_if_success (show False)) | ((refine call_exI (tbegin_call nl n2 l m) ?_; intro e he))) <;> (conv => whnf))
  · (refine' RetK.auto (.tup [.p (.list true []), .p (pI e)]) ([]) rfl rfl rfl rfl _ _ _ <;> repeat' (first | exact trivial | refine And.intro ?_ ?_ | with_reducible rfl | (refine pIEq ?_; exact ar_) | (refine bufMap ?_) | (refine bufNil ?_) | (refine bufEq ?_) | rfl))
    exact .inl ⟨e, h0, rfl, rfl⟩
  refine CallA.loc [0, 1] [] rfl rfl ((visit_call nl n2 l m (he h0)).mono ?_)
  rintro _ _ ⟨rfl, rfl | ⟨s, b, bs, hs, hb, hk, rfl⟩⟩
  · (conv => whnf); repeat' ((first | apply CondA.plain | refine' gC | refine' gpI | refine' gpB | refine' gCkpv | refine' gpR | refine' gLmpv | refine' gBdpv | refine' gE | (apply DrawA.quiet (by kernel_rfl) (by kernel_rfl); (conv => whnf); fail_if_success (show False))) <;> (conv => whnf))
    (refine' RetK.auto (.tup [.p (.list true []), .p (pI 9)]) ([]) rfl rfl rfl rfl _ _ _ <;> repeat' (first | exact trivial | refine And.intro ?_ ?_ | with_reducible rfl | (refine pIEq ?_; exact ar_) | (refine bufMap ?_) | (refine bufNil ?_) | (refine bufEq ?_) | rfl))
    exact .inl ⟨9, by omega, rfl, rfl⟩
  · (conv => whnf); repeat' ((first | apply CondA.plain | refine' gC | refine' gpI | refine' gpB | refine' gCkpv | refine' gpR | refine' gLmpv | refine' gBdpv | refine' gE | (apply DrawA.quiet (by kernel_rfl) (by kernel_rfl); (conv => whnf); fail_if_success (show False))) <;> (conv => whnf))
    (refine RetK.frz _ _ _ [2] ?_; refine' RetK.auto (.tup [.p (.list b (s.map pI)), .p (pI 0)]) ([]) rfl rfl rfl rfl _ _ _ <;> repeat' (first | exact trivial | refine And.intro ?_ ?_ | with_reducible rfl | (refine pIEq ?_; exact ar_) | (refine bufMap ?_) | (refine bufNil ?_) | (refine bufEq ?_) | rfl))
    exact .inr ⟨s, b, (he h0).1, hs, own_of hb hk, rfl, rfl⟩
open Go.Abs
set_option maxRecDepth 100000
/-- A write to a clock, and what it does. -/
def CwV (l : List Ck) (w : Wr) : Prop := w.kind = 1 ∧ (0 ≤ w.unit ∧ w.unit < (l.length : Int)) ∧ 0 ≤ w.value ∧ w.value < ((l.getD w.unit.toNat default).cs.length : Int)
def applyC (s : List Int) (w : Wr) : List Int := s.set w.unit.toNat w.value
theorem applyC_ok {l : List Ck} {s : List Int} (h : SetOK l s) {w : Wr} (hw : CwV l w) : SetOK l (applyC s w) := by
  obtain ⟨_, hu, hv⟩ := hw
  refine ⟨by rw [applyC, List.length_set, h.1], fun i h1 h2 => ?_⟩
  simp only [applyC, List.length_set] at h1
  simp only [applyC, List.getElem_set]
  split
  · subst_vars
    rw [getD_at h2] at hv
    exact hv
  · exact h.2 i h1 h2
theorem cpOf {α : Type} {f : α → PV} {xs ys : List PV} {lo hi : Nat} {k : Nat → List PV → Prop} (l r : List α) (n : Nat) (hx : xs = l.map f) (hy : ys = r.map f) (hn : min (hi - lo) r.length = n) (hk : k n ((l.take lo ++ r.take n ++ l.drop (lo + n)).map f)) : CpA xs ys lo hi k := by
  subst hx; subst hy
  refine ⟨n, _, by rw [List.length_map]; exact hn, ?_, hk⟩
  simp only [List.map_append, List.map_take, List.map_drop]
def ryA : Sc := (.take 0 (.frz 1 (.take 2 (.take 3 (.take 4 (.frz 5 (.take 6 (.take 7 (.frz 8 (.take 9 (.take 10 (.one 11 (.take 12 (.take 13 (.take 14 (.take 15 .done))))))))))))))))
set_option maxHeartbeats 2000000 in
theorem rApply_call (nl n2 : Bool) (l : List Ck) (s : List Int) (w : Wr) (hl : CkOK l) (hs : SetOK l s) (hw : CwV l w) : ACall Tryz.prog 95 [.p (.list nl (l.map Ck.pv)), .p (.list n2 (s.map pI)), .p w.pv] [] fun r H => ∃ b : Bool, r = .tup [.buf 0, .p (pI 0)] ∧ H = [some (AO.buf 3 b ((applyC s w).map pI))] := by
  refine acall_enter Tryz.func95 rfl rfl tabOK rfl ?_
  obtain ⟨hk, hu, hv⟩ := hw
  have h16 := hl.1
  have hsl := hs.1
  have hul : w.unit.toNat < l.length := by omega
  rw [getD_at hul] at hv
  have h8 := hl.2.1 _ (List.getElem_mem hul)
  (conv => whnf); repeat' ((first | apply CondA.plain | refine' gC | refine' gpI | refine' gpB | refine' gCkpv | refine' gWrpv | refine' gE | ((refine call_exI (Check_call nl l) ?_; intro e he)) | ((refine call_exB (cSetting_call nl n2 l s) ?_; intro b hb))) <;> (conv => whnf))
  · exact absurd ((by assumption : _ ↔ CkOK l).2 hl) (by simp_all)
  · have := hb.2 ⟨hl, hs⟩
    rw [h0] at this
    cases this
  have hcp : List.take 0 (List.replicate (s.length : Int).toNat 0) ++ List.take s.length s ++ List.drop (0 + s.length) (List.replicate (s.length : Int).toNat (0 : Int)) = s := by simp
  refine DrawA.retire 5 0 [pI w.kind, pI w.unit, pI w.value] rfl rfl ?_
  (conv => whnf); repeat' ((first | apply CondA.plain | refine' gC | refine' gpI | refine' gpB | refine' gCkpv | refine' gWrpv | refine' gE | (apply DrawA.orders ryA (by kernel_rfl) (by kernel_rfl) (by decide +kernel))) <;> (conv => whnf))
  refine cpOf (f := pI) (List.replicate (s.length : Int).toNat 0) s s.length rfl rfl (by simp) ?_
  rw [hcp]
  (conv => whnf); repeat' ((first | apply CondA.plain | refine' gC | refine' gpI | refine' gpB | refine' gCkpv | refine' gWrpv | refine' gE | (apply DrawA.quiet (by kernel_rfl) (by kernel_rfl); (conv => whnf); fail_if_success (show False))) <;> (conv => whnf))
  (refine' RetK.auto (.tup [.buf 0, .p (pI 0)]) ([some (AO.buf 3 _ ((applyC s w).map pI))]) rfl rfl rfl rfl _ _ _ <;> repeat' (first | exact trivial | refine And.intro ?_ ?_ | with_reducible rfl | (refine pIEq ?_; exact ar_) | (refine bufMap ?_) | (refine bufNil ?_) | (refine bufEq ?_) | rfl))
  exact ⟨_, rfl, rfl⟩
open Go.Abs
set_option maxRecDepth 100000
theorem cnil_index (cs : List PV) : ACall Tryz.prog 152 [.p (.list true []), .clo (.func 172) [.rptr cs]] [] fun r H => r = .p (pI (-1)) ∧ H = [] := by
  refine acall_enter Tryz.func152 rfl rfl tabOK rfl ?_
  (conv => whnf); repeat' ((first | apply CondA.plain | refine' gC | refine' gpI | refine' gpB | refine' gCkpv | refine' gpR | refine' gE | (apply DrawA.quiet (by kernel_rfl) (by kernel_rfl); (conv => whnf); fail_if_success (show False)) | ((refine LenA.mk 0 rfl ?_; intro _)) | (apply LoopA.unroll)) <;> (conv => whnf))
  (refine RetK.p ?_ <;> repeat' (first | exact trivial | refine And.intro ?_ ?_ | with_reducible rfl | (refine pIEq ?_; exact ar_) | (refine bufMap ?_) | (refine bufNil ?_) | (refine bufEq ?_) | rfl); all_goals try first | refine pBEq ?_ | refine pIEq ?_)
theorem cnil_contains (cs : List PV) : ACall Tryz.prog 111 [.p (.list true []), .clo (.func 172) [.rptr cs]] [] fun r H => r = .p (pB false) ∧ H = [] := by
  refine acall_enter Tryz.func111 rfl rfl tabOK rfl ?_
  (conv => whnf); repeat' ((first | apply CondA.plain | refine' gC | refine' gpI | refine' gpB | refine' gCkpv | refine' gpR | refine' gE | (apply DrawA.quiet (by kernel_rfl) (by kernel_rfl); (conv => whnf); fail_if_success (show False)) | (refine CallA.scalar (cnil_index cs) ?_)) <;> (conv => whnf))
  (refine RetK.p ?_ <;> repeat' (first | exact trivial | refine And.intro ?_ ?_ | with_reducible rfl | (refine pIEq ?_; exact ar_) | (refine bufMap ?_) | (refine bufNil ?_) | (refine bufEq ?_) | rfl); all_goals try first | refine pBEq ?_ | refine pIEq ?_)
def rcA : Sc := (.frz 0 (.take 1 (.take 2 (.take 3 (.frz 4 (.take 5 (.take 6 (.take 7 (.frz 8 (.take 9 (.take 10 (.take 11 (.frz 12 (.take 13 (.take 14 (.frz 15 (.take 16 (.frz 17 (.take 18 (.frz 19 (.one 20 (.take 21 (.take 22 .done)))))))))))))))))))))))
/-- What a clock's own limits ask. -/
def OwnAt (l : List Ck) (s : List Int) (i : Nat) (h : i < l.length) : Prop := l[i].hi ≠ 0 → ((rts l s).getD i (0, 0)).1 = 0 ∨ withinR ((rts l s).getD i (0, 0)).1 ((rts l s).getD i (0, 0)).2 l[i].lo l[i].hi = true
set_option maxHeartbeats 4000000 in
theorem calm_call (nl n2 : Bool) (l : List Ck) (s : List Int) (hl : CkOK l) (hs : SetOK l s) : ACall Tryz.prog 140 [.p (.list nl (l.map Ck.pv)), .p (.list n2 (s.map pI)), .p (.list true [])] [] fun r H => ∃ b : Bool, r = .p (pB b) ∧ H = [] ∧ (b = true ↔ OwnOK l s) := by
  refine acall_enter Tryz.func140 rfl rfl tabOK rfl ?_
  have hrl := len_rts l s
  (conv => whnf); repeat' ((first | apply CondA.plain | refine' gC | refine' gpI | refine' gpB | refine' gCkpv | refine' gpR | refine' gE | (apply DrawA.quiet (by kernel_rfl) (by kernel_rfl); (conv => whnf); fail_if_success (show False)) | ((refine call_rates (Rates_call nl n2 l s hl hs) ?_; intro b0))) <;> (conv => whnf))
  refine loop_rule (fun (c : Nat) => ⟨[(2, .p (.list true [])), (7, .rptr [.list b0 ((rts l s).map pR)]), (17, .p (.list nl (l.map Ck.pv))), (18, .p (pI l.length)), (19, .p (pI c))], []⟩) (fun (c : Nat) => c ≤ l.length ∧ ∀ (i : Nat) (h : i < l.length), i < c → OwnAt l s i h) (fun (c : Nat) => l.length - c) 0 ?_ ?_ ?_; (refine SubA.thawed _ [0] [] ?_; refine SubA.cells _ [1] ?_; refine SubA.ret _ 7 1 [.list b0 ((rts l s).map pR)] rfl rfl ?_; refine SubA.auto rfl rfl rfl rfl ?_ ?_ <;> repeat' (first | exact trivial | refine And.intro ?_ ?_ | with_reducible rfl | (refine pIEq ?_; exact ar_) | (refine bufMap ?_) | (refine bufNil ?_) | (refine bufEq ?_) | rfl))
  · exact ⟨by omega, by omega⟩
  rintro c ⟨hc, hok⟩
  rcases Nat.lt_or_ge c l.length with hlt | hge
  · have hgc : (rts l s).getD c (0, 0) = (rts l s)[c]'(by omega) := getD_at _
    (conv => whnf); repeat' ((first | apply CondA.plain | refine' gC | refine' gpI | refine' gpB | refine' gCkpv | refine' gpR | refine' gE | fail) <;> (conv => whnf))
    refine DrawA.retire 10 0 [pI l[c].kind, .list l[c].pn (l[c].ps.map pI), .list l[c].cn (l[c].cs.map pI), pI l[c].lo, pI l[c].hi] rfl rfl ?_
    (conv => whnf); repeat' ((first | apply CondA.plain | refine' gC | refine' gpI | refine' gpB | refine' gCkpv | refine' gpR | refine' gE | (apply DrawA.orders rcA (by kernel_rfl) (by kernel_rfl) (by decide +kernel)) | (refine CallA.scalar (cWithin_call _ _ _ _) ?_)) <;> (conv => whnf))
    · (refine RetK.p ?_ <;> repeat' (first | exact trivial | refine And.intro ?_ ?_ | with_reducible rfl | (refine pIEq ?_; exact ar_) | (refine bufMap ?_) | (refine bufNil ?_) | (refine bufEq ?_) | rfl); all_goals try first | refine pBEq ?_ | refine pIEq ?_)
      refine ⟨_, rfl, rfl, fun h => (by cases h), fun h => ?_⟩
      have h7 := h c hlt
      rw [hgc] at h7
      simp_all
    all_goals
      (refine' ⟨c + 1, _, _, _⟩; rotate_right; (refine SubA.auto rfl rfl rfl rfl ?_ ?_ <;> repeat' (first | exact trivial | refine And.intro ?_ ?_ | with_reducible rfl | (refine pIEq ?_; exact ar_) | (refine bufMap ?_) | (refine bufNil ?_) | (refine bufEq ?_) | rfl)); rotate_right; exact ar2_)
      refine ⟨by omega, fun i h hic => ?_⟩
      rcases Nat.lt_or_ge i c with h1 | h1
      · exact hok i h h1
      · obtain rfl : i = c := by omega
        unfold OwnAt
        rw [hgc]
        simp_all
  · (conv => whnf); repeat' ((first | apply CondA.plain | refine' gC | refine' gpI | refine' gpB | refine' gCkpv | refine' gpR | refine' gE | (refine CallA.scalar (cnil_contains _) ?_)) <;> (conv => whnf))
    (refine RetK.p ?_ <;> repeat' (first | exact trivial | refine And.intro ?_ ?_ | with_reducible rfl | (refine pIEq ?_; exact ar_) | (refine bufMap ?_) | (refine bufNil ?_) | (refine bufEq ?_) | rfl); all_goals try first | refine pBEq ?_ | refine pIEq ?_)
    exact ⟨_, rfl, rfl, fun _ i h => hok i h (by omega), fun _ => rfl⟩
/-- Calm, as it is asked from outside. -/
theorem Calm_call (nl n2 : Bool) (l : List Ck) (s : List Int) (hl : CkOK l) (hs : SetOK l s) : ACall Tryz.prog 88 [.p (.list nl (l.map Ck.pv)), .p (.list n2 (s.map pI)), .p (.list true [])] [] fun r H => ∃ b : Bool, r = .p (pB b) ∧ H = [] ∧ (b = true ↔ OwnOK l s) := by
  refine acall_enter Tryz.func88 rfl rfl tabOK rfl ?_
  have hlim : LimOK l [] := ⟨hl, by simp, by simp⟩
  (conv => whnf); repeat' ((first | apply CondA.plain | refine' gC | refine' gpI | refine' gpB | refine' gCkpv | refine' gpR | refine' gE | (apply DrawA.quiet (by kernel_rfl) (by kernel_rfl); (conv => whnf); fail_if_success (show False)) | ((refine call_exB (cLimits_call nl true l []) ?_; intro b1 hb1)) | ((refine call_exB (cSetting_call nl n2 l s) ?_; intro b2 hb2)) | ((refine call_exB (calm_call nl n2 l s hl hs) ?_; intro b hb))) <;> (conv => whnf))
  all_goals
    (refine RetK.p ?_ <;> repeat' (first | exact trivial | refine And.intro ?_ ?_ | with_reducible rfl | (refine pIEq ?_; exact ar_) | (refine bufMap ?_) | (refine bufNil ?_) | (refine bufEq ?_) | rfl); all_goals try first | refine pBEq ?_ | refine pIEq ?_)
  · exact ⟨b, rfl, rfl, hb⟩
  · rw [hb2.2 ⟨hl, hs⟩] at h0
    cases h0
  · rw [hb1.2 hlim] at h0
    cases h0
open Go.Abs
set_option maxRecDepth 100000
/-- The map of what is known. -/
def knE (kn : List (Int × Bool)) : List (Value × Value) := kn.map fun p => (.int .i64 p.1, .bool p.2)
theorem stN_prod {l : List Ck} : ∀ c, c ≤ l.length → stN l c = (prodN ((rads l).take c) : Int)
  | 0, _ => by simp [stN, prodN]
  | c + 1, h => by
    have e : c < (rads l).length := by simp [rads]; omega
    rw [stN, stN_prod c (by omega), List.take_succ_eq_append_getElem e, prodN_app, Int.natCast_mul, getD_at (show c < l.length by omega)]
    simp [prodN, rads]
theorem num_step {l : List Ck} {s : List Int} (hl : CkOK l) (hs : SetOK l s) {c : Nat} (hc : c < l.length) : 0 ≤ numF ((rads l).take c) (s.take c) * (l[c].cs.length : Int) ∧ numF ((rads l).take c) (s.take c) * (l[c].cs.length : Int) ≤ 4096 * 8 ∧ (0 ≤ s[c]'(by rw [hs.1]; exact hc) ∧ s[c]'(by rw [hs.1]; exact hc) ≤ 8) ∧
    numF ((rads l).take (c + 1)) (s.take (c + 1)) = numF ((rads l).take c) (s.take c) * (l[c].cs.length : Int) + s[c]'(by rw [hs.1]; exact hc) := by
  have hr : c < (rads l).length := by simp [rads]; exact hc
  have hcs : c < s.length := by rw [hs.1]; exact hc
  have h1 := numF_range (hs.v.take c)
  have h2 : stN l c ≤ 4096 := by
    rcases c with _ | c
    · simp [stN]
    · exact (hl.2.2.2 c (by omega)).1
  rw [stN_prod c (by omega)] at h2
  have h3 := (hl.2.1 _ (List.getElem_mem hc)).2
  have h4 := hs.2 c hcs hc
  refine ⟨Int.mul_nonneg h1.1 (by omega), Int.mul_le_mul (by omega) (by omega) (by omega) (by omega), ⟨h4.1, by omega⟩, ?_⟩
  have h5 := numA_snoc hs.v.1 hr
  have h6 : (rads l)[c] = l[c].cs.length := by simp [rads]
  rw [h6] at h5
  exact h5
theorem number_call (nl : Bool) (l : List Ck) (kn : List (Int × Bool)) (n2 : Bool) (s : List Int) (hl : CkOK l) (hs : SetOK l s) : ACall Tryz.prog 92 [.agg [.p (.list nl (l.map Ck.pv)), .p (.list true []), .mp 0], .buf 1] [some (.map (knE kn)), some (AO.buf 3 n2 (s.map pI))] fun r H => r = .p (pI (numF (rads l) s)) ∧ H = [some (.map (knE kn)), some (AO.buf 3 n2 (s.map pI))] := by
  refine acall_enter Tryz.func92 rfl rfl tabOK rfl ?_
  have hsl := hs.1
  have h16 := hl.1
  have hrl : (rads l).length = l.length := by simp [rads]
  have hR := fun c hc => num_step hl hs (c := c) hc
  (conv => whnf); repeat' ((first | apply CondA.plain | refine' gC | refine' gpI | refine' gpB | refine' gCkpv | refine' gE | (apply DrawA.quiet (by kernel_rfl) (by kernel_rfl); (conv => whnf); fail_if_success (show False))) <;> (conv => whnf))
  refine loop_rule (fun (c : Nat) => ⟨[(2, .ptr 2 0), (5, .p (pI (numF ((rads l).take c) (s.take c)))), (8, .buf 1), (9, .p (pI s.length)), (10, .p (pI c))], [some (.map (knE kn)), some (AO.buf 3 n2 (s.map pI)), some (.cells [.p (.list nl (l.map Ck.pv)), .p (.list true []), .mp 0])]⟩) (fun (c : Nat) => c ≤ l.length) (fun (c : Nat) => l.length - c) 0 ?_ ?_ ?_; (refine SubA.auto rfl rfl rfl rfl ?_ ?_ <;> repeat' (first | exact trivial | refine And.intro ?_ ?_ | with_reducible rfl | (refine pIEq ?_; exact ar_) | (refine bufMap ?_) | (refine bufNil ?_) | (refine bufEq ?_) | rfl))
  · omega
  rintro c hc
  replace hc : c ≤ l.length := hc
  rcases Nat.lt_or_ge c l.length with hlt | hge
  · have hcs : c < s.length := by omega
    obtain ⟨g1, g2, g3, g4⟩ := hR c hlt
    generalize numF ((rads l).take c) (s.take c) = n at g1 g2 g3 g4 ⊢
    (conv => whnf); repeat' ((first | apply CondA.plain | refine' gC | refine' gpI | refine' gpB | refine' gCkpv | refine' gE | (apply DrawA.quiet (by kernel_rfl) (by kernel_rfl); (conv => whnf); fail_if_success (show False))) <;> (conv => whnf))
    (refine' ⟨c + 1, _, _, _⟩; rotate_right; (refine SubA.auto rfl rfl rfl rfl ?_ ?_ <;> repeat' (first | exact trivial | refine And.intro ?_ ?_ | with_reducible rfl | (refine pIEq ?_; exact ar_) | (refine bufMap ?_) | (refine bufNil ?_) | (refine bufEq ?_) | rfl)); rotate_right; exact ar2_)
    all_goals first | omega | exact g4.symm
  · obtain rfl : c = l.length := by omega
    (conv => whnf); repeat' ((first | apply CondA.plain | refine' gC | refine' gpI | refine' gpB | refine' gCkpv | refine' gE | (apply DrawA.quiet (by kernel_rfl) (by kernel_rfl); (conv => whnf); fail_if_success (show False))) <;> (conv => whnf))
    (refine' RetK.auto (.p (pI (numF (rads l) s))) ([some (.map (knE kn)), some (AO.buf 3 n2 (s.map pI))]) rfl rfl rfl rfl _ _ _ <;> repeat' (first | exact trivial | refine And.intro ?_ ?_ | with_reducible rfl | (refine pIEq ?_; exact ar_) | (refine bufMap ?_) | (refine bufNil ?_) | (refine bufEq ?_) | rfl))
theorem numberP_call (nl : Bool) (l : List Ck) (kn : List (Int × Bool)) (n2 : Bool) (s : List Int) (hl : CkOK l) (hs : SetOK l s) : ACall Tryz.prog 92 [.agg [.p (.list nl (l.map Ck.pv)), .p (.list true []), .mp 0], .p (.list n2 (s.map pI))] [some (.map (knE kn))] fun r H => r = .p (pI (numF (rads l) s)) ∧ H = [some (.map (knE kn))] := by
  refine acall_enter Tryz.func92 rfl rfl tabOK rfl ?_
  have hsl := hs.1
  have h16 := hl.1
  have hrl : (rads l).length = l.length := by simp [rads]
  have hR := fun c hc => num_step hl hs (c := c) hc
  (conv => whnf); repeat' ((first | apply CondA.plain | refine' gC | refine' gpI | refine' gpB | refine' gCkpv | refine' gE | (apply DrawA.quiet (by kernel_rfl) (by kernel_rfl); (conv => whnf); fail_if_success (show False))) <;> (conv => whnf))
  refine loop_rule (fun (c : Nat) => ⟨[(2, .ptr 1 0), (5, .p (pI (numF ((rads l).take c) (s.take c)))), (8, .p (.list n2 (s.map pI))), (9, .p (pI s.length)), (10, .p (pI c))], [some (.map (knE kn)), some (.cells [.p (.list nl (l.map Ck.pv)), .p (.list true []), .mp 0])]⟩) (fun (c : Nat) => c ≤ l.length) (fun (c : Nat) => l.length - c) 0 ?_ ?_ ?_; (refine SubA.auto rfl rfl rfl rfl ?_ ?_ <;> repeat' (first | exact trivial | refine And.intro ?_ ?_ | with_reducible rfl | (refine pIEq ?_; exact ar_) | (refine bufMap ?_) | (refine bufNil ?_) | (refine bufEq ?_) | rfl))
  · omega
  rintro c hc
  replace hc : c ≤ l.length := hc
  rcases Nat.lt_or_ge c l.length with hlt | hge
  · have hcs : c < s.length := by omega
    obtain ⟨g1, g2, g3, g4⟩ := hR c hlt
    generalize numF ((rads l).take c) (s.take c) = n at g1 g2 g3 g4 ⊢
    (conv => whnf); repeat' ((first | apply CondA.plain | refine' gC | refine' gpI | refine' gpB | refine' gCkpv | refine' gE | (apply DrawA.quiet (by kernel_rfl) (by kernel_rfl); (conv => whnf); fail_if_success (show False))) <;> (conv => whnf))
    (refine' ⟨c + 1, _, _, _⟩; rotate_right; (refine SubA.auto rfl rfl rfl rfl ?_ ?_ <;> repeat' (first | exact trivial | refine And.intro ?_ ?_ | with_reducible rfl | (refine pIEq ?_; exact ar_) | (refine bufMap ?_) | (refine bufNil ?_) | (refine bufEq ?_) | rfl)); rotate_right; exact ar2_)
    all_goals first | omega | exact g4.symm
  · obtain rfl : c = l.length := by omega
    (conv => whnf); repeat' ((first | apply CondA.plain | refine' gC | refine' gpI | refine' gpB | refine' gCkpv | refine' gE | (apply DrawA.quiet (by kernel_rfl) (by kernel_rfl); (conv => whnf); fail_if_success (show False))) <;> (conv => whnf))
    (refine' RetK.auto (.p (pI (numF (rads l) s))) ([some (.map (knE kn))]) rfl rfl rfl rfl _ _ _ <;> repeat' (first | exact trivial | refine And.intro ?_ ?_ | with_reducible rfl | (refine pIEq ?_; exact ar_) | (refine bufMap ?_) | (refine bufNil ?_) | (refine bufEq ?_) | rfl))
open Go.Abs
set_option maxRecDepth 100000
/-- What is left of a number, and the choices behind. -/
def lfN (rs : List Nat) (n : Int) (k : Nat) : Int := n / (prodN (rs.drop k) : Int)
def sfN (rs : List Nat) (n : Int) (k : Nat) : List Int := List.replicate k 0 ++ (setF rs n).drop k
theorem lfN_all (rs : List Nat) (n : Int) : lfN rs n rs.length = n := by simp [lfN, prodN]
theorem sfN_all (rs : List Nat) (n : Int) : sfN rs n rs.length = List.replicate rs.length 0 := by
  have : (setF rs n).drop rs.length = [] := List.drop_eq_nil_of_le (by rw [len_setF]; omega)
  simp [sfN, this]
theorem len_sfN {rs : List Nat} {n : Int} {k : Nat} (h : k ≤ rs.length) : (sfN rs n k).length = rs.length := by simp [sfN, len_setF]; omega
theorem lfN_range {rs : List Nat} {n : Int} (hn : 0 ≤ n) (k : Nat) : 0 ≤ lfN rs n k ∧ lfN rs n k ≤ n := ⟨Int.ediv_nonneg hn (by omega), Int.ediv_le_self _ hn⟩
theorem lfN_step {rs : List Nat} {n : Int} (hn : 0 ≤ n) {k : Nat} (hk : k < rs.length) (hr : 1 ≤ rs[k]) : (lfN rs n (k + 1)).tdiv (rs[k] : Int) = lfN rs n k := by
  rw [Int.tdiv_eq_ediv_of_nonneg (lfN_range hn _).1, lfN, lfN, List.drop_eq_getElem_cons hk, prodN, Int.natCast_mul, Int.mul_comm, Int.ediv_ediv_of_nonneg (by omega)]
theorem sfN_step {rs : List Nat} {n : Int} (hn : 0 ≤ n) {k : Nat} (hk : k < rs.length) : (sfN rs n (k + 1)).set k ((lfN rs n (k + 1)).tmod (rs[k] : Int)) = sfN rs n k := by
  have hl := len_setF rs n
  rw [Int.tmod_eq_emod_of_nonneg (lfN_range hn _).1]
  have e : (setF rs n)[k]'(by omega) = lfN rs n (k + 1) % (rs[k] : Int) := by
    simp only [setF, List.getElem_map, List.getElem_range, lfN]
    congr 2
    simp [List.getD, hk]
  rw [← e]
  apply List.ext_getElem
  · simp [sfN, hl]; omega
  · intro i h1 h2
    simp only [sfN, List.getElem_set, List.getElem_append, List.length_replicate, List.getElem_replicate, List.getElem_drop]
    split
    · subst_vars
      rw [dif_neg (by omega)]
      congr 1
      omega
    · by_cases h3 : i < k
      · rw [dif_pos (by omega), dif_pos h3]
      · rw [dif_neg (by omega), dif_neg h3]
        congr 1
        omega
def szA : Sc := (.take 0 (.take 1 (.take 2 (.take 3 (.take 4 (.take 5 (.take 6 (.take 7 (.take 8 (.one 9 (.take 10 .done)))))))))))
set_option maxHeartbeats 2000000 in
theorem setting_call (nl : Bool) (l : List Ck) (kn : List (Int × Bool)) (n : Int) (hl : CkOK l) (hn : 0 ≤ n ∧ n ≤ 100000) : ACall Tryz.prog 142 [.agg [.p (.list nl (l.map Ck.pv)), .p (.list true []), .mp 0], .p (pI n)] [some (.map (knE kn))] fun r H => ∃ b : Bool, r = .buf 1 ∧ H = [some (.map (knE kn)), some (AO.buf 3 b ((setF (rads l) n).map pI))] := by
  refine acall_enter Tryz.func142 rfl rfl tabOK rfl ?_
  have h16 := hl.1
  have hrl : (rads l).length = l.length := by simp [rads]
  (conv => whnf); repeat' ((first | apply CondA.plain | refine' gC | refine' gpI | refine' gpB | refine' gCkpv | refine' gE | (apply DrawA.quiet (by kernel_rfl) (by kernel_rfl); (conv => whnf); fail_if_success (show False))) <;> (conv => whnf))
  refine loop_rule (fun (k : Nat) => ⟨[(1, .p (pI (lfN (rads l) n k))), (2, .ptr 2 0), (5, .buf 1), (6, .p (pI ((k : Int) - 1)))], [some (.map (knE kn)), some (AO.buf 3 false ((sfN (rads l) n k).map pI)), some (.cells [.p (.list nl (l.map Ck.pv)), .p (.list true []), .mp 0])]⟩) (fun (k : Nat) => k ≤ l.length) (fun (k : Nat) => k) l.length ?_ ?_ ?_; (refine SubA.auto rfl rfl rfl rfl ?_ ?_ <;> repeat' (first | exact trivial | refine And.intro ?_ ?_ | with_reducible rfl | (refine pIEq ?_; exact ar_) | (refine bufMap ?_) | (refine bufNil ?_) | (refine bufEq ?_) | rfl))
  · rw [show lfN (rads l) n l.length = n from by rw [← hrl]; exact lfN_all _ _]
    rfl
  · rw [← hrl, sfN_all, hrl]
    rfl
  · omega
  rintro k hk
  replace hk : k ≤ l.length := hk
  rcases k with _ | k
  · (conv => whnf); repeat' ((first | apply CondA.plain | refine' gC | refine' gpI | refine' gpB | refine' gCkpv | refine' gE | (apply DrawA.quiet (by kernel_rfl) (by kernel_rfl); (conv => whnf); fail_if_success (show False))) <;> (conv => whnf))
    (refine' RetK.auto (.buf 1) ([some (.map (knE kn)), some (AO.buf 3 false ((setF (rads l) n).map pI))]) rfl rfl rfl rfl _ _ _ <;> repeat' (first | exact trivial | refine And.intro ?_ ?_ | with_reducible rfl | (refine pIEq ?_; exact ar_) | (refine bufMap ?_) | (refine bufNil ?_) | (refine bufEq ?_) | rfl))
    exact ⟨_, rfl, rfl⟩
  have hz : (((k + 1 : Nat)) : Int) - 1 = (k : Nat) := by omega
  have hr1 : (rads l)[k]'(by omega) = l[k].cs.length := by simp [rads]
  have hcs := (hl.v k (by omega)).2.1.1
  have hc8 := (hl.v k (by omega)).2.2.2
  have g1 := lfN_step (rs := rads l) hn.1 (k := k) (by omega) (by omega)
  have g2 := sfN_step (rs := rads l) hn.1 (k := k) (by omega)
  have g3 := lfN_range (rs := rads l) hn.1 (k + 1)
  have g5 := lfN_range (rs := rads l) hn.1 k
  have g4 := len_sfN (rs := rads l) (n := n) (k := k + 1) (by omega)
  rw [hr1] at g1 g2
  rw [hz]
  generalize lfN (rads l) n (k + 1) = N at g1 g2 g3 ⊢
  generalize sfN (rads l) n (k + 1) = S at g2 g4 ⊢
  (conv => whnf); repeat' ((first | apply CondA.plain | refine' gC | refine' gpI | refine' gpB | refine' gCkpv | refine' gE | (apply DrawA.orders szA (by kernel_rfl) (by kernel_rfl) (by decide +kernel))) <;> (conv => whnf))
  all_goals
    (refine' ⟨k, _, _, _⟩; rotate_right; (refine SubA.auto rfl rfl rfl rfl ?_ ?_ <;> repeat' (first | exact trivial | refine And.intro ?_ ?_ | with_reducible rfl | (refine pIEq ?_; exact ar_) | (refine bufMap ?_) | (refine bufNil ?_) | (refine bufEq ?_) | rfl)); rotate_right; exact ar2_)
  all_goals first | omega | exact g2 | exact g2.symm | skip
open Go.Abs
set_option maxRecDepth 100000
theorem setF_V {rs : List Nat} (hr : ∀ r ∈ rs, 1 ≤ r) (n : Int) : SetV rs (setF rs n) := by
  refine ⟨len_setF rs n, fun i h1 h2 => ?_⟩
  have h3 := hr _ (List.getElem_mem h2)
  simp only [setF, List.getElem_map, List.getElem_range]
  have e : rs.getD i 1 = rs[i] := by simp [List.getD, h2]
  rw [e]
  exact ⟨Int.emod_nonneg _ (by omega), Int.emod_lt_of_pos _ (by omega)⟩
theorem CkOK.rads1 {l : List Ck} (h : CkOK l) : ∀ r ∈ rads l, 1 ≤ r := fun r hr => by
  obtain ⟨c, hc, rfl⟩ := List.mem_map.1 hr
  obtain ⟨i, hi, rfl⟩ := List.getElem_of_mem hc
  exact (h.v i hi).2.1.1
theorem CkOK.set {l : List Ck} (h : CkOK l) (n : Int) : SetOK l (setF (rads l) n) := (setF_V h.rads1 n).ok
/-- What is known is so. -/
def KnOK (l : List Ck) (kn : List (Int × Bool)) : Prop := ∀ p ∈ kn, p.2 = true ↔ OwnOK l (setF (rads l) p.1)
theorem kn_key {kn : List (Int × Bool)} : ∀ e ∈ knE kn, MapKept.IsKey (.int .i64) e.1 := fun e he => by
  obtain ⟨p, _, rfl⟩ := List.mem_map.1 he
  rfl
theorem kn_look {l : List Ck} {kn : List (Int × Bool)} (h : KnOK l kn) (n : Int) : (∃ b, (b = true ↔ OwnOK l (setF (rads l) n)) ∧ HasK (.int .i64 n) (knE kn) (some (.bool b))) ∨ ((∀ p ∈ kn, p.1 ≠ n) ∧ HasK (.int .i64 n) (knE kn) none) := by
  by_cases hx : ∃ p ∈ kn, p.1 = n
  · obtain ⟨p, hp, rfl⟩ := hx
    refine .inl ⟨p.2, h p hp, ⟨_, List.mem_map_of_mem hp, rfl⟩, fun e he hk => ?_⟩
    obtain ⟨q, hq, rfl⟩ := List.mem_map.1 he
    have e1 : q.1 = p.1 := by simpa using hk
    have h1 := h p hp
    have h2 := h q hq
    rw [e1] at h2
    have : q.2 = p.2 := Bool.eq_iff_iff.2 (h2.trans h1.symm)
    simp [this]
  · refine .inr ⟨fun p hp hn => hx ⟨p, hp, hn⟩, fun e he hk => ?_⟩
    obtain ⟨q, hq, rfl⟩ := List.mem_map.1 he
    exact hx ⟨q, hq, by simpa using hk⟩
theorem KnOK.snoc {l : List Ck} {kn : List (Int × Bool)} (h : KnOK l kn) {n : Int} {b : Bool} (hb : b = true ↔ OwnOK l (setF (rads l) n)) : KnOK l (kn ++ [(n, b)]) := fun p hp => by
  rcases List.mem_append.1 hp with hp | hp
  · exact h p hp
  · simp only [List.mem_singleton] at hp
    subst hp
    exact hb
theorem knE_snoc (kn : List (Int × Bool)) (n : Int) (b : Bool) : knE (kn ++ [(n, b)]) = knE kn ++ [(.int .i64 n, .bool b)] := by simp [knE]
def scASC0 : Sc := (.one 6 (.one 7 (.take 8 .done)))
def scASC1 : Sc := (.one 4 (.one 7 (.take 8 .done)))
def scASC2 : Sc := (.two 4 6 scASC0 scASC1)
def scASC3 : Sc := (.one 2 (.one 4 (.one 7 (.take 8 .done))))
def scASC4 : Sc := (.two 2 6 scASC2 scASC3)
def scASC5 : Sc := (.one 1 (.one 7 (.take 8 .done)))
def scASC6 : Sc := (.two 1 6 scASC0 scASC5)
def scASC7 : Sc := (.two 1 4 scASC1 scASC5)
def scASC8 : Sc := (.three 1 4 6 scASC2 scASC6 scASC7)
def scASC9 : Sc := (.two 1 2 scASC3 scASC7)
def scA : Sc := (.take 0 (.take 3 (.take 5 (.three 1 2 6 scASC4 scASC8 scASC9))))
set_option maxHeartbeats 4000000 in
theorem xcalm_call (nl : Bool) (l : List Ck) (kn : List (Int × Bool)) (n : Int) (hl : CkOK l) (hk : KnOK l kn) (hn : 0 ≤ n ∧ n ≤ 100000) : ACall Tryz.prog 143 [.agg [.p (.list nl (l.map Ck.pv)), .p (.list true []), .mp 0], .p (pI n)] [some (.map (knE kn))] fun r H => ∃ (b : Bool) (kn' : List (Int × Bool)), r = .p (pB b) ∧ H = [some (.map (knE kn'))] ∧ KnOK l kn' ∧ (b = true ↔ OwnOK l (setF (rads l) n)) := by
  refine acall_enter Tryz.func143 rfl rfl tabOK rfl ?_
  rcases kn_look hk n with ⟨b, hb, hL⟩ | ⟨hne, hL⟩
  · (conv => whnf); repeat' ((first | apply CondA.plain | refine' gC | refine' gpI | refine' gpB | refine' gCkpv | refine' gE | ((refine LookA.mk _ rfl kn_key hL ?_))) <;> (conv => whnf))
    (refine' RetK.auto (.p (pB b)) ([some (.map (knE kn))]) rfl rfl rfl rfl _ _ _ <;> repeat' (first | exact trivial | refine And.intro ?_ ?_ | with_reducible rfl | (refine pIEq ?_; exact ar_) | (refine bufMap ?_) | (refine bufNil ?_) | (refine bufEq ?_) | rfl))
    exact ⟨b, kn, rfl, rfl, hk, hb⟩
  · (conv => whnf); repeat' ((first | apply CondA.plain | refine' gC | refine' gpI | refine' gpB | refine' gCkpv | refine' gE | ((refine LookA.mk _ rfl kn_key hL ?_))) <;> (conv => whnf))
    refine DrawA.meet (fun (b : Bool) => ⟨[(1, .p (pI n)), (2, .ptr 1 0), (5, .p (pB b))], [some (.map (knE kn)), some (.cells [.p (.list nl (l.map Ck.pv)), .p (.list true []), .mp 0])]⟩) (fun (b : Bool) => b = true ↔ OwnOK l (setF (rads l) n)) (DrawB.orders scA (by kernel_rfl) (by kernel_rfl) (by kernel_rfl) ?_) ?_
    · (conv => whnf); repeat' ((first | apply CondA.plain | refine' gC | refine' gpI | refine' gpB | refine' gCkpv | refine' gE | ((refine CallA.loc [0] [] rfl rfl ((setting_call nl l kn n hl hn).mono ?_); rintro _ _ ⟨b0, rfl, rfl⟩)) | ((refine call_exB (calm_call nl _ l (setF (rads l) n) hl (hl.set n)) ?_; intro b hb))) <;> (conv => whnf))
      all_goals
        (refine' ⟨b, _, _⟩; rotate_right; (refine SubA.auto rfl rfl rfl rfl ?_ ?_ <;> repeat' (first | exact trivial | refine And.intro ?_ ?_ | with_reducible rfl | (refine pIEq ?_; exact ar_) | (refine bufMap ?_) | (refine bufNil ?_) | (refine bufEq ?_) | rfl)); rotate_right; exact ar2_)
      all_goals skip
    rintro b hb
    have hnk : ∀ e ∈ knE kn, e.1 ≠ (.int .i64 n) := hL
    (conv => whnf); repeat' ((first | (refine NewKey.mk rfl kn_key hnk ?_) | apply CondA.plain | refine' gC | refine' gpI | refine' gpB | refine' gCkpv | refine' gE | fail) <;> (conv => whnf))
    rw [← knE_snoc]
    (refine' RetK.auto (.p (pB b)) ([some (.map (knE (kn ++ [(n, b)])))]) rfl rfl rfl rfl _ _ _ <;> repeat' (first | exact trivial | refine And.intro ?_ ?_ | with_reducible rfl | (refine pIEq ?_; exact ar_) | (refine bufMap ?_) | (refine bufNil ?_) | (refine bufEq ?_) | rfl))
    exact ⟨b, _, rfl, rfl, hk.snoc hb, hb⟩
open Go.Abs
set_option maxRecDepth 100000
/-- Distances as a map. -/
def dsE (D : List (Int × Int)) : List (Value × Value) := D.map fun p => (.int .i64 p.1, .int .i64 p.2)
theorem ds_key {D : List (Int × Int)} : ∀ e ∈ dsE D, MapKept.IsKey (.int .i64) e.1 := fun e he => by
  obtain ⟨p, _, rfl⟩ := List.mem_map.1 he
  rfl
theorem ds_some {D : List (Int × Int)} (h : (D.map (·.1)).Nodup) {n d : Int} (hd : (n, d) ∈ D) : HasK (.int .i64 n) (dsE D) (some (.int .i64 d)) := by
  refine ⟨⟨_, List.mem_map_of_mem hd, rfl⟩, fun e he hk => ?_⟩
  obtain ⟨q, hq, rfl⟩ := List.mem_map.1 he
  have e1 : q.1 = n := by simpa using hk
  have : q.2 = d := key_unique h (by rw [← e1]; exact hq) hd
  simp [this]
theorem ds_none {D : List (Int × Int)} {n : Int} (h : ∀ d, (n, d) ∉ D) : HasK (.int .i64 n) (dsE D) none := fun e he hk => by
  obtain ⟨q, hq, rfl⟩ := List.mem_map.1 he
  have e1 : q.1 = n := by simpa using hk
  exact h q.2 (by rw [← e1]; exact hq)
theorem dsE_snoc (D : List (Int × Int)) (n d : Int) : dsE (D ++ [(n, d)]) = dsE D ++ [(.int .i64 n, .int .i64 d)] := by simp [dsE]
def rzASC0 : Sc := (.one 3 (.take 4 (.load 5 (.one 6 (.take 7 (.one 8 .done))))))
def rzASC1 : Sc := (.take 4 (.load 5 (.one 2 (.one 6 (.take 7 (.one 8 .done))))))
def rzASC2 : Sc := (.two 2 3 rzASC0 rzASC1)
def rzASC3 : Sc := (.one 6 (.take 7 (.one 8 .done)))
def rzASC4 : Sc := (.take 7 (.one 0 (.one 8 .done)))
def rzASC5 : Sc := (.take 4 (.load 5 (.two 0 6 rzASC3 rzASC4)))
def rzASC6 : Sc := (.two 0 3 rzASC0 rzASC5)
def rzASC7 : Sc := (.one 2 (.one 6 (.take 7 (.one 8 .done))))
def rzASC8 : Sc := (.two 0 6 rzASC3 rzASC4)
def rzASC9 : Sc := (.take 4 (.load 5 (.two 0 2 rzASC7 rzASC8)))
def rzA : Sc := (.take 1 (.three 0 2 3 rzASC2 rzASC6 rzASC9))
open Go.Abs
set_option maxRecDepth 100000
theorem CkOK.prod {l : List Ck} (h : CkOK l) : prodN (rads l) ≤ 4096 := by
  have h1 := stN_prod (l := l) l.length (Nat.le_refl _)
  rw [List.take_of_length_le (by simp [rads])] at h1
  rcases hl : l.length with _ | c
  · have : rads l = [] := by simp [rads, List.length_eq_zero_iff.1 hl]
    rw [this]; simp [prodN]
  · rw [hl] at h1
    have := (h.2.2.2 c (by omega)).1
    omega
/-- A setting's number, of one that keeps its own limits. -/
def NumOK (l : List Ck) (m : Int) : Prop := ∃ s, SetV (rads l) s ∧ m = numF (rads l) s ∧ OwnOK l s
/-- One choice changed. -/
def NbS (l : List Ck) (u m : Int) : Prop := ∃ (i : Nat) (k : Int), i < l.length ∧ (0 ≤ k ∧ k < ((rads l).getD i 0 : Int)) ∧ k ≠ (setF (rads l) u).getD i 0 ∧ m = numF (rads l) ((setF (rads l) u).set i k) ∧ OwnOK l ((setF (rads l) u).set i k)
theorem NumOK.range {l : List Ck} {m : Int} (h : NumOK l m) : 0 ≤ m ∧ m < (prodN (rads l) : Int) := by
  obtain ⟨s, h1, rfl, _⟩ := h
  exact numF_range h1
theorem NumOK.back {l : List Ck} {m : Int} (h : NumOK l m) : numF (rads l) (setF (rads l) m) = m ∧ SetV (rads l) (setF (rads l) m) ∧ OwnOK l (setF (rads l) m) := by
  obtain ⟨s, h1, rfl, h2⟩ := h
  rw [setF_num h1]
  exact ⟨rfl, h1, h2⟩
theorem radsD {l : List Ck} {i : Nat} (h : i < l.length) : (rads l).getD i 0 = l[i].cs.length := by
  simp [rads, List.getD, h]
theorem set_selfI {s : List Int} {i : Nat} (h : i < s.length) : s.set i s[i] = s := List.set_getElem_self h
theorem NbS.okm {l : List Ck} {u m : Int} (hu : NumOK l u) (h : NbS l u m) : NumOK l m := by
  obtain ⟨i, k, hi, hk, _, rfl, ho⟩ := h
  rw [radsD hi] at hk
  exact ⟨_, hu.back.2.1.set (by simpa [rads] using hi) (by simpa [rads] using hk), rfl, ho⟩
theorem NbS.symm {l : List Ck} {u m : Int} (hu : NumOK l u) (h : NbS l u m) : NbS l m u := by
  obtain ⟨i, k, hi, hk, hne, rfl, ho⟩ := h
  obtain ⟨e1, hV, hO⟩ := hu.back
  have hir : i < (rads l).length := by simpa [rads] using hi
  have hk' := hk
  rw [radsD hi] at hk'
  have hV2 := hV.set hir (k := k) (by simpa [rads] using hk')
  have his : i < (setF (rads l) u).length := by rw [len_setF]; exact hir
  have hb := hV.2 i his hir
  refine ⟨i, (setF (rads l) u)[i], hi, ?_, ?_, ?_, ?_⟩
  · have : (rads l).getD i 0 = (rads l)[i] := by simp [List.getD, hir]
    rw [this]
    exact hb
  · rw [setF_num hV2]
    simp only [List.getD, List.getElem?_set_self his, Option.getD_some]
    simp only [List.getD, List.getElem?_eq_getElem his, Option.getD_some] at hne
    exact fun h => hne h.symm
  · rw [setF_num hV2, List.set_set, set_selfI his, e1]
  · rw [setF_num hV2, List.set_set, set_selfI his]
    exact hO
/-- The neighbours by choices. -/
def NbAt (l : List Ck) (u : Int) (i : Nat) (k : Int) : Prop := k ≠ (setF (rads l) u).getD i 0 ∧ OwnOK l ((setF (rads l) u).set i k)
theorem bfs_len {l : List Ck} {nb : Int → Int → Prop} {st : Int} {D : List (Int × Int)} (h1 : (D.map (·.1)).Nodup) (h2 : ∀ k d, (k, d) ∈ D → NumOK l k) : D.length ≤ prodN (rads l) := by
  have := nodup_le (prodN (rads l)) (D.map (·.1)) h1 fun x hx => by
    obtain ⟨⟨k, d⟩, hp, rfl⟩ := List.mem_map.1 hx
    exact (h2 k d hp).range
  simpa using this
theorem OwnOK.nb {l : List Ck} {u : Int} {i : Nat} {k : Int} (hi : i < l.length) (hk : 0 ≤ k ∧ k < (l[i].cs.length : Int)) (h : NbAt l u i k) : NbS l u (numF (rads l) ((setF (rads l) u).set i k)) :=
  ⟨i, k, hi, by rw [radsD hi]; exact hk, h.1, rfl, h.2⟩
open Go.Abs
set_option maxRecDepth 100000
def rqS (b : Bool) (D : List (Int × Int)) (zs : List PV) (lo : Nat) : AH := [some (.cells [.mp 2]), some (.cells [.sub 3 lo zs.length]), some (.map (dsE D)), some (AO.buf 3 b zs)]
def rqT (b : Bool) (D : List (Int × Int)) (zs : List PV) (lo : Nat) : AH := [some (.cells [.mp 2]), some (.cells [.sub 4 lo zs.length]), some (.map (dsE D)), none, some (AO.buf 3 b zs)]
set_option maxHeartbeats 4000000 in
theorem reachS_call (b : Bool) (D : List (Int × Int)) (u : Int) (zs : List PV) (lo : Nat) (q : List Int) (du : Int) (w : Wr) (m : Int) (hz : zs.drop lo = (u :: q).map pI) (hn : (D.map (·.1)).Nodup) (hu : (u, du) ∈ D) (hd : 0 ≤ du ∧ du ≤ 100000) (hq : zs.length ≤ 100000) : ACall Tryz.prog 141 [.p w.pv, .p (pI m), .ptr 0 0, .ptr 1 0] (rqS b D zs lo) fun r H => r = .tup [] ∧ ∃ (b' : Bool) (D' : List (Int × Int)) (zs' : List PV) (lo' : Nat), H = rqT b' D' zs' lo' ∧ zs'.length ≤ zs.length + (D'.length - D.length) ∧ ((∃ d, (m, d) ∈ D) ∧ D' = D ∧ zs'.drop lo' = (u :: q).map pI ∨ (∀ d, (m, d) ∉ D) ∧ D' = D ++ [(m, du + 1)] ∧ zs'.drop lo' = (u :: q ++ [m]).map pI) := by
  refine acall_enter Tryz.func141 rfl rfl tabOK rfl ?_
  have hll : lo < zs.length := by
    rcases Nat.lt_or_ge lo zs.length with h | h
    · exact h
    · rw [List.drop_eq_nil_of_le h] at hz; cases hz
  have hz0 : zs[lo + Int.toNat 0]? = some (pI u) := by
    show zs[lo]? = _
    rw [List.getElem?_eq_getElem hll]
    have := List.getElem_cons_drop hll
    rw [hz] at this
    injection this with this
    rw [this]
  by_cases hx : ∃ d, (m, d) ∈ D
  · obtain ⟨d, hx⟩ := hx
    (conv => whnf); repeat' ((first | apply CondA.plain | refine' gC | refine' gpI | refine' gpB | refine' gWrpv | refine' gE | ((refine LookA.mk _ rfl ds_key (ds_some hn hx) ?_))) <;> (conv => whnf))
    (refine RetK.mk _ _ _ [3] (.tup []) (rqT b D zs lo) rfl rfl ?_ rfl rfl ?_ <;> (repeat' (first | exact trivial | refine And.intro ?_ ?_ | with_reducible rfl | (refine pIEq ?_; exact ar_) | (refine bufMap ?_) | (refine bufNil ?_) | (refine bufEq ?_) | rfl)))
    exact ⟨b, D, zs, lo, rfl, by omega, .inl ⟨⟨d, hx⟩, rfl, hz⟩⟩
  · replace hx : ∀ d, (m, d) ∉ D := fun d h => hx ⟨d, h⟩
    (conv => whnf); repeat' ((first | apply CondA.plain | refine' gC | refine' gpI | refine' gpB | refine' gWrpv | refine' gE | ((refine LookA.mk _ rfl ds_key (ds_none hx) ?_))) <;> (conv => whnf))
    have hnk : ∀ e ∈ dsE D, e.1 ≠ (.int .i64 m) := ds_none hx
    refine DrawA.meet (fun (_x : Unit) => ⟨[(1, .p (pI m)), (3, .ptr 1 0)], rqS b (D ++ [(m, du + 1)]) zs lo⟩) (fun (_x : Unit) => True) (DrawB.orders rzA (by kernel_rfl) (by kernel_rfl) (by kernel_rfl) ?_) ?_
    · (conv => whnf); repeat' ((first | (refine IdxA.mk (pI u) (by omega) hz0 ?_) | apply CondA.plain | refine' gC | refine' gpI | refine' gpB | refine' gWrpv | refine' gE | ((refine LookA.mk _ rfl ds_key (ds_some hn hu) ?_)) | ((refine NewKey.mk rfl ds_key hnk ?_))) <;> (conv => whnf))
      all_goals
        (refine' ⟨(), _, _⟩; rotate_right; (refine SubA.auto rfl rfl rfl rfl ?_ ?_ <;> repeat' (first | exact trivial | refine And.intro ?_ ?_ | with_reducible rfl | (refine pIEq ?_; exact ar_) | (refine bufMap ?_) | (refine bufNil ?_) | (refine bufEq ?_) | rfl)); rotate_right; exact ar2_)
      all_goals (rw [dsE_snoc]; rfl)
    rintro _ -
    (conv => whnf); repeat' ((first | apply CondA.plain | refine' gC | refine' gpI | refine' gpB | refine' gWrpv | refine' gE | ((refine ApSub.mk (by simp) (by simp) (by simp only [lenS, maxLen]; omega) ?_; rintro lo2 zs2 hz1 hz2 hz3))) <;> (conv => whnf))
    (refine RetK.mk _ _ _ [5] (.tup []) (rqT false (D ++ [(m, du + 1)]) zs2 lo2) rfl rfl ?_ rfl rfl ?_ <;> (repeat' (first | exact trivial | refine And.intro ?_ ?_ | with_reducible rfl | (refine pIEq ?_; exact ar_) | (refine bufMap ?_) | (refine bufNil ?_) | (refine bufEq ?_) | rfl)))
    refine ⟨false, _, zs2, lo2, rfl, ?_, .inr ⟨hx, rfl, ?_⟩⟩
    · simp only [lenS] at hz3 ⊢
      omega
    · rw [hz2, hz]; simp
open Go.Abs
set_option maxRecDepth 100000
/-- In the middle of a visit: all neighbours up to a choice are known. -/
structure EI (l : List Ck) (st u du : Int) (q : List Int) (kn : List (Int × Bool)) (D : List (Int × Int)) (new : List Int) (zs : List PV) (lo c k0 n0 : Nat) : Prop where
  kn : KnOK l kn
  zl : zs.length ≤ D.length
  zd : zs.drop lo = (u :: q ++ new).map pI
  mid : Mid (NbS l) (NumOK l) st u du q D new
  ln : D.length = n0 + new.length
  all : ∀ (i : Nat) (k : Int), i < l.length → (i < c ∨ i = c ∧ k < k0) → 0 ≤ k → k < ((rads l).getD i 0 : Int) → NbAt l u i k → ∃ d, (numF (rads l) ((setF (rads l) u).set i k), d) ∈ D
section
variable {l : List Ck} {st u du : Int} {q : List Int} {kn kn' : List (Int × Bool)} {D D' : List (Int × Int)} {new : List Int} {zs zs' : List PV} {lo lo' c k n0 : Nat}
theorem EI.init (hk : KnOK l kn) (hm : Mid (NbS l) (NumOK l) st u du q D []) (hz : zs.drop lo = (u :: q).map pI) (hzl : zs.length ≤ D.length) : EI l st u du q kn D [] zs lo 0 0 D.length :=
  ⟨hk, hzl, by simpa using hz, hm, rfl, fun i k _ h h0 => by omega⟩
theorem EI.skip (h : EI l st u du q kn D new zs lo c k n0) (hk : KnOK l kn') (hzl : zs'.length ≤ D.length) (hzd : zs'.drop lo' = (u :: q ++ new).map pI) (hn : NbAt l u c k → ∃ d, (numF (rads l) ((setF (rads l) u).set c k), d) ∈ D) : EI l st u du q kn' D new zs' lo' c (k + 1) n0 :=
  ⟨hk, hzl, hzd, h.mid, h.ln, fun i k' hi hlt h0 hk' ha => by
    rcases Int.lt_or_le k' k with h1 | h1
    · exact h.all i k' hi (by omega) h0 hk' ha
    · rcases Nat.lt_or_ge i c with h2 | h2
      · exact h.all i k' hi (by omega) h0 hk' ha
      · obtain rfl : i = c := by omega
        obtain rfl : k' = k := by omega
        exact hn ha⟩
theorem EI.add (h : EI l st u du q kn D new zs lo c k n0) (hk : KnOK l kn') (hc : c < l.length) (hkc : k < l[c].cs.length) (ha : NbAt l u c k) (h0 : ∀ d, (numF (rads l) ((setF (rads l) u).set c k), d) ∉ D)
    (hzl : zs'.length ≤ D.length + 1) (hzd : zs'.drop lo' = (u :: q ++ new ++ [numF (rads l) ((setF (rads l) u).set c k)]).map pI) : EI l st u du q kn' (D ++ [(numF (rads l) ((setF (rads l) u).set c k), du + 1)]) (new ++ [numF (rads l) ((setF (rads l) u).set c k)]) zs' lo' c (k + 1) n0 := by
  have hnb := OwnOK.nb hc (k := (k : Int)) (by omega) ha
  have hu : NumOK l u := h.mid.okk _ _ h.mid.uu
  have hm := h.mid.add (hnb.okm hu) (hnb.symm hu) h0
  refine ⟨hk, by simp; omega, by simpa using hzd, hm, by have := h.ln; simp; omega, fun i k' hi hlt h0 hk' ha' => ?_⟩
  rcases Int.lt_or_le k' k with h1 | h1
  · obtain ⟨d, hd⟩ := h.all i k' hi (by omega) h0 hk' ha'
    exact ⟨d, List.mem_append_left _ hd⟩
  · rcases Nat.lt_or_ge i c with h2 | h2
    · obtain ⟨d, hd⟩ := h.all i k' hi (by omega) h0 hk' ha'
      exact ⟨d, List.mem_append_left _ hd⟩
    · obtain rfl : i = c := by omega
      obtain rfl : k' = k := by omega
      exact ⟨du + 1, by simp⟩
theorem EI.row (h : EI l st u du q kn D new zs lo c k n0) (hc : c < l.length) (hkc : l[c].cs.length ≤ k) : EI l st u du q kn D new zs lo (c + 1) 0 n0 :=
  ⟨h.kn, h.zl, h.zd, h.mid, h.ln, fun i k' hi hlt h0 hk' ha => by
    rcases Nat.lt_or_ge i c with h2 | h2
    · exact h.all i k' hi (by omega) h0 hk' ha
    · obtain rfl : i = c := by omega
      have := hk'
      rw [radsD hc] at this
      exact h.all i k' hi (by omega) h0 hk' ha⟩
theorem EI.done (h : EI l st u du q kn D new zs lo c k n0) (hc : l.length ≤ c) : ∀ m, NbS l u m → ∃ d, (m, d) ∈ D := by
  rintro m ⟨i, k', hi, hk', hne, rfl, ho⟩
  exact h.all i k' hi (by omega) hk'.1 hk'.2 ⟨hne, ho⟩
theorem EI.len (h : EI l st u du q kn D new zs lo c k n0) : D.length ≤ prodN (rads l) := bfs_len (nb := NbS l) (st := st) h.mid.nd h.mid.okk
theorem EI.dd (h : EI l st u du q kn D new zs lo c k n0) : 0 ≤ du ∧ du < D.length := (h.mid.pos _ _ h.mid.uu).1
end
open Go.Abs
set_option maxRecDepth 100000
def eqS (kn : List (Int × Bool)) (b : Bool) (D : List (Int × Int)) (zs : List PV) (lo : Nat) : AH := [some (.map (knE kn)), some (.cells [.mp 3]), some (.cells [.sub 4 lo zs.length]), some (.map (dsE D)), some (AO.buf 3 b zs)]
def eqT (kn : List (Int × Bool)) (b : Bool) (D : List (Int × Int)) (zs : List PV) (lo : Nat) : AH := [some (.map (knE kn)), some (.cells [.mp 3]), some (.cells [.sub 5 lo zs.length]), some (.map (dsE D)), none, some (AO.buf 3 b zs)]
set_option maxHeartbeats 8000000 in
theorem eachR_call (nl : Bool) (l : List Ck) (kn : List (Int × Bool)) (b : Bool) (D : List (Int × Int)) (zs : List PV) (lo : Nat) (st u du : Int) (q : List Int) (hl : CkOK l) (hk : KnOK l kn) (hm : Mid (NbS l) (NumOK l) st u du q D []) (hz : zs.drop lo = (u :: q).map pI) (hzl : zs.length ≤ D.length) :
    ACall Tryz.prog 93 [.agg [.p (.list nl (l.map Ck.pv)), .p (.list true []), .mp 0], .p (pI u), .clo (.func 141) [.ptr 1 0, .ptr 2 0]] (eqS kn b D zs lo) fun r H => r = .tup [] ∧ ∃ (kn' : List (Int × Bool)) (b' : Bool) (D' : List (Int × Int)) (new : List Int) (zs' : List PV) (lo' : Nat), H = eqT kn' b' D' zs' lo' ∧ KnOK l kn' ∧ zs'.length ≤ D'.length ∧ zs'.drop lo' = (u :: q ++ new).map pI ∧ Mid (NbS l) (NumOK l) st u du q D' new ∧ D'.length = D.length + new.length ∧ ∀ m, NbS l u m → ∃ d, (m, d) ∈ D' := by
  refine acall_enter Tryz.func93 rfl rfl tabOK rfl ?_
  have hu : NumOK l u := hm.okk _ _ hm.uu
  obtain ⟨e1, hV, hO⟩ := hu.back
  have hR := hu.range
  have hP := hl.prod
  have h16 := hl.1
  have hE := EI.init hk hm hz hzl
  obtain ⟨n0, hn0⟩ : ∃ n0, D.length = n0 := ⟨_, rfl⟩
  rw [hn0] at hE
  have hrl : (rads l).length = l.length := by simp [rads]
  have hsl : (setF (rads l) u).length = l.length := by rw [len_setF, hrl]
  (conv => whnf); repeat' ((first | apply CondA.plain | refine' gC | refine' gpI | refine' gpB | refine' gCkpv | refine' gWrpv | refine' gE | (apply DrawA.quiet (by kernel_rfl) (by kernel_rfl); (conv => whnf); fail_if_success (show False)) | ((refine CallA.loc [0] [] rfl rfl ((setting_call nl l kn u hl (by omega)).mono ?_); rintro _ _ ⟨b0, rfl, rfl⟩))) <;> (conv => whnf))
  obtain ⟨s, hs⟩ : ∃ s, setF (rads l) u = s := ⟨_, rfl⟩
  rw [hs] at hV hO hsl e1 ⊢
  refine loop_rule (fun (⟨c, kn, b, D, new, zs, lo⟩ : Nat × List (Int × Bool) × Bool × List (Int × Int) × List Int × List PV × Nat) => ⟨[(2, .clo (.func 141) [.ptr 1 0, .ptr 2 0]), (3, .ptr 6 0), (6, .buf 5), (16, .p (.list nl (l.map Ck.pv))), (17, .p (pI l.length)), (18, .p (pI c))], [some (.map (knE kn)), some (.cells [.mp 3]), some (.cells [.sub 7 lo zs.length]), some (.map (dsE D)), none, some (AO.buf 3 b0 (s.map pI)), some (.cells [.p (.list nl (l.map Ck.pv)), .p (.list true []), .mp 0]), some (AO.buf 3 b zs)]⟩) (fun (⟨c, kn, b, D, new, zs, lo⟩ : Nat × List (Int × Bool) × Bool × List (Int × Int) × List Int × List PV × Nat) => c ≤ l.length ∧ EI l st u du q kn D new zs lo c 0 n0) (fun (⟨c, kn, b, D, new, zs, lo⟩ : Nat × List (Int × Bool) × Bool × List (Int × Int) × List Int × List PV × Nat) => l.length - c) (0, kn, b, D, [], zs, lo) ?_ ?_ ?_; (refine SubA.auto rfl rfl rfl rfl ?_ ?_ <;> repeat' (first | exact trivial | refine And.intro ?_ ?_ | with_reducible rfl | (refine pIEq ?_; exact ar_) | (refine bufMap ?_) | (refine bufNil ?_) | (refine bufEq ?_) | rfl))
  · exact ⟨by omega, hE⟩
  clear hE hm hz hzl hk
  rintro ⟨c, kn, b, D, new, zs, lo⟩ ⟨hc, hE⟩
  try simp only at hc hE
  rcases Nat.lt_or_ge c l.length with hlt | hge
  · have hcs : c < s.length := by omega
    have hsc := hV.2 c hcs (by omega)
    have hcl := hl.2.1 _ (List.getElem_mem hlt)
    (conv => whnf); repeat' ((first | apply CondA.plain | refine' gC | refine' gpI | refine' gpB | refine' gCkpv | refine' gWrpv | refine' gE | fail) <;> (conv => whnf))
    refine loop_rule (fun (⟨k, kn, b, D, new, zs, lo, y⟩ : Nat × List (Int × Bool) × Bool × List (Int × Int) × List Int × List PV × Nat × Int) => ⟨[(2, .clo (.func 141) [.ptr 1 0, .ptr 2 0]), (3, .ptr 6 0), (6, .buf 5), (7, .p (pI c)), (9, .p (pI s[c])), (16, .p (.list nl (l.map Ck.pv))), (17, .p (pI l.length)), (18, .p (pI c)), (29, .p (pI l[c].cs.length)), (30, .p (pI k))], [some (.map (knE kn)), some (.cells [.mp 3]), some (.cells [.sub 7 lo zs.length]), some (.map (dsE D)), none, some (AO.buf 3 b0 ((s.set c y).map pI)), some (.cells [.p (.list nl (l.map Ck.pv)), .p (.list true []), .mp 0]), some (AO.buf 3 b zs)]⟩) (fun (⟨k, kn, b, D, new, zs, lo, y⟩ : Nat × List (Int × Bool) × Bool × List (Int × Int) × List Int × List PV × Nat × Int) => k ≤ l[c].cs.length ∧ EI l st u du q kn D new zs lo c k n0) (fun (⟨k, kn, b, D, new, zs, lo, y⟩ : Nat × List (Int × Bool) × Bool × List (Int × Int) × List Int × List PV × Nat × Int) => l[c].cs.length - k) (0, kn, b, D, new, zs, lo, s[c]) ?_ ?_ ?_; (refine SubA.auto rfl rfl rfl rfl ?_ ?_ <;> repeat' (first | exact trivial | refine And.intro ?_ ?_ | with_reducible rfl | (refine pIEq ?_; exact ar_) | (refine bufMap ?_) | (refine bufNil ?_) | (refine bufEq ?_) | rfl))
    · rw [List.set_getElem_self]
    · exact ⟨by omega, hE⟩
    clear hE
    rintro ⟨k, kn, b, D, new, zs, lo, y⟩ ⟨hk, hE⟩
    try simp only at hk hE
    rcases Nat.lt_or_ge k l[c].cs.length with hkl | hkg
    · have hrc : (rads l)[c]'(by omega) = l[c].cs.length := by simp [rads]
      have hSV : SetV (rads l) ((s.set c y).set c (k : Int)) := by rw [List.set_set]; exact hV.set (by omega) (by rw [hrc]; omega)
      have hN := numF_range hSV
      have hD := hE.len
      have hdd := hE.dd
      (conv => whnf); repeat' ((first | apply CondA.plain | refine' gC | refine' gpI | refine' gpB | refine' gCkpv | refine' gWrpv | refine' gE | ((refine CallA.loc [0, 5] [] rfl rfl ((number_call nl l kn b0 ((s.set c y).set c (k : Int)) hl hSV.ok).mono ?_); rintro _ _ ⟨rfl, rfl⟩)) | ((refine CallA.loc [0] [] rfl rfl ((xcalm_call nl l kn _ hl hE.kn ⟨by omega, by omega⟩).mono ?_); rintro _ _ ⟨bb, kn2, rfl, rfl, hk2, hbb⟩))) <;> (conv => whnf))
      · have hz' : zs.drop lo = (u :: (q ++ new)).map pI := hE.zd
        refine CallA.loc [1, 2, 3, 7] [] rfl rfl ((reachS_call b D u zs lo (q ++ new) du ⟨1, c, k⟩ (numF (rads l) ((s.set c y).set c (k : Int))) hz' hE.mid.nd hE.mid.uu ⟨by omega, by omega⟩ (by have := hE.zl; omega)).mono ?_)
        rintro _ _ ⟨rfl, b2, D2, zs2, lo2, rfl, hlen, hcase⟩
        have hat : NbAt l u c k := by
          refine ⟨?_, ?_⟩
          · rw [hs, getD_at hcs]; assumption
          · have := hbb.1 h0
            rw [setF_num hSV, List.set_set] at this
            rw [hs]; exact this
        rw [List.set_set] at hcase
        rw [← hs] at hcase
        have hE2 : ∃ new2, EI l st u du q kn2 D2 new2 zs2 lo2 c (k + 1) n0 := by
          rcases hcase with ⟨hd, rfl, hzd⟩ | ⟨hd, rfl, hzd⟩
          · exact ⟨new, hE.skip hk2 (by have := hE.zl; omega) hzd fun _ => hd⟩
          · exact ⟨_, hE.add hk2 hlt hkl hat hd (by have := hE.zl; simp only [List.length_append, List.length_singleton] at hlen; omega) (by simpa using hzd)⟩
        obtain ⟨new2, hE2⟩ := hE2
        (conv => whnf); repeat' ((first | apply CondA.plain | refine' gC | refine' gpI | refine' gpB | refine' gCkpv | refine' gWrpv | refine' gE | fail) <;> (conv => whnf))
        (refine' ⟨(k + 1, kn2, b2, D2, new2, zs2, lo2, (k : Int)), _, _, _⟩; rotate_right; (refine SubA.auto rfl rfl rfl rfl ?_ ?_ <;> repeat' (first | exact trivial | refine And.intro ?_ ?_ | with_reducible rfl | (refine pIEq ?_; exact ar_) | (refine bufMap ?_) | (refine bufNil ?_) | (refine bufEq ?_) | rfl)); rotate_right; exact ar2_)
        all_goals first | exact ⟨by omega, hE2⟩ | exact List.set_set ..
      · (refine' ⟨(k + 1, kn2, b, D, new, zs, lo, (k : Int)), _, _, _⟩; rotate_right; (refine SubA.auto rfl rfl rfl rfl ?_ ?_ <;> repeat' (first | exact trivial | refine And.intro ?_ ?_ | with_reducible rfl | (refine pIEq ?_; exact ar_) | (refine bufMap ?_) | (refine bufNil ?_) | (refine bufEq ?_) | rfl)); rotate_right; exact ar2_)
        all_goals first
          | exact List.set_set ..
          | (refine ⟨by omega, hE.skip hk2 hE.zl hE.zd fun hat => ?_⟩
             have h2 := hat.2
             rw [hs] at h2
             rw [setF_num hSV, List.set_set] at hbb
             rw [hbb.2 h2] at h0
             cases h0)
      · (refine' ⟨(k + 1, kn, b, D, new, zs, lo, (k : Int)), _, _, _⟩; rotate_right; (refine SubA.auto rfl rfl rfl rfl ?_ ?_ <;> repeat' (first | exact trivial | refine And.intro ?_ ?_ | with_reducible rfl | (refine pIEq ?_; exact ar_) | (refine bufMap ?_) | (refine bufNil ?_) | (refine bufEq ?_) | rfl)); rotate_right; exact ar2_)
        all_goals first
          | exact List.set_set ..
          | (refine ⟨by omega, hE.skip hE.kn hE.zl hE.zd fun hat => ?_⟩
             have h2 := hat.1
             rw [hs, getD_at hcs] at h2
             exact absurd (by assumption) h2)
    · have hss : (s.set c y).set c s[c] = s := by rw [List.set_set, List.set_getElem_self]
      have hE3 := hE.row hlt hkg
      (conv => whnf); repeat' ((first | apply CondA.plain | refine' gC | refine' gpI | refine' gpB | refine' gCkpv | refine' gWrpv | refine' gE | fail) <;> (conv => whnf))
      (refine' ⟨(c + 1, kn, b, D, new, zs, lo), _, _, _⟩; rotate_right; (refine SubA.auto rfl rfl rfl rfl ?_ ?_ <;> repeat' (first | exact trivial | refine And.intro ?_ ?_ | with_reducible rfl | (refine pIEq ?_; exact ar_) | (refine bufMap ?_) | (refine bufNil ?_) | (refine bufEq ?_) | rfl)); rotate_right; exact ar2_)
      all_goals first | exact hss | exact ⟨by omega, hE3⟩
  · have hdn := hE.done hge
    (conv => whnf); repeat' ((first | apply CondA.plain | refine' gC | refine' gpI | refine' gpB | refine' gCkpv | refine' gWrpv | refine' gE | fail) <;> (conv => whnf))
    (refine RetK.mk _ _ _ [7] (.tup []) (eqT kn b D zs lo) rfl rfl ?_ rfl rfl ?_ <;> (repeat' (first | exact trivial | refine And.intro ?_ ?_ | with_reducible rfl | (refine pIEq ?_; exact ar_) | (refine bufMap ?_) | (refine bufNil ?_) | (refine bufEq ?_) | rfl)))
    exact ⟨kn, b, D, new, zs, lo, rfl, hE.kn, hE.zl, hE.zd, hE.mid, by rw [hn0]; exact hE.ln, hdn⟩
open Go.Abs
set_option maxRecDepth 100000
def rxSC0 : Sc := (.one 1 (.take 2 (.one 3 (.one 5 .done))))
def rxSC1 : Sc := (.one 3 (.one 5 .done))
def rxSC2 : Sc := (.one 0 (.one 5 .done))
def rxSC3 : Sc := (.take 2 (.two 0 3 rxSC1 rxSC2))
def rxA : Sc := (.take 4 (.two 0 1 rxSC0 rxSC3))
set_option maxHeartbeats 8000000 in
theorem reach_call (nl : Bool) (l : List Ck) (kn : List (Int × Bool)) (st : Int) (hl : CkOK l) (hk : KnOK l kn) (hst : NumOK l st) :
    ACall Tryz.prog 91 [.agg [.p (.list nl (l.map Ck.pv)), .p (.list true []), .mp 0], .p (pI st)] [some (.map (knE kn))] fun r H => ∃ kn' D, r = .mp 1 ∧ H = [some (.map (knE kn')), some (.map (dsE D))] ∧ KnOK l kn' ∧ Bfs (NbS l) (NumOK l) st D [] := by
  refine acall_enter Tryz.func91 rfl rfl tabOK rfl ?_
  have hI := Bfs.init (nb := NbS l) hst
  (conv => whnf); repeat' ((first | apply CondA.plain | refine' gC | refine' gpI | refine' gpB | refine' gCkpv | refine' gWrpv | refine' gE | (apply DrawA.quiet (by kernel_rfl) (by kernel_rfl); (conv => whnf); fail_if_success (show False)) | ((refine NewKey.mk rfl (fun _ h => by cases h) (fun _ h => by cases h) ?_))) <;> (conv => whnf))
  refine loop_rule (fun (⟨kn, b, D, zs, lo, q⟩ : List (Int × Bool) × Bool × List (Int × Int) × List PV × Nat × List Int) => ⟨[(2, .ptr 1 0), (5, .ptr 2 0), (6, .ptr 3 0)], [some (.map (knE kn)), some (.cells [.p (.list nl (l.map Ck.pv)), .p (.list true []), .mp 0]), some (.cells [.mp 4]), some (.cells [.sub 5 lo zs.length]), some (.map (dsE D)), some (AO.buf 3 b zs)]⟩) (fun (⟨kn, b, D, zs, lo, q⟩ : List (Int × Bool) × Bool × List (Int × Int) × List PV × Nat × List Int) => KnOK l kn ∧ Bfs (NbS l) (NumOK l) st D q ∧ zs.length ≤ D.length ∧ zs.drop lo = q.map pI) (fun (⟨kn, b, D, zs, lo, q⟩ : List (Int × Bool) × Bool × List (Int × Int) × List PV × Nat × List Int) => prodN (rads l) - (D.length - q.length)) (kn, false, [(st, 0)], [pI st], 0, [st]) ?_ ?_ ?_; (refine SubA.csub _ 5 0 4 _ _ _ _ rfl rfl rfl ?_; refine SubA.auto rfl rfl rfl rfl ?_ ?_ <;> repeat' (first | exact trivial | refine And.intro ?_ ?_ | with_reducible rfl | (refine pIEq ?_; exact ar_) | (refine bufMap ?_) | (refine bufNil ?_) | (refine bufEq ?_) | rfl))
  · exact ⟨hk, hI, by simp, rfl⟩
  clear hI hk
  rintro ⟨kn, b, D, zs, lo, q⟩ ⟨hk, hB, hzl, hz⟩
  try simp only at hk hB hzl hz
  have hD := bfs_len (nb := NbS l) (st := st) hB.nd hB.okk
  have hP := hl.prod
  have hlz : zs.length - lo = q.length := by
    have := congrArg List.length hz
    simpa using this
  rcases q with _ | ⟨u, q⟩
  · have hge : zs.length ≤ lo := by simp at hlz; omega
    (conv => whnf); repeat' ((first | apply CondA.plain | refine' gC | refine' gpI | refine' gpB | refine' gCkpv | refine' gWrpv | refine' gE | (apply DrawA.quiet (by kernel_rfl) (by kernel_rfl); (conv => whnf); fail_if_success (show False)) | ((refine LenA.mk zs.length rfl ?_; intro _))) <;> (conv => whnf))
    (refine RetK.mk _ _ _ [4] (.mp 1) [some (.map (knE kn)), some (.map (dsE D))] rfl rfl ?_ rfl rfl ?_ <;> (repeat' (first | exact trivial | refine And.intro ?_ ?_ | with_reducible rfl | (refine pIEq ?_; exact ar_) | (refine bufMap ?_) | (refine bufNil ?_) | (refine bufEq ?_) | rfl)))
    exact ⟨kn, D, rfl, rfl, hk, hB⟩
  · have hlo : lo < zs.length := by simp at hlz; omega
    have hz0 : zs[lo + Int.toNat 0]? = some (pI u) := by
      show zs[lo]? = _
      rw [List.getElem?_eq_getElem hlo]
      have := List.getElem_cons_drop hlo
      rw [hz] at this
      injection this with this
      rw [this]
    obtain ⟨du, hu⟩ := hB.qk u (List.mem_cons_self ..)
    obtain ⟨n0, hn0⟩ : ∃ n0, D.length - (u :: q).length = n0 := ⟨_, rfl⟩
    (conv => whnf); repeat' ((first | apply CondA.plain | refine' gC | refine' gpI | refine' gpB | refine' gCkpv | refine' gWrpv | refine' gE | ((refine LenA.mk zs.length rfl ?_; intro _))) <;> (conv => whnf))
    refine DrawA.meet (fun (⟨kn, b, D, zs, lo, q⟩ : List (Int × Bool) × Bool × List (Int × Int) × List PV × Nat × List Int) => ⟨[(2, .ptr 1 0), (5, .ptr 2 0), (6, .ptr 3 0)], [some (.map (knE kn)), some (.cells [.p (.list nl (l.map Ck.pv)), .p (.list true []), .mp 0]), some (.cells [.mp 4]), some (.cells [.sub 5 lo zs.length]), some (.map (dsE D)), some (AO.buf 3 b zs)]⟩) (fun (⟨kn, b, D, zs, lo, q⟩ : List (Int × Bool) × Bool × List (Int × Int) × List PV × Nat × List Int) => KnOK l kn ∧ Bfs (NbS l) (NumOK l) st D q ∧ zs.length ≤ D.length ∧ zs.drop (lo + 1) = q.map pI ∧ lo < zs.length ∧ D.length - q.length = n0 + 1) (DrawB.orders rxA (by kernel_rfl) (by kernel_rfl) (by kernel_rfl) ?_) ?_
    · (conv => whnf); repeat' ((first | (refine IdxA.mk (pI u) (by omega) hz0 ?_) | apply CondA.plain | refine' gC | refine' gpI | refine' gpB | refine' gCkpv | refine' gWrpv | refine' gE | fail) <;> (conv => whnf))
      all_goals
        refine CallA.loc [0, 2, 3, 4, 5] [] rfl rfl ((eachR_call nl l kn b D zs lo st u du q hl hk (hB.mid hu) hz hzl).mono ?_)
        rintro _ _ ⟨rfl, kn2, b2, D2, new, zs2, lo2, rfl, hk2, hzl2, hz2, hm2, hln, hall⟩
        (conv => whnf); repeat' ((first | apply CondA.plain | refine' gC | refine' gpI | refine' gpB | refine' gCkpv | refine' gWrpv | refine' gE | fail) <;> (conv => whnf))
        have hz3 : zs2.drop (lo2 + 1) = (q ++ new).map pI := by
          rw [← List.drop_drop, hz2]; rfl
        have hlo2 : lo2 < zs2.length := by
          rcases Nat.lt_or_ge lo2 zs2.length with h | h
          · exact h
          · rw [List.drop_eq_nil_of_le h] at hz2; cases hz2
        have hB2 := hm2.end hall
        have hcnt : D2.length - (q ++ new).length = n0 + 1 := by
          simp only [List.length_cons, List.length_append] at hn0 hlz ⊢
          omega
        clear hz hz0 hz2 hB hm2 hall hlz hD
        (refine' ⟨(kn2, b2, D2, zs2, lo2, q ++ new), _, _⟩; rotate_right; (refine SubA.auto rfl rfl rfl rfl ?_ ?_ <;> repeat' (first | exact trivial | refine And.intro ?_ ?_ | with_reducible rfl | (refine pIEq ?_; exact ar_) | (refine bufMap ?_) | (refine bufNil ?_) | (refine bufEq ?_) | rfl)); rotate_right; exact ar2_)
    clear hB hz hz0 hu hlo hlz hk hzl hD
    rintro ⟨kn, b, D, zs, lo, q⟩ ⟨hk, hB, hzl, hz, hlo, hcnt⟩
    try simp only at hk hB hzl hz hlo hcnt
    have hD := bfs_len (nb := NbS l) (st := st) hB.nd hB.okk
    (conv => whnf); repeat' ((first | apply CondA.plain | refine' gC | refine' gpI | refine' gpB | refine' gCkpv | refine' gWrpv | refine' gE | fail) <;> (conv => whnf))
    (refine' ⟨(kn, b, D, zs, lo + 1, q), _, _, _⟩; rotate_right; (refine SubA.auto rfl rfl rfl rfl ?_ ?_ <;> repeat' (first | exact trivial | refine And.intro ?_ ?_ | with_reducible rfl | (refine pIEq ?_; exact ar_) | (refine bufMap ?_) | (refine bufNil ?_) | (refine bufEq ?_) | rfl)); rotate_right; exact ar2_)
    · refine cellsEq ?_
      have e : lo + ((zs.length - lo : Nat) : Int).toNat = zs.length := by omega
      show [AV.sub 5 (lo + 1) (lo + ((zs.length - lo : Nat) : Int).toNat)] = [AV.sub 5 (lo + 1) zs.length]
      rw [e]
    · exact ⟨hk, hB, hzl, hz⟩
open Go.Abs
set_option maxRecDepth 100000
def pqS (nx u : Int) (D : List (Int × Int)) (b : Bool) (ws : List Wr) : AH := [some (.cells [.p (pI nx)]), some (.cells [.mp 4]), some (.cells [.p (pI u)]), some (.cells [.buf 5]), some (.map (dsE D)), some (AO.buf 124 b (ws.map Wr.pv))]
def pqT (nx u : Int) (D : List (Int × Int)) (b : Bool) (ws : List Wr) : AH := [some (.cells [.p (pI nx)]), some (.cells [.mp 4]), some (.cells [.p (pI u)]), some (.cells [.buf 6]), some (.map (dsE D)), none, some (AO.buf 124 b (ws.map Wr.pv))]
set_option maxHeartbeats 4000000 in
theorem planS_call (nx u du m d : Int) (D : List (Int × Int)) (b : Bool) (ws : List Wr) (w : Wr) (hn : (D.map (·.1)).Nodup) (hu : (u, du) ∈ D) (hm : (m, d) ∈ D) (hd : 0 ≤ du ∧ du ≤ 100000) (hw : ws.length ≤ 100000) : ACall Tryz.prog 94 [.p w.pv, .p (pI m), .ptr 0 0, .ptr 1 0, .ptr 2 0, .ptr 3 0] (pqS nx u D b ws) fun r H => r = .tup [] ∧ ∃ (b' : Bool), (nx < 0 ∧ d = du - 1 ∧ H = pqT m u D b' (ws ++ [w])) ∨ (¬ (nx < 0 ∧ d = du - 1) ∧ H = pqT nx u D b' ws) := by
  refine acall_enter Tryz.func94 rfl rfl tabOK rfl ?_
  (conv => whnf); repeat' ((first | apply CondA.plain | refine' gC | refine' gpI | refine' gpB | refine' gWrpv | refine' gE | ((refine LookA.mk _ rfl ds_key (ds_some hn hm) ?_)) | ((refine LookA.mk _ rfl ds_key (ds_some hn hu) ?_))) <;> (conv => whnf))
  · (refine RetK.mk _ _ _ [8] (.tup []) (pqT m u D false (ws ++ [w])) rfl rfl ?_ rfl rfl ?_ <;> (repeat' (first | exact trivial | refine And.intro ?_ ?_ | with_reducible rfl | (refine pIEq ?_; exact ar_) | (refine bufMap ?_) | (refine bufNil ?_) | (refine bufEq ?_) | rfl)))
    exact ⟨_, .inl ⟨by assumption, h0, rfl⟩⟩
  · (refine RetK.mk _ _ _ [5] (.tup []) (pqT nx u D b ws) rfl rfl ?_ rfl rfl ?_ <;> (repeat' (first | exact trivial | refine And.intro ?_ ?_ | with_reducible rfl | (refine pIEq ?_; exact ar_) | (refine bufMap ?_) | (refine bufNil ?_) | (refine bufEq ?_) | rfl)))
    exact ⟨_, .inr ⟨fun h => h0 h.2, rfl⟩⟩
  · (refine RetK.mk _ _ _ [5] (.tup []) (pqT nx u D b ws) rfl rfl ?_ rfl rfl ?_ <;> (repeat' (first | exact trivial | refine And.intro ?_ ?_ | with_reducible rfl | (refine pIEq ?_; exact ar_) | (refine bufMap ?_) | (refine bufNil ?_) | (refine bufEq ?_) | rfl)))
    exact ⟨_, .inr ⟨fun h => absurd h.1 (by omega), rfl⟩⟩
open Go.Abs
set_option maxRecDepth 100000
def epS (kn : List (Int × Bool)) (nx u : Int) (D : List (Int × Int)) (b : Bool) (ws : List Wr) : AH := [some (.map (knE kn)), some (.cells [.p (pI nx)]), some (.cells [.mp 5]), some (.cells [.p (pI u)]), some (.cells [.buf 6]), some (.map (dsE D)), some (AO.buf 124 b (ws.map Wr.pv))]
def epT (kn : List (Int × Bool)) (nx u : Int) (D : List (Int × Int)) (b : Bool) (ws : List Wr) : AH := [some (.map (knE kn)), some (.cells [.p (pI nx)]), some (.cells [.mp 5]), some (.cells [.p (pI u)]), some (.cells [.buf 7]), some (.map (dsE D)), none, some (AO.buf 124 b (ws.map Wr.pv))]
/-- In the middle of a visit: nothing found yet, or a write to a state that is nearer. -/
structure EP (l : List Ck) (u du : Int) (D : List (Int × Int)) (ws0 : List Wr) (kn : List (Int × Bool)) (nx : Int) (ws : List Wr) (c k0 : Nat) : Prop where
  kn : KnOK l kn
  st : (nx = -1 ∧ ws = ws0 ∧ ∀ (i : Nat) (k : Int), i < l.length → (i < c ∨ i = c ∧ k < k0) → 0 ≤ k → k < ((rads l).getD i 0 : Int) → NbAt l u i k → (numF (rads l) ((setF (rads l) u).set i k), du - 1) ∉ D) ∨
    (∃ w, 0 ≤ nx ∧ ws = ws0 ++ [w] ∧ CwV l w ∧ nx = numF (rads l) (applyC (setF (rads l) u) w) ∧ OwnOK l (applyC (setF (rads l) u) w) ∧ (nx, du - 1) ∈ D)
section
variable {l : List Ck} {u du : Int} {D : List (Int × Int)} {ws0 ws : List Wr} {kn kn' : List (Int × Bool)} {nx : Int} {c k : Nat}
theorem EP.init (hk : KnOK l kn) : EP l u du D ws kn (-1) ws 0 0 := ⟨hk, .inl ⟨rfl, rfl, fun i k _ h h0 => by omega⟩⟩
theorem EP.len (h : EP l u du D ws0 kn nx ws c k) : ws.length ≤ ws0.length + 1 := by
  rcases h.st with ⟨_, rfl, _⟩ | ⟨w, _, rfl, _⟩ <;> simp
theorem EP.skip (h : EP l u du D ws0 kn nx ws c k) (hk : KnOK l kn') (hn : nx < 0 → NbAt l u c k → (numF (rads l) ((setF (rads l) u).set c k), du - 1) ∉ D) : EP l u du D ws0 kn' nx ws c (k + 1) := by
  refine ⟨hk, ?_⟩
  rcases h.st with ⟨h1, h2, h3⟩ | h1
  · refine .inl ⟨h1, h2, fun i k' hi hlt h0 hk' ha => ?_⟩
    rcases Int.lt_or_le k' k with g1 | g1
    · exact h3 i k' hi (by omega) h0 hk' ha
    · rcases Nat.lt_or_ge i c with g2 | g2
      · exact h3 i k' hi (by omega) h0 hk' ha
      · obtain rfl : i = c := by omega
        obtain rfl : k' = k := by omega
        exact hn (by omega) ha
  · exact .inr h1
theorem EP.find (h : EP l u du D ws0 kn nx ws c k) (hk : KnOK l kn') (h0 : nx < 0) (hc : c < l.length) (hkc : k < l[c].cs.length) (ha : NbAt l u c k) (hu : NumOK l u) (hd : (numF (rads l) ((setF (rads l) u).set c k), du - 1) ∈ D) :
    EP l u du D ws0 kn' (numF (rads l) ((setF (rads l) u).set c k)) (ws ++ [⟨1, c, k⟩]) c (k + 1) := by
  have hnb := OwnOK.nb hc (k := (k : Int)) (by omega) ha
  have hr := (hnb.okm hu).range
  refine ⟨hk, .inr ⟨⟨1, c, k⟩, hr.1, ?_, ⟨rfl, ⟨by simp, by simpa using hc⟩, by simp, ?_⟩, ?_, ?_, hd⟩⟩
  · rcases h.st with ⟨_, h2, _⟩ | ⟨w, h1, _⟩
    · rw [h2]
    · omega
  · simp only [Int.toNat_natCast, getD_at hc]; omega
  · simp [applyC]
  · simpa [applyC] using ha.2
theorem EP.row (h : EP l u du D ws0 kn nx ws c k) (hc : c < l.length) (hkc : l[c].cs.length ≤ k) : EP l u du D ws0 kn nx ws (c + 1) 0 := by
  refine ⟨h.kn, ?_⟩
  rcases h.st with ⟨h1, h2, h3⟩ | h1
  · refine .inl ⟨h1, h2, fun i k' hi hlt h0 hk' ha => ?_⟩
    rcases Nat.lt_or_ge i c with g2 | g2
    · exact h3 i k' hi (by omega) h0 hk' ha
    · obtain rfl : i = c := by omega
      have := hk'
      rw [radsD hc] at this
      exact h3 i k' hi (by omega) h0 hk' ha
  · exact .inr h1
theorem EP.done (h : EP l u du D ws0 kn nx ws c k) (hc : l.length ≤ c) (hex : ∃ m, (m, du - 1) ∈ D ∧ NbS l u m) : ∃ w, ws = ws0 ++ [w] ∧ CwV l w ∧ nx = numF (rads l) (applyC (setF (rads l) u) w) ∧ OwnOK l (applyC (setF (rads l) u) w) ∧ (nx, du - 1) ∈ D := by
  rcases h.st with ⟨h1, h2, h3⟩ | ⟨w, _, h1⟩
  · obtain ⟨m, hm, i, k', hi, hk', hne, rfl, ho⟩ := hex
    exact absurd hm (h3 i k' hi (by omega) hk'.1 hk'.2 ⟨hne, ho⟩)
  · exact ⟨w, h1⟩
end
set_option maxHeartbeats 8000000 in
theorem eachP_call (nl : Bool) (l : List Ck) (kn : List (Int × Bool)) (b : Bool) (D : List (Int × Int)) (ws0 : List Wr) (st u du : Int) (hl : CkOK l) (hk : KnOK l kn) (hB : Bfs (NbS l) (NumOK l) st D []) (hud : (u, du) ∈ D) (hus : u ≠ st) (hw : ws0.length ≤ 90000) :
    ACall Tryz.prog 93 [.agg [.p (.list nl (l.map Ck.pv)), .p (.list true []), .mp 0], .p (pI u), .clo (.func 94) [.ptr 1 0, .ptr 2 0, .ptr 3 0, .ptr 4 0]] (epS kn (-1) u D b ws0) fun r H => r = .tup [] ∧ ∃ (kn' : List (Int × Bool)) (b' : Bool) (nx : Int) (w : Wr), H = epT kn' nx u D b' (ws0 ++ [w]) ∧ KnOK l kn' ∧ CwV l w ∧ nx = numF (rads l) (applyC (setF (rads l) u) w) ∧ OwnOK l (applyC (setF (rads l) u) w) ∧ (nx, du - 1) ∈ D := by
  refine acall_enter Tryz.func93 rfl rfl tabOK rfl ?_
  have hu : NumOK l u := hB.okk _ _ hud
  obtain ⟨e1, hV, hO⟩ := hu.back
  have hR := hu.range
  have hP := hl.prod
  have h16 := hl.1
  have hE := EP.init (u := u) (du := du) (D := D) (ws := ws0) hk
  have hrl : (rads l).length = l.length := by simp [rads]
  have hsl : (setF (rads l) u).length = l.length := by rw [len_setF, hrl]
  have hpos := hB.pos _ _ hud
  have hD := bfs_len (nb := NbS l) (st := st) hB.nd hB.okk
  (conv => whnf); repeat' ((first | apply CondA.plain | refine' gC | refine' gpI | refine' gpB | refine' gCkpv | refine' gWrpv | refine' gE | (apply DrawA.quiet (by kernel_rfl) (by kernel_rfl); (conv => whnf); fail_if_success (show False)) | ((refine CallA.loc [0] [] rfl rfl ((setting_call nl l kn u hl (by omega)).mono ?_); rintro _ _ ⟨b0, rfl, rfl⟩))) <;> (conv => whnf))
  obtain ⟨s, hs⟩ : ∃ s, setF (rads l) u = s := ⟨_, rfl⟩
  rw [hs] at hV hO hsl e1 ⊢
  refine loop_rule (fun (⟨c, kn, b, nx, ws⟩ : Nat × List (Int × Bool) × Bool × Int × List Wr) => ⟨[(2, .clo (.func 94) [.ptr 1 0, .ptr 2 0, .ptr 3 0, .ptr 4 0]), (3, .ptr 8 0), (6, .buf 7), (16, .p (.list nl (l.map Ck.pv))), (17, .p (pI l.length)), (18, .p (pI c))], [some (.map (knE kn)), some (.cells [.p (pI nx)]), some (.cells [.mp 5]), some (.cells [.p (pI u)]), some (.cells [.buf 9]), some (.map (dsE D)), none, some (AO.buf 3 b0 (s.map pI)), some (.cells [.p (.list nl (l.map Ck.pv)), .p (.list true []), .mp 0]), some (AO.buf 124 b (ws.map Wr.pv))]⟩) (fun (⟨c, kn, b, nx, ws⟩ : Nat × List (Int × Bool) × Bool × Int × List Wr) => c ≤ l.length ∧ EP l u du D ws0 kn nx ws c 0) (fun (⟨c, kn, b, nx, ws⟩ : Nat × List (Int × Bool) × Bool × Int × List Wr) => l.length - c) (0, kn, b, -1, ws0) ?_ ?_ ?_; (refine SubA.auto rfl rfl rfl rfl ?_ ?_ <;> repeat' (first | exact trivial | refine And.intro ?_ ?_ | with_reducible rfl | (refine pIEq ?_; exact ar_) | (refine bufMap ?_) | (refine bufNil ?_) | (refine bufEq ?_) | rfl))
  · exact ⟨by omega, hE⟩
  clear hE hk
  rintro ⟨c, kn, b, nx, ws⟩ ⟨hc, hE⟩
  try simp only at hc hE
  rcases Nat.lt_or_ge c l.length with hlt | hge
  · have hcs : c < s.length := by omega
    have hsc := hV.2 c hcs (by omega)
    have hcl := hl.2.1 _ (List.getElem_mem hlt)
    (conv => whnf); repeat' ((first | apply CondA.plain | refine' gC | refine' gpI | refine' gpB | refine' gCkpv | refine' gWrpv | refine' gE | fail) <;> (conv => whnf))
    refine loop_rule (fun (⟨k, kn, b, nx, ws, y⟩ : Nat × List (Int × Bool) × Bool × Int × List Wr × Int) => ⟨[(2, .clo (.func 94) [.ptr 1 0, .ptr 2 0, .ptr 3 0, .ptr 4 0]), (3, .ptr 8 0), (6, .buf 7), (7, .p (pI c)), (9, .p (pI s[c])), (16, .p (.list nl (l.map Ck.pv))), (17, .p (pI l.length)), (18, .p (pI c)), (29, .p (pI l[c].cs.length)), (30, .p (pI k))], [some (.map (knE kn)), some (.cells [.p (pI nx)]), some (.cells [.mp 5]), some (.cells [.p (pI u)]), some (.cells [.buf 9]), some (.map (dsE D)), none, some (AO.buf 3 b0 ((s.set c y).map pI)), some (.cells [.p (.list nl (l.map Ck.pv)), .p (.list true []), .mp 0]), some (AO.buf 124 b (ws.map Wr.pv))]⟩) (fun (⟨k, kn, b, nx, ws, y⟩ : Nat × List (Int × Bool) × Bool × Int × List Wr × Int) => k ≤ l[c].cs.length ∧ EP l u du D ws0 kn nx ws c k) (fun (⟨k, kn, b, nx, ws, y⟩ : Nat × List (Int × Bool) × Bool × Int × List Wr × Int) => l[c].cs.length - k) (0, kn, b, nx, ws, s[c]) ?_ ?_ ?_; (refine SubA.auto rfl rfl rfl rfl ?_ ?_ <;> repeat' (first | exact trivial | refine And.intro ?_ ?_ | with_reducible rfl | (refine pIEq ?_; exact ar_) | (refine bufMap ?_) | (refine bufNil ?_) | (refine bufEq ?_) | rfl))
    · rw [List.set_getElem_self]
    · exact ⟨by omega, hE⟩
    clear hE
    rintro ⟨k, kn, b, nx, ws, y⟩ ⟨hk, hE⟩
    try simp only at hk hE
    rcases Nat.lt_or_ge k l[c].cs.length with hkl | hkg
    · have hrc : (rads l)[c]'(by omega) = l[c].cs.length := by simp [rads]
      have hSV : SetV (rads l) ((s.set c y).set c (k : Int)) := by rw [List.set_set]; exact hV.set (by omega) (by rw [hrc]; omega)
      have hN := numF_range hSV
      (conv => whnf); repeat' ((first | apply CondA.plain | refine' gC | refine' gpI | refine' gpB | refine' gCkpv | refine' gWrpv | refine' gE | ((refine CallA.loc [0, 7] [] rfl rfl ((number_call nl l kn b0 ((s.set c y).set c (k : Int)) hl hSV.ok).mono ?_); rintro _ _ ⟨rfl, rfl⟩)) | ((refine CallA.loc [0] [] rfl rfl ((xcalm_call nl l kn _ hl hE.kn ⟨by omega, by omega⟩).mono ?_); rintro _ _ ⟨bb, kn2, rfl, rfl, hk2, hbb⟩))) <;> (conv => whnf))
      · have hat : NbAt l u c k := by
          refine ⟨?_, ?_⟩
          · rw [hs, getD_at hcs]; assumption
          · have := hbb.1 h0
            rw [setF_num hSV, List.set_set] at this
            rw [hs]; exact this
        have hnb := OwnOK.nb hlt (k := (k : Int)) (by omega) hat
        obtain ⟨d, hd⟩ := hB.done u du hud (by simp) _ hnb
        have hss : (s.set c y).set c (k : Int) = (setF (rads l) u).set c (k : Int) := by rw [List.set_set, hs]
        rw [← hss] at hd
        refine CallA.loc [1, 2, 3, 4, 5, 9] [] rfl rfl ((planS_call nx u du (numF (rads l) ((s.set c y).set c (k : Int))) d D b ws ⟨1, c, k⟩ hB.nd hud hd ⟨by omega, by omega⟩ (by have := hE.len; omega)).mono ?_)
        rintro _ _ ⟨rfl, b2, ⟨hneg, rfl, rfl⟩ | ⟨hnn, rfl⟩⟩
        · have hE2 := hE.find hk2 hneg hlt hkl hat hu (by rw [← hss]; exact hd)
          rw [← hss] at hE2
          (conv => whnf); repeat' ((first | apply CondA.plain | refine' gC | refine' gpI | refine' gpB | refine' gCkpv | refine' gWrpv | refine' gE | fail) <;> (conv => whnf))
          (refine' ⟨(k + 1, kn2, b2, numF (rads l) ((s.set c y).set c (k : Int)), ws ++ [⟨1, c, k⟩], (k : Int)), _, _, _⟩; rotate_right; (refine SubA.auto rfl rfl rfl rfl ?_ ?_ <;> repeat' (first | exact trivial | refine And.intro ?_ ?_ | with_reducible rfl | (refine pIEq ?_; exact ar_) | (refine bufMap ?_) | (refine bufNil ?_) | (refine bufEq ?_) | rfl)); rotate_right; exact ar2_)
          all_goals first | exact List.set_set .. | exact ⟨by omega, hE2⟩
        · have hE2 : EP l u du D ws0 kn2 nx ws c (k + 1) := hE.skip hk2 fun hneg _ hdd => hnn ⟨hneg, by rw [← hss] at hdd; exact key_unique hB.nd hd hdd⟩
          (conv => whnf); repeat' ((first | apply CondA.plain | refine' gC | refine' gpI | refine' gpB | refine' gCkpv | refine' gWrpv | refine' gE | fail) <;> (conv => whnf))
          (refine' ⟨(k + 1, kn2, b2, nx, ws, (k : Int)), _, _, _⟩; rotate_right; (refine SubA.auto rfl rfl rfl rfl ?_ ?_ <;> repeat' (first | exact trivial | refine And.intro ?_ ?_ | with_reducible rfl | (refine pIEq ?_; exact ar_) | (refine bufMap ?_) | (refine bufNil ?_) | (refine bufEq ?_) | rfl)); rotate_right; exact ar2_)
          all_goals first | exact List.set_set .. | exact ⟨by omega, hE2⟩
      · (refine' ⟨(k + 1, kn2, b, nx, ws, (k : Int)), _, _, _⟩; rotate_right; (refine SubA.auto rfl rfl rfl rfl ?_ ?_ <;> repeat' (first | exact trivial | refine And.intro ?_ ?_ | with_reducible rfl | (refine pIEq ?_; exact ar_) | (refine bufMap ?_) | (refine bufNil ?_) | (refine bufEq ?_) | rfl)); rotate_right; exact ar2_)
        all_goals first
          | exact List.set_set ..
          | (refine ⟨by omega, hE.skip hk2 fun _ hat => ?_⟩
             have h2 := hat.2
             rw [hs] at h2
             rw [setF_num hSV, List.set_set] at hbb
             rw [hbb.2 h2] at h0
             cases h0)
      · (refine' ⟨(k + 1, kn, b, nx, ws, (k : Int)), _, _, _⟩; rotate_right; (refine SubA.auto rfl rfl rfl rfl ?_ ?_ <;> repeat' (first | exact trivial | refine And.intro ?_ ?_ | with_reducible rfl | (refine pIEq ?_; exact ar_) | (refine bufMap ?_) | (refine bufNil ?_) | (refine bufEq ?_) | rfl)); rotate_right; exact ar2_)
        all_goals first
          | exact List.set_set ..
          | (refine ⟨by omega, hE.skip hE.kn fun _ hat => ?_⟩
             have h2 := hat.1
             rw [hs, getD_at hcs] at h2
             exact absurd (by assumption) h2)
    · have hss : (s.set c y).set c s[c] = s := by rw [List.set_set, List.set_getElem_self]
      have hE3 := hE.row hlt hkg
      (conv => whnf); repeat' ((first | apply CondA.plain | refine' gC | refine' gpI | refine' gpB | refine' gCkpv | refine' gWrpv | refine' gE | fail) <;> (conv => whnf))
      (refine' ⟨(c + 1, kn, b, nx, ws), _, _, _⟩; rotate_right; (refine SubA.auto rfl rfl rfl rfl ?_ ?_ <;> repeat' (first | exact trivial | refine And.intro ?_ ?_ | with_reducible rfl | (refine pIEq ?_; exact ar_) | (refine bufMap ?_) | (refine bufNil ?_) | (refine bufEq ?_) | rfl)); rotate_right; exact ar2_)
      all_goals first | exact hss | exact ⟨by omega, hE3⟩
  · obtain ⟨w, rfl, hw1, hw2, hw3, hw4⟩ := hE.done hge (hB.pre u du hud hus)
    rw [hs] at hw2 hw3
    (conv => whnf); repeat' ((first | apply CondA.plain | refine' gC | refine' gpI | refine' gpB | refine' gCkpv | refine' gWrpv | refine' gE | fail) <;> (conv => whnf))
    (refine RetK.mk _ _ _ [9] (.tup []) (epT kn nx u D b (ws0 ++ [w])) rfl rfl ?_ rfl rfl ?_ <;> (repeat' (first | exact trivial | refine And.intro ?_ ?_ | with_reducible rfl | (refine pIEq ?_; exact ar_) | (refine bufMap ?_) | (refine bufNil ?_) | (refine bufEq ?_) | rfl)))
    exact ⟨kn, b, nx, w, rfl, hE.kn, hw1, hw2, hw3, hw4⟩
open Go.Abs
set_option maxRecDepth 100000
theorem pbegin_call (nl n1 n2 : Bool) (l : List Ck) (s t : List Int) (hl : CkOK l) (hs : SetOK l s) (ht : SetOK l t) (hos : OwnOK l s) (hot : OwnOK l t) : ACall Tryz.prog 90 [.p (.list nl (l.map Ck.pv)), .p (.list n1 (s.map pI)), .p (.list n2 (t.map pI)), .p (.list true [])] [] fun r H => r = .tup [.agg [.p (.list nl (l.map Ck.pv)), .p (.list true []), .mp 0], .p (pI 0)] ∧ H = [some (.map (knE []))] := by
  refine acall_enter Tryz.func90 rfl rfl tabOK rfl ?_
  have hlim : LimOK l [] := ⟨hl, by simp, by simp⟩
  (conv => whnf); repeat' ((first | apply CondA.plain | refine' gC | refine' gpI | refine' gpB | refine' gCkpv | refine' gWrpv | refine' gE | (apply DrawA.quiet (by kernel_rfl) (by kernel_rfl); (conv => whnf); fail_if_success (show False)) | ((refine call_exI (Check_call nl l) ?_; intro e he; obtain rfl : e = 0 := he.2 hl)) | ((refine call_exB (cLimits_call nl true l []) ?_; intro b1 hb1; obtain rfl : b1 = true := hb1.2 hlim)) | ((refine call_exB (cSetting_call nl n1 l s) ?_; intro b2 hb2; obtain rfl : b2 = true := hb2.2 ⟨hl, hs⟩)) | ((refine call_exB (cSetting_call nl n2 l t) ?_; intro b3 hb3; obtain rfl : b3 = true := hb3.2 ⟨hl, ht⟩)) | ((refine call_exB (calm_call nl n1 l s hl hs) ?_; intro b4 hb4; obtain rfl : b4 = true := hb4.2 hos)) | ((refine call_exB (calm_call nl n2 l t hl ht) ?_; intro b5 hb5; obtain rfl : b5 = true := hb5.2 hot))) <;> (conv => whnf))
  (refine' RetK.auto (.tup [.agg [.p (.list nl (l.map Ck.pv)), .p (.list true []), .mp 0], .p (pI 0)]) ([some (.map (knE []))]) rfl rfl rfl rfl _ _ _ <;> repeat' (first | exact trivial | refine And.intro ?_ ?_ | with_reducible rfl | (refine pIEq ?_; exact ar_) | (refine bufMap ?_) | (refine bufNil ?_) | (refine bufEq ?_) | rfl))
open Go.Abs
set_option maxRecDepth 100000
theorem way_set {l : List Ck} : ∀ (ws : List Wr) {s : List Int}, SetOK l s → (∀ w ∈ ws, CwV l w) → SetOK l (ws.foldl applyC s)
  | [], _, h, _ => h
  | w :: ws, _, h, hw => way_set ws (applyC_ok h (hw w (List.mem_cons_self ..))) fun x hx => hw x (List.mem_cons_of_mem _ hx)
def rpC0 : Sc := (.one 5 (.one 6 .done))
def rpC1 : Sc := (.one 4 (.one 6 .done))
def rpC2 : Sc := (.two 4 5 rpC0 rpC1)
def rpC3 : Sc := (.one 3 (.one 4 (.one 6 .done)))
def rpC4 : Sc := (.two 3 5 rpC2 rpC3)
def rpC5 : Sc := (.one 1 (.one 3 (.one 4 (.one 6 .done))))
def rpC6 : Sc := (.two 1 5 rpC4 rpC5)
def rpC7 : Sc := (.one 0 (.one 4 (.one 6 .done)))
def rpC8 : Sc := (.two 0 5 rpC2 rpC7)
def rpC9 : Sc := (.two 0 3 rpC3 rpC7)
def rpC10 : Sc := (.three 0 3 5 rpC4 rpC8 rpC9)
def rpC11 : Sc := (.two 0 1 rpC5 rpC9)
def rpA : Sc := (.take 2 (.three 0 1 5 rpC6 rpC10 rpC11))
set_option maxHeartbeats 8000000 in
theorem cPlan_call (nl n1 n2 : Bool) (l : List Ck) (s t : List Int) (hl : CkOK l) (hs : SetOK l s) (ht : SetOK l t) (hos : OwnOK l s) (hot : OwnOK l t) : ACall Tryz.prog 46 [.p (.list nl (l.map Ck.pv)), .p (.list n1 (s.map pI)), .p (.list n2 (t.map pI)), .p (.list true [])] [] fun r H => H = [] ∧ ((∃ (ws : List Wr) (b : Bool), r = .tup [.p (.list b (ws.map Wr.pv)), .p (pI 0)] ∧ Way applyC (CwV l) (OwnOK l) s ws ∧ ws.foldl applyC s = t ∧ ws.length ≤ 4096) ∨ r = .tup [.p (.list true []), .p (pI 9)]) := by
  refine acall_enter Tryz.func46 rfl rfl tabOK rfl ?_
  have hP := hl.prod
  have hst : NumOK l (numF (rads l) t) := ⟨t, ht.v, rfl, hot⟩
  have hk0 : KnOK l [] := fun p hp => by cases hp
  (conv => whnf); repeat' ((first | apply CondA.plain | refine' gC | refine' gpI | refine' gpB | refine' gCkpv | refine' gWrpv | refine' gE | ((refine CallA.loc [] [] rfl rfl ((pbegin_call nl n1 n2 l s t hl hs ht hos hot).mono ?_); rintro _ _ ⟨rfl, rfl⟩))) <;> (conv => whnf))
  refine DrawA.meet (fun (⟨kn, D⟩ : List (Int × Bool) × List (Int × Int)) => ⟨[(1, .p (.list n1 (s.map pI))), (10, .ptr 1 0), (12, .ptr 2 0)], [some (.map (knE kn)), some (.cells [.p (.list nl (l.map Ck.pv)), .p (.list true []), .mp 0]), some (.cells [.mp 3]), some (.map (dsE D))]⟩) (fun (⟨kn, D⟩ : List (Int × Bool) × List (Int × Int)) => KnOK l kn ∧ Bfs (NbS l) (NumOK l) (numF (rads l) t) D []) (DrawB.orders rpA (by kernel_rfl) (by kernel_rfl) (by kernel_rfl) ?_) ?_
  · (conv => whnf); repeat' ((first | apply CondA.plain | refine' gC | refine' gpI | refine' gpB | refine' gCkpv | refine' gWrpv | refine' gE | ((refine CallA.loc [0] [] rfl rfl ((numberP_call nl l [] n2 t hl ht).mono ?_); rintro _ _ ⟨rfl, rfl⟩)) | ((refine CallA.loc [0] [] rfl rfl ((reach_call nl l [] _ hl hk0 hst).mono ?_); rintro _ _ ⟨kn, D, rfl, rfl, hk, hB⟩))) <;> (conv => whnf))
    all_goals
      (refine' ⟨(kn, D), _, _⟩; rotate_right; (refine SubA.auto rfl rfl rfl rfl ?_ ?_ <;> repeat' (first | exact trivial | refine And.intro ?_ ?_ | with_reducible rfl | (refine pIEq ?_; exact ar_) | (refine bufMap ?_) | (refine bufNil ?_) | (refine bufEq ?_) | rfl)); rotate_right; exact ar2_)
  rintro ⟨kn, D⟩ ⟨hk, hB⟩
  try simp only at hk hB
  have hD := bfs_len (nb := NbS l) (st := numF (rads l) t) hB.nd hB.okk
  by_cases hx : ∃ d, (numF (rads l) s, d) ∈ D
  rotate_left
  · have hx : ∀ d, (numF (rads l) s, d) ∉ D := fun d h => hx ⟨d, h⟩
    (conv => whnf); repeat' ((first | apply CondA.plain | refine' gC | refine' gpI | refine' gpB | refine' gCkpv | refine' gWrpv | refine' gE | ((refine CallA.loc [0] [] rfl rfl ((numberP_call nl l kn n1 s hl hs).mono ?_); rintro _ _ ⟨rfl, rfl⟩)) | ((refine LookA.mk _ rfl ds_key (ds_none hx) ?_))) <;> (conv => whnf))
    (refine' RetK.auto (.tup [.p (.list true []), .p (pI 9)]) ([]) rfl rfl rfl rfl _ _ _ <;> repeat' (first | exact trivial | refine And.intro ?_ ?_ | with_reducible rfl | (refine pIEq ?_; exact ar_) | (refine bufMap ?_) | (refine bufNil ?_) | (refine bufEq ?_) | rfl))
    exact .inr rfl
  obtain ⟨d, hd⟩ := hx
  have hdp := hB.pos _ _ hd
  (conv => whnf); repeat' ((first | apply CondA.plain | refine' gC | refine' gpI | refine' gpB | refine' gCkpv | refine' gWrpv | refine' gE | ((refine CallA.loc [0] [] rfl rfl ((numberP_call nl l kn n1 s hl hs).mono ?_); rintro _ _ ⟨rfl, rfl⟩)) | ((refine LookA.mk _ rfl ds_key (ds_some hB.nd hd) ?_))) <;> (conv => whnf))
  refine loop_rule (fun (⟨kn, b, a, d, ws⟩ : List (Int × Bool) × Bool × Int × Int × List Wr) => ⟨[(10, .ptr 1 0), (12, .ptr 2 0), (13, .p (pI a)), (16, .ptr 4 0)], [some (.map (knE kn)), some (.cells [.p (.list nl (l.map Ck.pv)), .p (.list true []), .mp 0]), some (.cells [.mp 3]), some (.map (dsE D)), some (.cells [.buf 5]), some (AO.buf 124 b (ws.map Wr.pv))]⟩) (fun (⟨kn, b, a, d, ws⟩ : List (Int × Bool) × Bool × Int × Int × List Wr) => KnOK l kn ∧ (a, d) ∈ D ∧ Way applyC (CwV l) (OwnOK l) s ws ∧ numF (rads l) (ws.foldl applyC s) = a ∧ (ws.length : Int) + d ≤ 4096) (fun (⟨kn, b, a, d, ws⟩ : List (Int × Bool) × Bool × Int × Int × List Wr) => d.toNat) (kn, true, numF (rads l) s, d, []) ?_ ?_ ?_; (refine SubA.cell _ 4 0 124 _ _ _ _ _ rfl rfl rfl ?_; refine SubA.auto rfl rfl rfl rfl ?_ ?_ <;> repeat' (first | exact trivial | refine And.intro ?_ ?_ | with_reducible rfl | (refine pIEq ?_; exact ar_) | (refine bufMap ?_) | (refine bufNil ?_) | (refine bufEq ?_) | rfl))
  · exact ⟨hk, hd, Way.nil hos, rfl, by simp; omega⟩
  clear hk hd hdp
  rintro ⟨kn, b, a, d, ws⟩ ⟨hk, hd, hw, hwa, hln⟩
  try simp only at hk hd hw hwa hln
  have hdp := hB.pos _ _ hd
  have hSV := (way_set ws hs hw.1)
  have hset : setF (rads l) a = ws.foldl applyC s := by rw [← hwa]; exact setF_num hSV.v
  rcases Int.lt_or_le 0 d with hpos | hneg
  · have hus : a ≠ numF (rads l) t := fun e => by
      have := key_unique hB.nd hB.st0 (by rw [← e]; exact hd)
      omega
    (conv => whnf); repeat' ((first | apply CondA.plain | refine' gC | refine' gpI | refine' gpB | refine' gCkpv | refine' gWrpv | refine' gE | ((refine LookA.mk _ rfl ds_key (ds_some hB.nd hd) ?_))) <;> (conv => whnf))
    refine CallA.loc [0, 7, 2, 6, 4, 3, 5] [] rfl rfl ((eachP_call nl l kn b D ws (numF (rads l) t) a d hl hk hB hd hus (by omega)).mono ?_)
    rintro _ _ ⟨rfl, kn2, b2, nx, w, rfl, hk2, hw1, hw2, hw3, hw4⟩
    rw [hset] at hw2 hw3
    (conv => whnf); repeat' ((first | apply CondA.plain | refine' gC | refine' gpI | refine' gpB | refine' gCkpv | refine' gWrpv | refine' gE | fail) <;> (conv => whnf))
    (refine' ⟨(kn2, b2, nx, d - 1, ws ++ [w]), _, _, _⟩; rotate_right; (refine SubA.auto rfl rfl rfl rfl ?_ ?_ <;> repeat' (first | exact trivial | refine And.intro ?_ ?_ | with_reducible rfl | (refine pIEq ?_; exact ar_) | (refine bufMap ?_) | (refine bufNil ?_) | (refine bufEq ?_) | rfl)); rotate_right; exact ar2_)
    exact ⟨hk2, hw4, hw.snoc hw1 hw3, by rw [List.foldl_append, hw2]; rfl, by simp; omega⟩
  · have hat : a = numF (rads l) t := by
      by_cases h : a = numF (rads l) t
      · exact h
      · have := hdp.2 h; omega
    have hft : ws.foldl applyC s = t := numF_inj hSV.v ht.v (by rw [hwa, hat])
    (conv => whnf); repeat' ((first | apply CondA.plain | refine' gC | refine' gpI | refine' gpB | refine' gCkpv | refine' gWrpv | refine' gE | ((refine LookA.mk _ rfl ds_key (ds_some hB.nd hd) ?_))) <;> (conv => whnf))
    (refine RetK.frz _ _ _ [5] ?_; refine' RetK.auto (.tup [.p (.list b (ws.map Wr.pv)), .p (pI 0)]) ([]) rfl rfl rfl rfl _ _ _ <;> repeat' (first | exact trivial | refine And.intro ?_ ?_ | with_reducible rfl | (refine pIEq ?_; exact ar_) | (refine bufMap ?_) | (refine bufNil ?_) | (refine bufEq ?_) | rfl))
    exact .inl ⟨ws, b, rfl, hw, hft, by omega⟩
open Go.Abs
set_option maxRecDepth 100000
structure Pt where
  rate : Int
  mv : Int
def Pt.pv (p : Pt) : PV := .agg [pI p.rate, pI p.mv]
theorem pwithin_call (n lo hi : Int) : ACall Tryz.prog 73 [.p (pI n), .p (pI lo), .p (pI hi)] [] fun r H => r = .p (pB (decide (lo ≤ n ∧ n ≤ hi))) ∧ H = [] := by
  refine acall_enter Tryz.func73 rfl rfl tabOK rfl ?_
  (conv => whnf); repeat' ((first | apply CondA.plain | refine' gC | refine' gpI | refine' gpB | refine' gPtpv | refine' gE | (apply DrawA.quiet (by kernel_rfl) (by kernel_rfl); (conv => whnf); fail_if_success (show False))) <;> (conv => whnf))
  all_goals
    (refine RetK.p ?_ <;> repeat' (first | exact trivial | refine And.intro ?_ ?_ | with_reducible rfl | (refine pIEq ?_; exact ar_) | (refine bufMap ?_) | (refine bufNil ?_) | (refine bufEq ?_) | rfl); all_goals try first | refine pBEq ?_ | refine pIEq ?_)
  · by_cases h : n ≤ hi <;> simp [h] <;> omega
  · simp; omega
/-- One point, and the one ahead of it. -/
def PtAt (xs : List Pt) (i : Nat) (h : i < xs.length) : Prop := (1 ≤ xs[i].rate ∧ xs[i].rate ≤ 4000000000) ∧ (1 ≤ xs[i].mv ∧ xs[i].mv ≤ 5000) ∧ (∀ h0 : 0 < i, (xs[i - 1]'(by omega)).rate < xs[i].rate ∧ (xs[i - 1]'(by omega)).mv ≤ xs[i].mv)
def PtsOK (xs : List Pt) : Prop := (∀ (i : Nat) (h : i < xs.length), PtAt xs i h) ∧ 1 ≤ xs.length ∧ xs.length ≤ 8
def ptA : Sc := (.take 0 (.frz 1 (.one 2 (.take 3 (.take 4 (.take 5 (.frz 6 (.one 7 (.take 8 (.take 9 (.take 10 (.take 11 (.take 12 (.take 13 (.take 14 (.take 15 (.take 16 (.take 17 (.take 18 (.take 20 (.frz 21 (.one 19 (.take 22 (.take 23 (.take 24 (.take 25 (.take 26 (.take 27 (.take 28 (.take 30 (.frz 31 (.one 29 (.take 32 (.take 33 (.take 34 (.take 35 .done))))))))))))))))))))))))))))))))))))
set_option maxHeartbeats 4000000 in
theorem points_call (nl : Bool) (xs : List Pt) : ACall Tryz.prog 74 [.p (.list nl (xs.map Pt.pv))] [] fun r H => ∃ b : Bool, r = .p (pB b) ∧ H = [] ∧ (b = true ↔ PtsOK xs) := by
  refine acall_enter Tryz.func74 rfl rfl tabOK rfl ?_
  (conv => whnf); repeat' ((first | apply CondA.plain | refine' gC | refine' gpI | refine' gpB | refine' gPtpv | refine' gE | (apply DrawA.quiet (by kernel_rfl) (by kernel_rfl); (conv => whnf); fail_if_success (show False))) <;> (conv => whnf))
  refine loop_rule (fun (c : Nat) => ⟨[(0, .p (.list nl (xs.map Pt.pv))), (5, .p (.list nl (xs.map Pt.pv))), (6, .p (pI xs.length)), (7, .p (pI c))], []⟩) (fun (c : Nat) => c ≤ xs.length ∧ ∀ (i : Nat) (h : i < xs.length), i < c → PtAt xs i h) (fun (c : Nat) => xs.length - c) 0 ?_ ?_ ?_; (refine SubA.auto rfl rfl rfl rfl ?_ ?_ <;> repeat' (first | exact trivial | refine And.intro ?_ ?_ | with_reducible rfl | (refine pIEq ?_; exact ar_) | (refine bufMap ?_) | (refine bufNil ?_) | (refine bufEq ?_) | rfl))
  · exact ⟨by omega, by omega⟩
  rintro c ⟨hc, hok⟩
  rcases Nat.lt_or_ge c xs.length with hlt | hge
  · have hp : ∀ h0 : (0 : Int) < c, (xs[((c : Int) - 1).toNat]'(by omega)).rate = (xs[c - 1]'(by omega)).rate ∧ (xs[((c : Int) - 1).toNat]'(by omega)).mv = (xs[c - 1]'(by omega)).mv := fun h0 => by
      have e : ((c : Int) - 1).toNat = c - 1 := by omega
      simp only [e, and_self]
    (conv => whnf); repeat' ((first | apply CondA.plain | refine' gC | refine' gpI | refine' gpB | refine' gPtpv | refine' gE | fail) <;> (conv => whnf))
    refine DrawA.retire 4 0 [pI xs[c].rate, pI xs[c].mv] rfl rfl ?_
    (conv => whnf); repeat' ((first | apply CondA.plain | refine' gC | refine' gpI | refine' gpB | refine' gPtpv | refine' gE | (apply DrawA.orders ptA (by kernel_rfl) (by kernel_rfl) (by decide +kernel)) | (refine CallA.scalar (pwithin_call _ _ _) ?_)) <;> (conv => whnf))
    · (refine RetK.p ?_ <;> repeat' (first | exact trivial | refine And.intro ?_ ?_ | with_reducible rfl | (refine pIEq ?_; exact ar_) | (refine bufMap ?_) | (refine bufNil ?_) | (refine bufEq ?_) | rfl); all_goals try first | refine pBEq ?_ | refine pIEq ?_)
      exact ⟨_, rfl, rfl, fun h => (by cases h), fun h => absurd (h.1 c hlt).1 (of_decide_eq_false h0)⟩
    · (refine RetK.p ?_ <;> repeat' (first | exact trivial | refine And.intro ?_ ?_ | with_reducible rfl | (refine pIEq ?_; exact ar_) | (refine bufMap ?_) | (refine bufNil ?_) | (refine bufEq ?_) | rfl); all_goals try first | refine pBEq ?_ | refine pIEq ?_)
      exact ⟨_, rfl, rfl, fun h => (by cases h), fun h => absurd (h.1 c hlt).2.1 (of_decide_eq_false h0)⟩
    · (refine RetK.p ?_ <;> repeat' (first | exact trivial | refine And.intro ?_ ?_ | with_reducible rfl | (refine pIEq ?_; exact ar_) | (refine bufMap ?_) | (refine bufNil ?_) | (refine bufEq ?_) | rfl); all_goals try first | refine pBEq ?_ | refine pIEq ?_)
      refine ⟨_, rfl, rfl, fun h => (by cases h), fun h => ?_⟩
      have h1 := ((h.1 c hlt).2.2 (by omega)).1
      have h2 := (hp (by omega)).1
      omega
    · (refine RetK.p ?_ <;> repeat' (first | exact trivial | refine And.intro ?_ ?_ | with_reducible rfl | (refine pIEq ?_; exact ar_) | (refine bufMap ?_) | (refine bufNil ?_) | (refine bufEq ?_) | rfl); all_goals try first | refine pBEq ?_ | refine pIEq ?_)
      refine ⟨_, rfl, rfl, fun h => (by cases h), fun h => ?_⟩
      have h1 := ((h.1 c hlt).2.2 (by omega)).2
      have h2 := (hp (by omega)).2
      omega
    all_goals
      (refine' ⟨c + 1, _, _, _⟩; rotate_right; (refine SubA.auto rfl rfl rfl rfl ?_ ?_ <;> repeat' (first | exact trivial | refine And.intro ?_ ?_ | with_reducible rfl | (refine pIEq ?_; exact ar_) | (refine bufMap ?_) | (refine bufNil ?_) | (refine bufEq ?_) | rfl)); rotate_right; exact ar2_)
      refine ⟨by omega, fun i h hic => ?_⟩
      rcases Nat.lt_or_ge i c with h1 | h1
      · exact hok i h h1
      · obtain rfl : i = c := by omega
        refine ⟨of_decide_eq_true (by assumption), of_decide_eq_true (by assumption), fun h3 => ?_⟩
        have h2 := hp (by omega)
        omega
  · (conv => whnf); repeat' ((first | apply CondA.plain | refine' gC | refine' gpI | refine' gpB | refine' gPtpv | refine' gE | (apply DrawA.quiet (by kernel_rfl) (by kernel_rfl); (conv => whnf); fail_if_success (show False)) | (refine CallA.scalar (pwithin_call _ _ _) ?_)) <;> (conv => whnf))
    (refine RetK.p ?_ <;> repeat' (first | exact trivial | refine And.intro ?_ ?_ | with_reducible rfl | (refine pIEq ?_; exact ar_) | (refine bufMap ?_) | (refine bufNil ?_) | (refine bufEq ?_) | rfl); all_goals try first | refine pBEq ?_ | refine pIEq ?_)
    refine ⟨_, rfl, rfl, ?_⟩
    rw [decide_eq_true_eq]
    exact ⟨fun h => ⟨fun i h' => hok i h' (by omega), by omega, by omega⟩, fun h => by have := h.2; omega⟩
open Go.Abs
set_option maxRecDepth 100000
/-- A consumer: its clock, its supply, its points. -/
structure Sca where
  clk : Int
  sup : Int
  pn : Bool
  pts : List Pt
def Sca.pv (x : Sca) : PV := .agg [pI x.clk, pI x.sup, .list x.pn (x.pts.map Pt.pv)]
theorem gScapv {P : Prop} (h : P := by
  (first | ((first | apply AppA.snoc (f := Sca.pv) (a := _) rfl | apply AppA.one (f := Sca.pv) (a := _) rfl | (apply AppA.snoc (f := Sca.pv) (a := ⟨_, _, _, _⟩); dsimp only [Sca.pv]; exact rfl) | (apply AppA.one (f := Sca.pv) (a := ⟨_, _, _, _⟩); dsimp only [Sca.pv]; exact rfl)); exact ar_) | apply IsL.set (f := Sca.pv) (a := _) rfl | apply IsL.rep (f := Sca.pv) (a := _) rfl | (apply IsL.set (f := Sca.pv) (a := ⟨_, _, _, _⟩); dsimp only [Sca.pv]; exact rfl) | (apply IsL.rep (f := Sca.pv) (a := ⟨_, _, _, _⟩); dsimp only [Sca.pv]; exact rfl) | apply IsL.lit (f := Sca.pv) [] rfl | apply IsL.lit (f := Sca.pv) [_] rfl | apply IsL.lit (f := Sca.pv) [_, _] rfl | apply IsL.lit (f := Sca.pv) [_, _, _] rfl | apply IsL.lit (f := Sca.pv) [] rfl | apply IsL.lit (f := Sca.pv) [⟨_, _, _, _⟩] rfl | apply IsL.lit (f := Sca.pv) [⟨_, _, _, _⟩, ⟨_, _, _, _⟩] rfl | apply IsL.lit (f := Sca.pv) [⟨_, _, _, _⟩, ⟨_, _, _, _⟩, ⟨_, _, _, _⟩] rfl) <;> (solve_by_elim (newGoals := .nonDependentOnly) (symm := false) (exfalso := false) (transparency := .reducible) only [rfl, park_])) : P := h
def ScV (a b : Nat) (x : Sca) : Prop := (0 ≤ x.clk ∧ x.clk ≤ (a : Int) - 1) ∧ (0 ≤ x.sup ∧ x.sup ≤ (b : Int) - 1) ∧ PtsOK x.pts
theorem badsca_call (nl np : Bool) (l : List Ck) (q : List Sup) (h16 : l.length ≤ 16) (hq : q.length ≤ 16) (x : Sca) : ACall Tryz.prog 72 [.p x.pv, .ptr 0 0, .ptr 1 0] [some (.cells [.p (.list nl (l.map Ck.pv))]), some (.cells [.p (.list np (q.map Sup.pv))])] fun r H => ∃ b : Bool, r = .p (pB b) ∧ H = [some (.cells [.p (.list nl (l.map Ck.pv))]), some (.cells [.p (.list np (q.map Sup.pv))])] ∧ (b = true ↔ ¬ ScV l.length q.length x) := by
  refine acall_enter Tryz.func72 rfl rfl tabOK rfl ?_
  (conv => whnf); repeat' ((first | apply CondA.plain | refine' gC | refine' gpI | refine' gpB | refine' gCkpv | refine' gSuppv | refine' gScapv | refine' gE | (apply DrawA.quiet (by kernel_rfl) (by kernel_rfl); (conv => whnf); fail_if_success (show False)) | (refine CallA.scalar (pwithin_call _ _ _) ?_) | ((refine call_exB (points_call x.pn x.pts) ?_; intro b hb))) <;> (conv => whnf))
  all_goals
    (refine' RetK.auto (.p (pB _)) ([some (.cells [.p (.list nl (l.map Ck.pv))]), some (.cells [.p (.list np (q.map Sup.pv))])]) rfl rfl rfl rfl _ _ _ <;> repeat' (first | exact trivial | refine And.intro ?_ ?_ | with_reducible rfl | (refine pIEq ?_; exact ar_) | (refine bufMap ?_) | (refine bufNil ?_) | (refine bufEq ?_) | rfl))
    refine ⟨_, rfl, rfl, ?_⟩
    unfold ScV
    simp only [decide_eq_true_eq, decide_eq_false_iff_not] at *
    try simp
    try grind
theorem badsca_index (nl np : Bool) (l : List Ck) (q : List Sup) (h16 : l.length ≤ 16) (hq : q.length ≤ 16) (nq : Bool) (xs : List Sca)  : ACall Tryz.prog 132 [.p (.list nq (xs.map Sca.pv)), .clo (.func 72) [.ptr 0 0, .ptr 1 0]] [some (.cells [.p (.list nl (l.map Ck.pv))]), some (.cells [.p (.list np (q.map Sup.pv))])] fun r' H' => ∃ v : Int, r' = .p (pI v) ∧ H' = [some (.cells [.p (.list nl (l.map Ck.pv))]), some (.cells [.p (.list np (q.map Sup.pv))])] ∧ (0 ≤ v ↔ ∃ x ∈ xs, ¬ ScV l.length q.length x) := by
  refine acall_enter Tryz.func132 rfl rfl tabOK rfl ?_
  (conv => whnf); repeat' ((first | apply CondA.plain | refine' gC | refine' gpI | refine' gpB | refine' gCkpv | refine' gSuppv | refine' gScapv | refine' gE | (apply DrawA.quiet (by kernel_rfl) (by kernel_rfl); (conv => whnf); fail_if_success (show False))) <;> (conv => whnf))
  refine loop_rule (fun (c : Nat) => ⟨[(0, .p (.list nq (xs.map Sca.pv))), (1, .clo (.func 72) [.ptr 0 0, .ptr 1 0]), (7, .p (pI xs.length)), (8, .p (pI c))], [some (.cells [.p (.list nl (l.map Ck.pv))]), some (.cells [.p (.list np (q.map Sup.pv))])]⟩) (fun (c : Nat) => c ≤ xs.length ∧ ∀ (k : Nat) (h : k < xs.length), k < c → ¬ (fun x => ¬ ScV l.length q.length x) xs[k]) (fun (c : Nat) => xs.length - c) 0 ?_ ?_ ?_; (refine SubA.auto rfl rfl rfl rfl ?_ ?_ <;> repeat' (first | exact trivial | refine And.intro ?_ ?_ | with_reducible rfl | (refine pIEq ?_; exact ar_) | (refine bufMap ?_) | (refine bufNil ?_) | (refine bufEq ?_) | rfl))
  · exact ⟨by omega, by omega⟩
  rintro c ⟨hc, hok⟩
  rcases Nat.lt_or_ge c xs.length with hlt | hge
  · (conv => whnf); repeat' ((first | apply CondA.plain | refine' gC | refine' gpI | refine' gpB | refine' gCkpv | refine' gSuppv | refine' gScapv | refine' gE | (apply DrawA.quiet (by kernel_rfl) (by kernel_rfl); (conv => whnf); fail_if_success (show False))) <;> (conv => whnf))
    refine CallA.loc [0, 1] [] rfl rfl ((badsca_call nl np l q h16 hq xs[c]).mono ?_)
    rintro r' H' ⟨b, rfl, rfl, hb⟩
    (conv => whnf); repeat' ((first | apply CondA.plain | refine' gC | refine' gpI | refine' gpB | refine' gCkpv | refine' gSuppv | refine' gScapv | refine' gE | (apply DrawA.quiet (by kernel_rfl) (by kernel_rfl); (conv => whnf); fail_if_success (show False))) <;> (conv => whnf))
    · (refine' RetK.auto (.p (pI c)) ([some (.cells [.p (.list nl (l.map Ck.pv))]), some (.cells [.p (.list np (q.map Sup.pv))])]) rfl rfl rfl rfl _ _ _ <;> repeat' (first | exact trivial | refine And.intro ?_ ?_ | with_reducible rfl | (refine pIEq ?_; exact ar_) | (refine bufMap ?_) | (refine bufNil ?_) | (refine bufEq ?_) | rfl))
      exact ⟨_, rfl, rfl, fun _ => ⟨_, List.getElem_mem hlt, hb.1 (by assumption)⟩, fun _ => by omega⟩
    · (refine' ⟨c + 1, _, _, _⟩; rotate_right; (refine SubA.auto rfl rfl rfl rfl ?_ ?_ <;> repeat' (first | exact trivial | refine And.intro ?_ ?_ | with_reducible rfl | (refine pIEq ?_; exact ar_) | (refine bufMap ?_) | (refine bufNil ?_) | (refine bufEq ?_) | rfl)); rotate_right; exact ar2_)
      refine ⟨by omega, fun k hk hkc => ?_⟩
      rcases Nat.lt_or_ge k c with h3 | h3
      · exact hok k hk h3
      · obtain rfl : k = c := by omega
        exact fun h => by have hbf : b = false := (by assumption); rw [hb.2 h] at hbf; cases hbf
  · (conv => whnf); repeat' ((first | apply CondA.plain | refine' gC | refine' gpI | refine' gpB | refine' gCkpv | refine' gSuppv | refine' gScapv | refine' gE | (apply DrawA.quiet (by kernel_rfl) (by kernel_rfl); (conv => whnf); fail_if_success (show False))) <;> (conv => whnf))
    (refine' RetK.auto (.p (pI (-1))) ([some (.cells [.p (.list nl (l.map Ck.pv))]), some (.cells [.p (.list np (q.map Sup.pv))])]) rfl rfl rfl rfl _ _ _ <;> repeat' (first | exact trivial | refine And.intro ?_ ?_ | with_reducible rfl | (refine pIEq ?_; exact ar_) | (refine bufMap ?_) | (refine bufNil ?_) | (refine bufEq ?_) | rfl))
    refine ⟨_, rfl, rfl, fun h => (by omega), fun ⟨x, hx, h⟩ => ?_⟩
    obtain ⟨k, hk, rfl⟩ := List.getElem_of_mem hx
    exact absurd h (hok k hk (by omega))
theorem badsca_contains (nl np : Bool) (l : List Ck) (q : List Sup) (h16 : l.length ≤ 16) (hq : q.length ≤ 16) (nq : Bool) (xs : List Sca)  : ACall Tryz.prog 71 [.p (.list nq (xs.map Sca.pv)), .clo (.func 72) [.ptr 0 0, .ptr 1 0]] [some (.cells [.p (.list nl (l.map Ck.pv))]), some (.cells [.p (.list np (q.map Sup.pv))])] fun r' H' => ∃ b : Bool, r' = .p (pB b) ∧ H' = [some (.cells [.p (.list nl (l.map Ck.pv))]), some (.cells [.p (.list np (q.map Sup.pv))])] ∧ (b = true ↔ ∃ x ∈ xs, ¬ ScV l.length q.length x) := by
  refine acall_enter Tryz.func71 rfl rfl tabOK rfl ?_
  (conv => whnf); repeat' ((first | apply CondA.plain | refine' gC | refine' gpI | refine' gpB | refine' gCkpv | refine' gSuppv | refine' gScapv | refine' gE | (apply DrawA.quiet (by kernel_rfl) (by kernel_rfl); (conv => whnf); fail_if_success (show False))) <;> (conv => whnf))
  refine CallA.all ((badsca_index nl np l q h16 hq nq xs ).mono ?_)
  rintro r' H' ⟨v, rfl, rfl, hv⟩
  (conv => whnf); repeat' ((first | apply CondA.plain | refine' gC | refine' gpI | refine' gpB | refine' gCkpv | refine' gSuppv | refine' gScapv | refine' gE | (apply DrawA.quiet (by kernel_rfl) (by kernel_rfl); (conv => whnf); fail_if_success (show False))) <;> (conv => whnf))
  (refine' RetK.auto (.p (pB _)) ([some (.cells [.p (.list nl (l.map Ck.pv))]), some (.cells [.p (.list np (q.map Sup.pv))])]) rfl rfl rfl rfl _ _ _ <;> repeat' (first | exact trivial | refine And.intro ?_ ?_ | with_reducible rfl | (refine pIEq ?_; exact ar_) | (refine bufMap ?_) | (refine bufNil ?_) | (refine bufEq ?_) | rfl))
  exact ⟨_, rfl, rfl, by rw [decide_eq_true_eq]; exact hv⟩

open Go.Abs
set_option maxRecDepth 100000
theorem Valid_call (nl np nc : Bool) (l : List Ck) (q : List Sup) (cs : List Sca) (hl : CkOK l) (hq : AllS q) (h32 : cs.length ≤ 32) : ACall Tryz.prog 32 [.p (.list nl (l.map Ck.pv)), .p (.list np (q.map Sup.pv)), .p (.list nc (cs.map Sca.pv))] [] fun r H => ∃ b : Bool, r = .p (pB b) ∧ H = [] ∧ (b = true ↔ ∀ x ∈ cs, ScV l.length q.length x) := by
  refine acall_enter Tryz.func32 rfl rfl tabOK rfl ?_
  (conv => whnf); repeat' ((first | apply CondA.plain | refine' gC | refine' gpI | refine' gpB | refine' gCkpv | refine' gSuppv | refine' gScapv | refine' gE | (apply DrawA.quiet (by kernel_rfl) (by kernel_rfl); (conv => whnf); fail_if_success (show False)) | ((refine call_exI (Check_call nl l) ?_; intro e he)) | ((refine call_exI (sCheck_call np q) ?_; intro e2 he2))) <;> (conv => whnf))
  · exact absurd (he.2 hl) h0
  · exact absurd (he2.2 hq) h0
  refine CallA.loc [0, 1] [] rfl rfl ((badsca_contains nl np l q hl.1 hq.1 nc cs).mono ?_)
  rintro _ _ ⟨b, rfl, rfl, hb⟩
  (conv => whnf); repeat' ((first | apply CondA.plain | refine' gC | refine' gpI | refine' gpB | refine' gCkpv | refine' gSuppv | refine' gScapv | refine' gE | (apply DrawA.quiet (by kernel_rfl) (by kernel_rfl); (conv => whnf); fail_if_success (show False))) <;> (conv => whnf))
  (refine RetK.p ?_ <;> repeat' (first | exact trivial | refine And.intro ?_ ?_ | with_reducible rfl | (refine pIEq ?_; exact ar_) | (refine bufMap ?_) | (refine bufNil ?_) | (refine bufEq ?_) | rfl); all_goals try first | refine pBEq ?_ | refine pIEq ?_)
  refine ⟨_, rfl, rfl, ?_⟩
  show (!b) = true ↔ _
  rw [Bool.not_eq_true', Bool.eq_false_iff, ne_eq, hb]
  constructor
  · intro h x hx
    by_cases hx2 : ScV l.length q.length x
    · exact hx2
    · exact absurd ⟨x, hx, hx2⟩ h
  · rintro h ⟨x, hx, hn⟩
    exact hn (h x hx)
open Go.Abs
set_option maxRecDepth 100000
/-- The voltage of the first point that allows a rate. -/
def volF (pts : List Pt) (r : Int × Int) : Option Int := if rV r.1 r.2 = true then (pts.find? fun p => withinR r.1 r.2 0 p.rate).map (·.mv) else none
def needF (pts : List Pt) (r : Int × Int) : Option Int := if r.1 = 0 then some 0 else volF pts r
theorem find_at {α : Type} {xs : List α} {p : α → Bool} {c : Nat} (h : c < xs.length) (hb : ∀ (i : Nat) (h : i < xs.length), i < c → p xs[i] = false) (hc : p xs[c] = true) : xs.find? p = some xs[c] := by
  rw [List.find?_eq_some_iff_getElem]
  exact ⟨hc, c, h, rfl, fun j hj => by simp [hb j (by omega) hj]⟩
theorem find_no {α : Type} {xs : List α} {p : α → Bool} (hb : ∀ (i : Nat) (h : i < xs.length), p xs[i] = false) : xs.find? p = none := by
  rw [List.find?_eq_none]
  intro x hx
  obtain ⟨i, hi, rfl⟩ := List.getElem_of_mem hx
  simp [hb i hi]
theorem Voltage_call (x : Sca) (r : Int × Int) (hx : PtsOK x.pts) : ACall Tryz.prog 81 [.p x.pv, .p (pR r)] [] fun r' H => r' = .tup [.p (pI ((volF x.pts r).getD 0)), .p (pB (volF x.pts r).isSome)] ∧ H = [] := by
  refine acall_enter Tryz.func81 rfl rfl tabOK rfl ?_
  (conv => whnf); repeat' ((first | apply CondA.plain | refine' gC | refine' gpI | refine' gpB | refine' gPtpv | refine' gE | (apply DrawA.quiet (by kernel_rfl) (by kernel_rfl); (conv => whnf); fail_if_success (show False)) | ((refine call_exB (points_call x.pn x.pts) ?_; intro b hb)) | (refine CallA.scalar (cV_call _ _) ?_)) <;> (conv => whnf))
  · rw [hb.2 hx] at h0
    cases h0
  · have e : volF x.pts r = none := if_neg (by rw [h0]; exact Bool.false_ne_true)
    rw [e]
    (refine' RetK.auto (.tup [.p (pI 0), .p (pB false)]) ([]) rfl rfl rfl rfl _ _ _ <;> repeat' (first | exact trivial | refine And.intro ?_ ?_ | with_reducible rfl | (refine pIEq ?_; exact ar_) | (refine bufMap ?_) | (refine bufNil ?_) | (refine bufEq ?_) | rfl))
  have hV := h0
  have e : volF x.pts r = (x.pts.find? fun p => withinR r.1 r.2 0 p.rate).map (·.mv) := if_pos hV
  rw [e]
  refine loop_rule (fun (c : Nat) => ⟨[(3, .ptr 0 0), (18, .p (.list x.pn (x.pts.map Pt.pv))), (19, .p (pI x.pts.length)), (20, .p (pI c))], [some (.cells [.p (pI r.1), .p (pI r.2)])]⟩) (fun (c : Nat) => c ≤ x.pts.length ∧ ∀ (i : Nat) (h : i < x.pts.length), i < c → (fun p : Pt => withinR r.1 r.2 0 p.rate) x.pts[i] = false) (fun (c : Nat) => x.pts.length - c) 0 ?_ ?_ ?_; (refine SubA.auto rfl rfl rfl rfl ?_ ?_ <;> repeat' (first | exact trivial | refine And.intro ?_ ?_ | with_reducible rfl | (refine pIEq ?_; exact ar_) | (refine bufMap ?_) | (refine bufNil ?_) | (refine bufEq ?_) | rfl))
  · exact ⟨by omega, by omega⟩
  rintro c ⟨hc, hok⟩
  rcases Nat.lt_or_ge c x.pts.length with hlt | hge
  · (conv => whnf); repeat' ((first | apply CondA.plain | refine' gC | refine' gpI | refine' gpB | refine' gPtpv | refine' gE | (apply DrawA.quiet (by kernel_rfl) (by kernel_rfl); (conv => whnf); fail_if_success (show False)) | (refine CallA.scalar (cWithin_call _ _ _ _) ?_)) <;> (conv => whnf))
    · have ef := find_at (p := fun p : Pt => withinR r.1 r.2 0 p.rate) hlt hok h0
      rw [ef]
      (refine' RetK.auto (.tup [.p (pI x.pts[c].mv), .p (pB true)]) ([]) rfl rfl rfl rfl _ _ _ <;> repeat' (first | exact trivial | refine And.intro ?_ ?_ | with_reducible rfl | (refine pIEq ?_; exact ar_) | (refine bufMap ?_) | (refine bufNil ?_) | (refine bufEq ?_) | rfl))
    · (refine' ⟨c + 1, _, _, _⟩; rotate_right; (refine SubA.auto rfl rfl rfl rfl ?_ ?_ <;> repeat' (first | exact trivial | refine And.intro ?_ ?_ | with_reducible rfl | (refine pIEq ?_; exact ar_) | (refine bufMap ?_) | (refine bufNil ?_) | (refine bufEq ?_) | rfl)); rotate_right; exact ar2_)
      refine ⟨by omega, fun i h hic => ?_⟩
      rcases Nat.lt_or_ge i c with h1 | h1
      · exact hok i h h1
      · obtain rfl : i = c := by omega
        exact h0
  · have ef := find_no (xs := x.pts) (p := fun p : Pt => withinR r.1 r.2 0 p.rate) fun i h => hok i h (by omega)
    rw [ef]
    (conv => whnf); repeat' ((first | apply CondA.plain | refine' gC | refine' gpI | refine' gpB | refine' gPtpv | refine' gE | (apply DrawA.quiet (by kernel_rfl) (by kernel_rfl); (conv => whnf); fail_if_success (show False))) <;> (conv => whnf))
    (refine' RetK.auto (.tup [.p (pI 0), .p (pB false)]) ([]) rfl rfl rfl rfl _ _ _ <;> repeat' (first | exact trivial | refine And.intro ?_ ?_ | with_reducible rfl | (refine pIEq ?_; exact ar_) | (refine bufMap ?_) | (refine bufNil ?_) | (refine bufEq ?_) | rfl))
theorem needed_call (x : Sca) (r : Int × Int) (hx : PtsOK x.pts) : ACall Tryz.prog 38 [.p x.pv, .p (pR r)] [] fun r' H => r' = .tup [.p (pI ((needF x.pts r).getD 0)), .p (pB (needF x.pts r).isSome)] ∧ H = [] := by
  refine acall_enter Tryz.func38 rfl rfl tabOK rfl ?_
  (conv => whnf); repeat' ((first | apply CondA.plain | refine' gC | refine' gpI | refine' gpB | refine' gPtpv | refine' gE | (apply DrawA.quiet (by kernel_rfl) (by kernel_rfl); (conv => whnf); fail_if_success (show False)) | (refine CallA.scalar2 (Voltage_call x r hx) ?_)) <;> (conv => whnf))
  · have e : needF x.pts r = some 0 := if_pos h0
    rw [e]
    (refine' RetK.auto (.tup [.p (pI 0), .p (pB true)]) ([]) rfl rfl rfl rfl _ _ _ <;> repeat' (first | exact trivial | refine And.intro ?_ ?_ | with_reducible rfl | (refine pIEq ?_; exact ar_) | (refine bufMap ?_) | (refine bufNil ?_) | (refine bufEq ?_) | rfl))
  · have e : needF x.pts r = volF x.pts r := if_neg h0
    rw [e]
    (refine' RetK.auto (.tup [.p (pI ((volF x.pts r).getD 0)), .p (pB (volF x.pts r).isSome)]) ([]) rfl rfl rfl rfl _ _ _ <;> repeat' (first | exact trivial | refine And.intro ?_ ?_ | with_reducible rfl | (refine pIEq ?_; exact ar_) | (refine bufMap ?_) | (refine bufNil ?_) | (refine bufEq ?_) | rfl))
open Go.Abs
set_option maxRecDepth 100000
def sI (p : Bool × List Int) : PV := .list p.1 (p.2.map pI)
theorem gsI {P : Prop} (h : P := by
  (first | ((first | apply AppA.snoc (f := sI) (a := _) rfl | apply AppA.one (f := sI) (a := _) rfl | (apply AppA.snoc (f := sI) (a := ⟨_, _⟩); dsimp only [sI]; exact rfl) | (apply AppA.one (f := sI) (a := ⟨_, _⟩); dsimp only [sI]; exact rfl)); exact ar_) | apply IsL.set (f := sI) (a := _) rfl | apply IsL.rep (f := sI) (a := _) rfl | (apply IsL.set (f := sI) (a := ⟨_, _⟩); dsimp only [sI]; exact rfl) | (apply IsL.rep (f := sI) (a := ⟨_, _⟩); dsimp only [sI]; exact rfl) | apply IsL.lit (f := sI) [] rfl | apply IsL.lit (f := sI) [_] rfl | apply IsL.lit (f := sI) [_, _] rfl | apply IsL.lit (f := sI) [_, _, _] rfl | apply IsL.lit (f := sI) [] rfl | apply IsL.lit (f := sI) [⟨_, _⟩] rfl | apply IsL.lit (f := sI) [⟨_, _⟩, ⟨_, _⟩] rfl | apply IsL.lit (f := sI) [⟨_, _⟩, ⟨_, _⟩, ⟨_, _⟩] rfl) <;> (solve_by_elim (newGoals := .nonDependentOnly) (symm := false) (exfalso := false) (transparency := .reducible) only [rfl, park_])) : P := h
theorem badset_call (nl : Bool) (l : List Ck) (p : Bool × List Int) : ACall Tryz.prog 35 [.p (sI p), .ptr 0 0] [some (.cells [.p (.list nl (l.map Ck.pv))])] fun r H => ∃ b : Bool, r = .p (pB b) ∧ H = [some (.cells [.p (.list nl (l.map Ck.pv))])] ∧ (b = true ↔ ¬ (CkOK l ∧ SetOK l p.2)) := by
  refine acall_enter Tryz.func35 rfl rfl tabOK rfl ?_
  (conv => whnf); repeat' ((first | apply CondA.plain | refine' gC | refine' gpI | refine' gpB | refine' gCkpv | refine' gsI | refine' gE | (apply DrawA.quiet (by kernel_rfl) (by kernel_rfl); (conv => whnf); fail_if_success (show False)) | ((refine call_exB (cSetting_call nl p.1 l p.2) ?_; intro b hb))) <;> (conv => whnf))
  (refine' RetK.auto (.p (pB (!b))) ([some (.cells [.p (.list nl (l.map Ck.pv))])]) rfl rfl rfl rfl _ _ _ <;> repeat' (first | exact trivial | refine And.intro ?_ ?_ | with_reducible rfl | (refine pIEq ?_; exact ar_) | (refine bufMap ?_) | (refine bufNil ?_) | (refine bufEq ?_) | rfl))
  refine ⟨_, rfl, rfl, ?_⟩
  rw [Bool.not_eq_true', Bool.eq_false_iff, ne_eq, hb]
theorem badset_index (nl : Bool) (l : List Ck) (nq : Bool) (xs : List (Bool × List Int))  : ACall Tryz.prog 78 [.p (.list nq (xs.map sI)), .clo (.func 35) [.ptr 0 0]] [some (.cells [.p (.list nl (l.map Ck.pv))])] fun r' H' => ∃ v : Int, r' = .p (pI v) ∧ H' = [some (.cells [.p (.list nl (l.map Ck.pv))])] ∧ (0 ≤ v ↔ ∃ x ∈ xs, ¬ (CkOK l ∧ SetOK l x.2)) := by
  refine acall_enter Tryz.func78 rfl rfl tabOK rfl ?_
  (conv => whnf); repeat' ((first | apply CondA.plain | refine' gC | refine' gpI | refine' gpB | refine' gCkpv | refine' gsI | refine' gE | (apply DrawA.quiet (by kernel_rfl) (by kernel_rfl); (conv => whnf); fail_if_success (show False))) <;> (conv => whnf))
  refine loop_rule (fun (c : Nat) => ⟨[(0, .p (.list nq (xs.map sI))), (1, .clo (.func 35) [.ptr 0 0]), (7, .p (pI xs.length)), (8, .p (pI c))], [some (.cells [.p (.list nl (l.map Ck.pv))])]⟩) (fun (c : Nat) => c ≤ xs.length ∧ ∀ (k : Nat) (h : k < xs.length), k < c → ¬ (fun x => ¬ (CkOK l ∧ SetOK l x.2)) xs[k]) (fun (c : Nat) => xs.length - c) 0 ?_ ?_ ?_; (refine SubA.auto rfl rfl rfl rfl ?_ ?_ <;> repeat' (first | exact trivial | refine And.intro ?_ ?_ | with_reducible rfl | (refine pIEq ?_; exact ar_) | (refine bufMap ?_) | (refine bufNil ?_) | (refine bufEq ?_) | rfl))
  · exact ⟨by omega, by omega⟩
  rintro c ⟨hc, hok⟩
  rcases Nat.lt_or_ge c xs.length with hlt | hge
  · (conv => whnf); repeat' ((first | apply CondA.plain | refine' gC | refine' gpI | refine' gpB | refine' gCkpv | refine' gsI | refine' gE | (apply DrawA.quiet (by kernel_rfl) (by kernel_rfl); (conv => whnf); fail_if_success (show False))) <;> (conv => whnf))
    refine CallA.loc [0] [] rfl rfl ((badset_call nl l xs[c]).mono ?_)
    rintro r' H' ⟨b, rfl, rfl, hb⟩
    (conv => whnf); repeat' ((first | apply CondA.plain | refine' gC | refine' gpI | refine' gpB | refine' gCkpv | refine' gsI | refine' gE | (apply DrawA.quiet (by kernel_rfl) (by kernel_rfl); (conv => whnf); fail_if_success (show False))) <;> (conv => whnf))
    · (refine' RetK.auto (.p (pI c)) ([some (.cells [.p (.list nl (l.map Ck.pv))])]) rfl rfl rfl rfl _ _ _ <;> repeat' (first | exact trivial | refine And.intro ?_ ?_ | with_reducible rfl | (refine pIEq ?_; exact ar_) | (refine bufMap ?_) | (refine bufNil ?_) | (refine bufEq ?_) | rfl))
      exact ⟨_, rfl, rfl, fun _ => ⟨_, List.getElem_mem hlt, hb.1 (by assumption)⟩, fun _ => by omega⟩
    · (refine' ⟨c + 1, _, _, _⟩; rotate_right; (refine SubA.auto rfl rfl rfl rfl ?_ ?_ <;> repeat' (first | exact trivial | refine And.intro ?_ ?_ | with_reducible rfl | (refine pIEq ?_; exact ar_) | (refine bufMap ?_) | (refine bufNil ?_) | (refine bufEq ?_) | rfl)); rotate_right; exact ar2_)
      refine ⟨by omega, fun k hk hkc => ?_⟩
      rcases Nat.lt_or_ge k c with h3 | h3
      · exact hok k hk h3
      · obtain rfl : k = c := by omega
        exact fun h => by have hbf : b = false := (by assumption); rw [hb.2 h] at hbf; cases hbf
  · (conv => whnf); repeat' ((first | apply CondA.plain | refine' gC | refine' gpI | refine' gpB | refine' gCkpv | refine' gsI | refine' gE | (apply DrawA.quiet (by kernel_rfl) (by kernel_rfl); (conv => whnf); fail_if_success (show False))) <;> (conv => whnf))
    (refine' RetK.auto (.p (pI (-1))) ([some (.cells [.p (.list nl (l.map Ck.pv))])]) rfl rfl rfl rfl _ _ _ <;> repeat' (first | exact trivial | refine And.intro ?_ ?_ | with_reducible rfl | (refine pIEq ?_; exact ar_) | (refine bufMap ?_) | (refine bufNil ?_) | (refine bufEq ?_) | rfl))
    refine ⟨_, rfl, rfl, fun h => (by omega), fun ⟨x, hx, h⟩ => ?_⟩
    obtain ⟨k, hk, rfl⟩ := List.getElem_of_mem hx
    exact absurd h (hok k hk (by omega))
theorem badset_contains (nl : Bool) (l : List Ck) (nq : Bool) (xs : List (Bool × List Int))  : ACall Tryz.prog 34 [.p (.list nq (xs.map sI)), .clo (.func 35) [.ptr 0 0]] [some (.cells [.p (.list nl (l.map Ck.pv))])] fun r' H' => ∃ b : Bool, r' = .p (pB b) ∧ H' = [some (.cells [.p (.list nl (l.map Ck.pv))])] ∧ (b = true ↔ ∃ x ∈ xs, ¬ (CkOK l ∧ SetOK l x.2)) := by
  refine acall_enter Tryz.func34 rfl rfl tabOK rfl ?_
  (conv => whnf); repeat' ((first | apply CondA.plain | refine' gC | refine' gpI | refine' gpB | refine' gCkpv | refine' gsI | refine' gE | (apply DrawA.quiet (by kernel_rfl) (by kernel_rfl); (conv => whnf); fail_if_success (show False))) <;> (conv => whnf))
  refine CallA.all ((badset_index nl l nq xs ).mono ?_)
  rintro r' H' ⟨v, rfl, rfl, hv⟩
  (conv => whnf); repeat' ((first | apply CondA.plain | refine' gC | refine' gpI | refine' gpB | refine' gCkpv | refine' gsI | refine' gE | (apply DrawA.quiet (by kernel_rfl) (by kernel_rfl); (conv => whnf); fail_if_success (show False))) <;> (conv => whnf))
  (refine' RetK.auto (.p (pB _)) ([some (.cells [.p (.list nl (l.map Ck.pv))])]) rfl rfl rfl rfl _ _ _ <;> repeat' (first | exact trivial | refine And.intro ?_ ?_ | with_reducible rfl | (refine pIEq ?_; exact ar_) | (refine bufMap ?_) | (refine bufNil ?_) | (refine bufEq ?_) | rfl))
  exact ⟨_, rfl, rfl, by rw [decide_eq_true_eq]; exact hv⟩

open Go.Abs
set_option maxRecDepth 100000
/-- Clocks, supplies, draws and consumers. -/
structure Bo where
  n0 : Bool
  l : List Ck
  n1 : Bool
  q : List Sup
  n3 : Bool
  d : List Dr
  n4 : Bool
  cs : List Sca
def Bo.pv (b : Bo) : PV := .agg [.list b.n0 (b.l.map Ck.pv), .list b.n1 (b.q.map Sup.pv), .list true [], .list b.n3 (b.d.map Dr.pv), .list b.n4 (b.cs.map Sca.pv)]
structure BoOK (b : Bo) : Prop where
  l : CkOK b.l
  q : AllS b.q
  d : AllD b.q.length b.d
  n : b.cs.length ≤ 32
  cs : ∀ x ∈ b.cs, ScV b.l.length b.q.length x
theorem bvalid_call (b : Bo) (n2 : Bool) (s : List Int) (r : Rq) (hb : BoOK b) (hs : SetOK b.l s) (hr : RlV b.q r.r) : ACall Tryz.prog 44 [.p b.pv, .p (.list n2 (s.map pI)), .p r.pv] [] fun r' H => r' = .p (pB true) ∧ H = [] := by
  refine acall_enter Tryz.func44 rfl rfl tabOK rfl ?_
  have hlim : LimOK b.l [] := ⟨hb.l, by simp, by simp⟩
  (conv => whnf); repeat' ((first | apply CondA.plain | refine' gC | refine' gpI | refine' gpB | refine' gCkpv | refine' gSuppv | refine' gScapv | refine' gE | (apply DrawA.quiet (by kernel_rfl) (by kernel_rfl); (conv => whnf); fail_if_success (show False)) | ((refine call_exB (Valid_call b.n0 b.n1 b.n4 b.l b.q b.cs hb.l hb.q hb.n) ?_; intro b1 hb1)) | ((refine call_exB (cLimits_call b.n0 true b.l []) ?_; intro b2 hb2)) | ((refine call_exB (sDraws_call b.n1 b.n3 b.q b.d) ?_; intro b3 hb3)) | ((refine call_exB (cSetting_call b.n0 n2 b.l s) ?_; intro b4 hb4)) | ((refine call_exB (sRails_call b.n1 r.n1 r.n3 b.q r.r) ?_; intro b5 hb5))) <;> (conv => whnf))
  · have := hb5.2 ⟨hb.q, hr⟩
    subst this
    (refine RetK.p ?_ <;> repeat' (first | exact trivial | refine And.intro ?_ ?_ | with_reducible rfl | (refine pIEq ?_; exact ar_) | (refine bufMap ?_) | (refine bufNil ?_) | (refine bufEq ?_) | rfl); all_goals try first | refine pBEq ?_ | refine pIEq ?_)
  · rw [hb4.2 ⟨hb.l, hs⟩] at h0
    cases h0
  · rw [hb3.2 ⟨hb.q, hb.d⟩] at h0
    cases h0
  · rw [hb2.2 hlim] at h0
    cases h0
  · rw [hb1.2 hb.cs] at h0
    cases h0
open Go.Abs
set_option maxRecDepth 100000
/-- The rate of a clock. -/
def rtA (l : List Ck) (s : List Int) (k : Int) : Int × Int := (rts l s).getD k.toNat (0, 0)
/-- A consumer has what it needs. -/
def SndC (b : Bo) (s : List Int) (r : Rl) (x : Sca) : Prop := ∃ v, needF x.pts (rtA b.l s x.clk) = some v ∧ (0 < v → onA r x.sup.toNat = true ∧ v ≤ vt b.q x.sup.toNat (lvA r x.sup.toNat))
def Snd (b : Bo) (s : List Int) (r : Rl) : Prop := OwnOK b.l s ∧ Meet b.q r b.d ∧ ∀ x ∈ b.cs, SndC b s r x
/-- Draws, and what consumers need for settings. -/
structure RaiseR (b : Bo) (ss : List (List Int)) (out : List Dr) : Prop where
  ok : AllD b.q.length out
  ex : ∃ ex, out = b.d ++ ex ∧ ∀ s ∈ ss, ∀ x ∈ b.cs, ∃ v, needF x.pts (rtA b.l s x.clk) = some v ∧ (0 < v → ∃ y ∈ ex, y.sup = x.sup ∧ v ≤ y.lo)
theorem RaiseR.less {b : Bo} {ss : List (List Int)} {out : List Dr} {r : Rl} (h : RaiseR b ss out) (hm : Meet b.q r out) : Meet b.q r b.d := by
  obtain ⟨ex, rfl, _⟩ := h.ex
  exact hm.less
theorem RaiseR.snd {b : Bo} {ss : List (List Int)} {out : List Dr} {r : Rl} (hq : AllS b.q) (h : RaiseR b ss out) (hm : Meet b.q r out) {s : List Int} (hs : s ∈ ss) {x : Sca} (hx : x ∈ b.cs) : SndC b s r x := by
  obtain ⟨ex, rfl, he⟩ := h.ex
  obtain ⟨v, hv, h0⟩ := he s hs x hx
  refine ⟨v, hv, fun hp => ?_⟩
  obtain ⟨y, hy, e1, e2⟩ := h0 hp
  have hyo : y ∈ b.d ++ ex := List.mem_append_right _ hy
  have hu : Usd b.q (b.d ++ ex) y.sup.toNat := .draw y hyo
  have hi := usd_lt hq h.ok hu
  rw [← e1]
  exact ⟨hm.use _ hi hu, Int.le_trans e2 (hm.draw y hyo).1⟩
/-- What is on stays on, no lower than in one of two rails that have what is needed. -/
theorem SndC.between {b : Bo} (hq : AllS b.q) {s : List Int} {ra rb r : Rl} {x : Sca} (hx : ScV b.l.length b.q.length x) (ha : RlV b.q ra) (hb : RlV b.q rb) (h1 : SndC b s ra x) (h2 : SndC b s rb x) (h : Between b.q ra rb r) : SndC b s r x := by
  obtain ⟨v, hv, g1⟩ := h1
  obtain ⟨v', hv', g2⟩ := h2
  rw [hv] at hv'
  injection hv' with hv'
  subst hv'
  refine ⟨v, hv, fun h0 => ?_⟩
  have hi : x.sup.toNat < b.q.length := by have := hx.2.1; omega
  obtain ⟨a1, a2⟩ := g1 h0
  obtain ⟨b1, b2⟩ := g2 h0
  refine ⟨h.on _ hi a1 b1, ?_⟩
  have hr := h.rv.at_ hi
  rcases h.lo _ hi a1 b1 with h3 | h3
  · exact Int.le_trans a2 (vt_mono hq hi (ha.at_ hi).1 h3 hr.2)
  · exact Int.le_trans b2 (vt_mono hq hi (hb.at_ hi).1 h3 hr.2)
theorem SndC.joinL {b : Bo} (hq : AllS b.q) {s : List Int} {ra rb : Rl} {x : Sca} (hx : ScV b.l.length b.q.length x) (ha : RlV b.q ra) (hb : RlV b.q rb) (h1 : SndC b s ra x) : SndC b s (joinR ra rb) x := by
  obtain ⟨v, hv, g1⟩ := h1
  refine ⟨v, hv, fun h0 => ?_⟩
  have hi : x.sup.toNat < b.q.length := by have := hx.2.1; omega
  obtain ⟨a1, a2⟩ := g1 h0
  have ra1 := ha.at_ hi
  have rb1 := hb.at_ hi
  rw [on_join (by rw [hb.1]; exact hi), lv_join (by rw [hb.2.1]; exact hi), a1]
  refine ⟨rfl, ?_⟩
  simp only [if_true]
  split
  · exact Int.le_trans a2 (vt_mono hq hi ra1.1 (Int.le_max_left _ _) (by omega))
  · exact a2
theorem SndC.joinRt {b : Bo} (hq : AllS b.q) {s : List Int} {ra rb : Rl} {x : Sca} (hx : ScV b.l.length b.q.length x) (ha : RlV b.q ra) (hb : RlV b.q rb) (h1 : SndC b s rb x) : SndC b s (joinR ra rb) x := by
  obtain ⟨v, hv, g1⟩ := h1
  refine ⟨v, hv, fun h0 => ?_⟩
  have hi : x.sup.toNat < b.q.length := by have := hx.2.1; omega
  obtain ⟨b1, b2⟩ := g1 h0
  have ra1 := ha.at_ hi
  have rb1 := hb.at_ hi
  rw [on_join (by rw [hb.1]; exact hi), lv_join (by rw [hb.2.1]; exact hi), b1]
  refine ⟨by simp, ?_⟩
  split
  · simp only [if_true]
    exact Int.le_trans b2 (vt_mono hq hi rb1.1 (Int.le_max_right _ _) (by omega))
  · exact b2
/-- One write to a board. -/
def stepP (p : List Int × Rl) (w : Wr) : List Int × Rl := if w.kind = 1 then (applyC p.1 w, p.2) else (p.1, applyR p.2 w)
def WV (b : Bo) (w : Wr) : Prop := CwV b.l w ∨ WrV b.q w
def SndP (b : Bo) (p : List Int × Rl) : Prop := SetOK b.l p.1 ∧ RlV b.q p.2 ∧ Snd b p.1 p.2
theorem step_c {b : Bo} {p : List Int × Rl} {w : Wr} (h : CwV b.l w) : stepP p w = (applyC p.1 w, p.2) := if_pos h.1
theorem step_r {b : Bo} {p : List Int × Rl} {w : Wr} (h : WrV b.q w) : stepP p w = (p.1, applyR p.2 w) := if_neg (by rcases h.2 with h | h <;> omega)
theorem plan_sound {b : Bo} (hb : BoOK b) {s t : List Int} {ra rb least top : Rl} {ws up dn : List Wr} {raised : List Dr} {ss : List (List Int)}
    (hs : SetOK b.l s) (h1 : Snd b s ra) (h2 : Snd b t rb) (hw : Way applyC (CwV b.l) (OwnOK b.l) s ws) (hwe : ws.foldl applyC s = t) (hr : RaiseR b ss raised) (hss : ∀ k, k ≤ ws.length → (ws.take k).foldl applyC s ∈ ss)
    (hm : Meet b.q least raised) (ht : top = joinR ra (joinR least rb)) (hup : RWay b.q b.d ra top up) (hupe : up.foldl applyR ra = top) (hdn : RWay b.q b.d top rb dn) (hdne : dn.foldl applyR top = rb) :
    Way stepP (WV b) (SndP b) (s, ra) (up ++ (ws ++ dn)) := by
  have hq := hb.q
  have ha := h1.2.1.rv
  have hbr := h2.2.1.rv
  have hle := hm.rv
  have hj := rv_join hle hbr
  have htv : RlV b.q top := by rw [ht]; exact rv_join ha hj
  have hst : SetOK b.l t := by rw [← hwe]; exact way_set ws hs hw.1
  have htm : Meet b.q top b.d := by rw [ht]; exact Meet.join hq h1.2.1 (Meet.join hq (hr.less hm) h2.2.1)
  have w1 := Way.map (ap' := stepP) (F := SndP b) (f := fun r => (s, r)) hup (fun r w hv => (step_r (p := (s, r)) hv).symm) fun r hg => ⟨hs, hg.1.rv, h1.1, hg.1, fun x hx => SndC.between hq (hb.cs x hx) ha htv (h1.2.2 x hx) (by rw [ht]; exact SndC.joinL hq (hb.cs x hx) ha hj (h1.2.2 x hx)) hg.2⟩
  rw [hupe] at w1
  have w2 : Way applyC (CwV b.l) (fun s' => SetOK b.l s' ∧ OwnOK b.l s' ∧ s' ∈ ss) s ws := ⟨hw.1, fun k hk => ⟨way_set _ hs fun w hwm => hw.1 w (List.mem_of_mem_take hwm), hw.2 k hk, hss k hk⟩⟩
  have w3 := Way.map (ap' := stepP) (F := SndP b) (f := fun s' => (s', top)) w2 (fun r w hv => (step_c (p := (r, top)) hv).symm) fun s' hg => ⟨hg.1, htv, hg.2.1, htm, fun x hx => by
    rw [ht]
    exact SndC.joinRt hq (hb.cs x hx) ha hj (SndC.joinL hq (hb.cs x hx) hle hbr (hr.snd hq hm hg.2.2 hx))⟩
  rw [hwe] at w3
  have w4 := Way.map (ap' := stepP) (F := SndP b) (f := fun r => (t, r)) hdn (fun r w hv => (step_r (p := (t, r)) hv).symm) fun r hg => ⟨hst, hg.1.rv, h2.1, hg.1, fun x hx => SndC.between hq (hb.cs x hx) htv hbr (by rw [ht]; exact SndC.joinRt hq (hb.cs x hx) ha hj (SndC.joinRt hq (hb.cs x hx) hle hbr (h2.2.2 x hx))) (h2.2.2 x hx) hg.2⟩
  refine (w1.1.mono (fun w h => .inr h) fun _ h => h).app ?_
  rw [w1.2]
  refine (w3.1.mono (fun w h => .inl h) fun _ h => h).app ?_
  rw [w3.2]
  exact w4.1.mono (fun w h => .inr h) fun _ h => h
open Go.Abs
set_option maxRecDepth 100000
def snA : Sc := (.frz 0 (.take 2 (.frz 3 (.one 1 (.take 4 (.frz 5 (.one 6 (.take 7 (.take 8 (.take 9 (.take 10 (.take 11 .done))))))))))))
def snB : Sc := (.take 0 (.take 1 (.take 2 (.take 3 (.take 4 (.take 5 (.take 6 (.frz 7 (.take 8 (.frz 9 (.take 10 (.frz 11 (.take 12 (.take 13 (.take 14 (.frz 15 (.take 16 (.frz 17 (.take 18 (.take 19 (.frz 20 (.take 21 (.frz 22 (.take 23 (.frz 24 (.take 25 (.frz 26 (.take 27 (.frz 28 (.take 29 (.take 30 (.take 31 (.take 32 (.take 33 (.take 34 .done)))))))))))))))))))))))))))))))))))
theorem sndC_iff {b : Bo} {s : List Int} {r : Rl} {x : Sca} {v : Int} (h : needF x.pts (rtA b.l s x.clk) = some v) : SndC b s r x ↔ (0 < v → onA r x.sup.toNat = true ∧ v ≤ vt b.q x.sup.toNat (lvA r x.sup.toNat)) :=
  ⟨fun ⟨w, h1, h2⟩ => by rw [h] at h1; injection h1 with h1; subst h1; exact h2, fun h2 => ⟨v, h, h2⟩⟩
theorem sndC_none {b : Bo} {s : List Int} {r : Rl} {x : Sca} (h : needF x.pts (rtA b.l s x.clk) = none) : ¬ SndC b s r x := fun ⟨w, h1, _⟩ => by rw [h] at h1; cases h1
set_option maxHeartbeats 4000000 in
theorem badsnd_call (b : Bo) (s : List Int) (r : Rq) (nr : Bool) (hb : BoOK b) (hr : RlV b.q r.r) (x : Sca) (hx : ScV b.l.length b.q.length x) : ACall Tryz.prog 89 [.p x.pv, .ptr 0 0, .rptr [.list r.n1 (r.r.on.map pB), .list r.n3 (r.r.lev.map pI)], .rptr [.list b.n0 (b.l.map Ck.pv), .list b.n1 (b.q.map Sup.pv), .list true [], .list b.n3 (b.d.map Dr.pv), .list b.n4 (b.cs.map Sca.pv)]] [some (.cells [.p (.list nr ((rts b.l s).map pR))])] fun r' H => ∃ bb : Bool, r' = .p (pB bb) ∧ H = [some (.cells [.p (.list nr ((rts b.l s).map pR))])] ∧ (bb = true ↔ ¬ SndC b s r.r x) := by
  refine acall_enter Tryz.func89 rfl rfl tabOK rfl ?_
  have hrl := len_rts b.l s
  obtain ⟨hx1, hx2, hx3⟩ := hx
  have hck : x.clk.toNat < b.l.length := by omega
  have hsp : x.sup.toNat < b.q.length := by omega
  have h16 := hb.l.1
  have q16 := hb.q.1
  have ro := hr.1
  have rl := hr.2.1
  have hlv := hr.2.2 x.sup.toNat hsp (by omega)
  have hgr : rtA b.l s x.clk = (rts b.l s)[x.clk.toNat]'(by omega) := getD_at _
  have hon : onA r.r x.sup.toNat = r.r.on[x.sup.toNat]'(by omega) := getD_at _
  have hlva : lvA r.r x.sup.toNat = r.r.lev[x.sup.toNat]'(by omega) := getD_at _
  have hvt : vt b.q x.sup.toNat (lvA r.r x.sup.toNat) = (b.q[x.sup.toNat].lv)[(r.r.lev[x.sup.toNat]'(by omega)).toNat]'(by omega) := by
    unfold vt
    rw [getD_at hsp, hlva, getD_at]
  have hn := needed_call x ((rts b.l s)[x.clk.toNat]'(by omega)) hx3
  rcases hnf : needF x.pts (rtA b.l s x.clk) with _ | v
  · have hnf' := hnf
    rw [hgr] at hnf'
    rw [hnf'] at hn
    replace hn : ACall _ _ _ _ fun r' H => r' = .tup [.p (pI 0), .p (pB false)] ∧ H = [] := hn
    (conv => whnf); repeat' ((first | apply CondA.plain | refine' gC | refine' gpI | refine' gpB | refine' gCkpv | refine' gSuppv | refine' gScapv | refine' gpR | refine' gE | fail) <;> (conv => whnf))
    refine DrawA.retire 4 1 [pI x.clk, pI x.sup, .list x.pn (x.pts.map Pt.pv)] rfl rfl ?_
    (conv => whnf); repeat' ((first | apply CondA.plain | refine' gC | refine' gpI | refine' gpB | refine' gCkpv | refine' gSuppv | refine' gScapv | refine' gpR | refine' gE | (apply DrawA.orders snA (by kernel_rfl) (by kernel_rfl) (by decide +kernel)) | (apply DrawA.orders snB (by kernel_rfl) (by kernel_rfl) (by decide +kernel)) | (refine CallA.scalar2 hn ?_)) <;> (conv => whnf))
    (refine' RetK.auto (.p (pB true)) ([some (.cells [.p (.list nr ((rts b.l s).map pR))])]) rfl rfl rfl rfl _ _ _ <;> repeat' (first | exact trivial | refine And.intro ?_ ?_ | with_reducible rfl | (refine pIEq ?_; exact ar_) | (refine bufMap ?_) | (refine bufNil ?_) | (refine bufEq ?_) | rfl))
    exact ⟨_, rfl, rfl, fun _ => sndC_none hnf, fun _ => rfl⟩
  · have hnf' := hnf
    rw [hgr] at hnf'
    rw [hnf'] at hn
    replace hn : ACall _ _ _ _ fun r' H => r' = .tup [.p (pI v), .p (pB true)] ∧ H = [] := hn
    rw [sndC_iff hnf, hon, hvt]
    (conv => whnf); repeat' ((first | apply CondA.plain | refine' gC | refine' gpI | refine' gpB | refine' gCkpv | refine' gSuppv | refine' gScapv | refine' gpR | refine' gE | fail) <;> (conv => whnf))
    refine DrawA.retire 4 1 [pI x.clk, pI x.sup, .list x.pn (x.pts.map Pt.pv)] rfl rfl ?_
    (conv => whnf); repeat' ((first | apply CondA.plain | refine' gC | refine' gpI | refine' gpB | refine' gCkpv | refine' gSuppv | refine' gScapv | refine' gpR | refine' gE | (apply DrawA.orders snA (by kernel_rfl) (by kernel_rfl) (by decide +kernel)) | (apply DrawA.orders snB (by kernel_rfl) (by kernel_rfl) (by decide +kernel)) | (refine CallA.scalar2 hn ?_)) <;> (conv => whnf))
    all_goals
      (refine' RetK.auto (.p (pB _)) ([some (.cells [.p (.list nr ((rts b.l s).map pR))])]) rfl rfl rfl rfl _ _ _ <;> repeat' (first | exact trivial | refine And.intro ?_ ?_ | with_reducible rfl | (refine pIEq ?_; exact ar_) | (refine bufMap ?_) | (refine bufNil ?_) | (refine bufEq ?_) | rfl))
      refine ⟨_, rfl, rfl, ?_⟩
    all_goals first
      | (simp_all; done)
      | (rw [decide_eq_true_eq]; exact ⟨fun h g => (by have := (g (by assumption)).2; omega), fun h => (by
          by_cases h9 : v ≤ (b.q[x.sup.toNat].lv)[(r.r.lev[x.sup.toNat]'(by omega)).toNat]'(by omega)
          · exact absurd (fun _ => ⟨by assumption, h9⟩) h
          · omega)⟩)
      | skip
    exact ⟨fun h => (by cases h), fun h => absurd (fun hp => (by omega)) h⟩

theorem badsnd_index (b : Bo) (s : List Int) (r : Rq) (nr : Bool) (hb : BoOK b) (hr : RlV b.q r.r) (nq : Bool) (xs : List Sca) (hx : ∀ x ∈ xs, ScV b.l.length b.q.length x) : ACall Tryz.prog 132 [.p (.list nq (xs.map Sca.pv)), .clo (.func 89) [.ptr 0 0, .rptr [.list r.n1 (r.r.on.map pB), .list r.n3 (r.r.lev.map pI)], .rptr [.list b.n0 (b.l.map Ck.pv), .list b.n1 (b.q.map Sup.pv), .list true [], .list b.n3 (b.d.map Dr.pv), .list b.n4 (b.cs.map Sca.pv)]]] [some (.cells [.p (.list nr ((rts b.l s).map pR))])] fun r' H' => ∃ v : Int, r' = .p (pI v) ∧ H' = [some (.cells [.p (.list nr ((rts b.l s).map pR))])] ∧ (0 ≤ v ↔ ∃ x ∈ xs, ¬ SndC b s r.r x) := by
  refine acall_enter Tryz.func132 rfl rfl tabOK rfl ?_
  (conv => whnf); repeat' ((first | apply CondA.plain | refine' gC | refine' gpI | refine' gpB | refine' gCkpv | refine' gSuppv | refine' gScapv | refine' gpR | refine' gE | (apply DrawA.quiet (by kernel_rfl) (by kernel_rfl); (conv => whnf); fail_if_success (show False))) <;> (conv => whnf))
  refine loop_rule (fun (c : Nat) => ⟨[(0, .p (.list nq (xs.map Sca.pv))), (1, .clo (.func 89) [.ptr 0 0, .rptr [.list r.n1 (r.r.on.map pB), .list r.n3 (r.r.lev.map pI)], .rptr [.list b.n0 (b.l.map Ck.pv), .list b.n1 (b.q.map Sup.pv), .list true [], .list b.n3 (b.d.map Dr.pv), .list b.n4 (b.cs.map Sca.pv)]]), (7, .p (pI xs.length)), (8, .p (pI c))], [some (.cells [.p (.list nr ((rts b.l s).map pR))])]⟩) (fun (c : Nat) => c ≤ xs.length ∧ ∀ (k : Nat) (h : k < xs.length), k < c → ¬ (fun x => ¬ SndC b s r.r x) xs[k]) (fun (c : Nat) => xs.length - c) 0 ?_ ?_ ?_; (refine SubA.auto rfl rfl rfl rfl ?_ ?_ <;> repeat' (first | exact trivial | refine And.intro ?_ ?_ | with_reducible rfl | (refine pIEq ?_; exact ar_) | (refine bufMap ?_) | (refine bufNil ?_) | (refine bufEq ?_) | rfl))
  · exact ⟨by omega, by omega⟩
  rintro c ⟨hc, hok⟩
  rcases Nat.lt_or_ge c xs.length with hlt | hge
  · (conv => whnf); repeat' ((first | apply CondA.plain | refine' gC | refine' gpI | refine' gpB | refine' gCkpv | refine' gSuppv | refine' gScapv | refine' gpR | refine' gE | (apply DrawA.quiet (by kernel_rfl) (by kernel_rfl); (conv => whnf); fail_if_success (show False))) <;> (conv => whnf))
    refine CallA.loc [0] [] rfl rfl ((badsnd_call b s r nr hb hr xs[c] (hx _ (List.getElem_mem hlt))).mono ?_)
    rintro r' H' ⟨b9, rfl, rfl, hb9⟩
    (conv => whnf); repeat' ((first | apply CondA.plain | refine' gC | refine' gpI | refine' gpB | refine' gCkpv | refine' gSuppv | refine' gScapv | refine' gpR | refine' gE | (apply DrawA.quiet (by kernel_rfl) (by kernel_rfl); (conv => whnf); fail_if_success (show False))) <;> (conv => whnf))
    · (refine' RetK.auto (.p (pI c)) ([some (.cells [.p (.list nr ((rts b.l s).map pR))])]) rfl rfl rfl rfl _ _ _ <;> repeat' (first | exact trivial | refine And.intro ?_ ?_ | with_reducible rfl | (refine pIEq ?_; exact ar_) | (refine bufMap ?_) | (refine bufNil ?_) | (refine bufEq ?_) | rfl))
      exact ⟨_, rfl, rfl, fun _ => ⟨_, List.getElem_mem hlt, hb9.1 (by assumption)⟩, fun _ => by omega⟩
    · (refine' ⟨c + 1, _, _, _⟩; rotate_right; (refine SubA.auto rfl rfl rfl rfl ?_ ?_ <;> repeat' (first | exact trivial | refine And.intro ?_ ?_ | with_reducible rfl | (refine pIEq ?_; exact ar_) | (refine bufMap ?_) | (refine bufNil ?_) | (refine bufEq ?_) | rfl)); rotate_right; exact ar2_)
      refine ⟨by omega, fun k hk hkc => ?_⟩
      rcases Nat.lt_or_ge k c with h3 | h3
      · exact hok k hk h3
      · obtain rfl : k = c := by omega
        exact fun h => by have hbf : b9 = false := (by assumption); rw [hb9.2 h] at hbf; cases hbf
  · (conv => whnf); repeat' ((first | apply CondA.plain | refine' gC | refine' gpI | refine' gpB | refine' gCkpv | refine' gSuppv | refine' gScapv | refine' gpR | refine' gE | (apply DrawA.quiet (by kernel_rfl) (by kernel_rfl); (conv => whnf); fail_if_success (show False))) <;> (conv => whnf))
    (refine' RetK.auto (.p (pI (-1))) ([some (.cells [.p (.list nr ((rts b.l s).map pR))])]) rfl rfl rfl rfl _ _ _ <;> repeat' (first | exact trivial | refine And.intro ?_ ?_ | with_reducible rfl | (refine pIEq ?_; exact ar_) | (refine bufMap ?_) | (refine bufNil ?_) | (refine bufEq ?_) | rfl))
    refine ⟨_, rfl, rfl, fun h => (by omega), fun ⟨x, hx, h⟩ => ?_⟩
    obtain ⟨k, hk, rfl⟩ := List.getElem_of_mem hx
    exact absurd h (hok k hk (by omega))
theorem badsnd_contains (b : Bo) (s : List Int) (r : Rq) (nr : Bool) (hb : BoOK b) (hr : RlV b.q r.r) (nq : Bool) (xs : List Sca) (hx : ∀ x ∈ xs, ScV b.l.length b.q.length x) : ACall Tryz.prog 71 [.p (.list nq (xs.map Sca.pv)), .clo (.func 89) [.ptr 0 0, .rptr [.list r.n1 (r.r.on.map pB), .list r.n3 (r.r.lev.map pI)], .rptr [.list b.n0 (b.l.map Ck.pv), .list b.n1 (b.q.map Sup.pv), .list true [], .list b.n3 (b.d.map Dr.pv), .list b.n4 (b.cs.map Sca.pv)]]] [some (.cells [.p (.list nr ((rts b.l s).map pR))])] fun r' H' => ∃ b9 : Bool, r' = .p (pB b9) ∧ H' = [some (.cells [.p (.list nr ((rts b.l s).map pR))])] ∧ (b9 = true ↔ ∃ x ∈ xs, ¬ SndC b s r.r x) := by
  refine acall_enter Tryz.func71 rfl rfl tabOK rfl ?_
  (conv => whnf); repeat' ((first | apply CondA.plain | refine' gC | refine' gpI | refine' gpB | refine' gCkpv | refine' gSuppv | refine' gScapv | refine' gpR | refine' gE | (apply DrawA.quiet (by kernel_rfl) (by kernel_rfl); (conv => whnf); fail_if_success (show False))) <;> (conv => whnf))
  refine CallA.all ((badsnd_index b s r nr hb hr nq xs hx).mono ?_)
  rintro r' H' ⟨v, rfl, rfl, hv⟩
  (conv => whnf); repeat' ((first | apply CondA.plain | refine' gC | refine' gpI | refine' gpB | refine' gCkpv | refine' gSuppv | refine' gScapv | refine' gpR | refine' gE | (apply DrawA.quiet (by kernel_rfl) (by kernel_rfl); (conv => whnf); fail_if_success (show False))) <;> (conv => whnf))
  (refine' RetK.auto (.p (pB _)) ([some (.cells [.p (.list nr ((rts b.l s).map pR))])]) rfl rfl rfl rfl _ _ _ <;> repeat' (first | exact trivial | refine And.intro ?_ ?_ | with_reducible rfl | (refine pIEq ?_; exact ar_) | (refine bufMap ?_) | (refine bufNil ?_) | (refine bufEq ?_) | rfl))
  exact ⟨_, rfl, rfl, by rw [decide_eq_true_eq]; exact hv⟩

open Go.Abs
set_option maxRecDepth 100000
set_option maxHeartbeats 4000000 in
theorem sound_call (b : Bo) (n2 : Bool) (s : List Int) (r : Rq) (hb : BoOK b) (hs : SetOK b.l s) (hr : RlV b.q r.r) : ACall Tryz.prog 45 [.p b.pv, .p (.list n2 (s.map pI)), .p r.pv] [] fun r' H => ∃ bb : Bool, r' = .p (pB bb) ∧ H = [] ∧ (bb = true ↔ Snd b s r.r) := by
  refine acall_enter Tryz.func45 rfl rfl tabOK rfl ?_
  (conv => whnf); repeat' ((first | refine' gC | refine' gpI | refine' gpB | refine' gCkpv | refine' gSuppv | refine' gScapv | refine' gpR | refine' gE | (apply DrawA.quiet (by kernel_rfl) (by kernel_rfl); (conv => whnf); fail_if_success (show False)) | ((refine call_exB (Calm_call b.n0 n2 b.l s hb.l hs) ?_; intro b1 hb1)) | ((refine call_exB (sMeets_call b.n1 r.n1 b.n3 r.n3 b.q r.r b.d) ?_; intro b2 hb2))) <;> (conv => whnf))
  · apply CondA.plain
    (conv => whnf); repeat' ((first | apply CondA.plain | refine' gC | refine' gpI | refine' gpB | refine' gCkpv | refine' gSuppv | refine' gScapv | refine' gpR | refine' gE | (apply DrawA.quiet (by kernel_rfl) (by kernel_rfl); (conv => whnf); fail_if_success (show False))) <;> (conv => whnf))
    (refine RetK.p ?_ <;> repeat' (first | exact trivial | refine And.intro ?_ ?_ | with_reducible rfl | (refine pIEq ?_; exact ar_) | (refine bufMap ?_) | (refine bufNil ?_) | (refine bufEq ?_) | rfl); all_goals try first | refine pBEq ?_ | refine pIEq ?_)
    exact ⟨false, rfl, rfl, fun h => (by cases h), fun h => (by rw [hb1.2 h.1] at h0; cases h0)⟩
  have ho := hb1.1 h0
  cases b2
  · apply CondA.plain
    (conv => whnf); repeat' ((first | apply CondA.plain | refine' gC | refine' gpI | refine' gpB | refine' gCkpv | refine' gSuppv | refine' gScapv | refine' gpR | refine' gE | (apply DrawA.quiet (by kernel_rfl) (by kernel_rfl); (conv => whnf); fail_if_success (show False))) <;> (conv => whnf))
    (refine RetK.p ?_ <;> repeat' (first | exact trivial | refine And.intro ?_ ?_ | with_reducible rfl | (refine pIEq ?_; exact ar_) | (refine bufMap ?_) | (refine bufNil ?_) | (refine bufEq ?_) | rfl); all_goals try first | refine pBEq ?_ | refine pIEq ?_)
    exact ⟨false, rfl, rfl, fun h => (by cases h), fun h => (by have := hb2.2 ⟨hb.q, h.2.1⟩; cases this)⟩
  have hm := (hb2.1 rfl).2
  refine CondA.meet (fun (_x : Unit) => ⟨[(1, .p (.list n2 (s.map pI))), (3, .rptr [.list b.n0 (b.l.map Ck.pv), .list b.n1 (b.q.map Sup.pv), .list true [], .list b.n3 (b.d.map Dr.pv), .list b.n4 (b.cs.map Sca.pv)]), (5, .rptr [.list r.n1 (r.r.on.map pB), .list r.n3 (r.r.lev.map pI)])], []⟩) (fun (_x : Unit) => True) ?_ ?_
  · (conv => whnf); repeat' ((first | apply CondA.plain | refine' gC | refine' gpI | refine' gpB | refine' gCkpv | refine' gSuppv | refine' gScapv | refine' gpR | refine' gE | (apply DrawA.quiet (by kernel_rfl) (by kernel_rfl); (conv => whnf); fail_if_success (show False))) <;> (conv => whnf))
    (refine' ⟨(), _, _⟩; rotate_right; (refine SubA.ret _ 3 0 [.list b.n0 (b.l.map Ck.pv), .list b.n1 (b.q.map Sup.pv), .list true [], .list b.n3 (b.d.map Dr.pv), .list b.n4 (b.cs.map Sca.pv)] rfl rfl ?_; refine SubA.ret _ 5 1 [.list r.n1 (r.r.on.map pB), .list r.n3 (r.r.lev.map pI)] rfl rfl ?_; refine SubA.auto rfl rfl rfl rfl ?_ ?_ <;> repeat' (first | exact trivial | refine And.intro ?_ ?_ | with_reducible rfl | (refine pIEq ?_; exact ar_) | (refine bufMap ?_) | (refine bufNil ?_) | (refine bufEq ?_) | rfl)); rotate_right; exact ar2_)
  rintro _ -
  (conv => whnf); repeat' ((first | apply CondA.plain | refine' gC | refine' gpI | refine' gpB | refine' gCkpv | refine' gSuppv | refine' gScapv | refine' gpR | refine' gE | (apply DrawA.quiet (by kernel_rfl) (by kernel_rfl); (conv => whnf); fail_if_success (show False)) | ((refine call_rates (Rates_call b.n0 n2 b.l s hb.l hs) ?_; intro b0))) <;> (conv => whnf))
  refine CallA.loc [1] [0] rfl rfl ((badsnd_contains b s r b0 hb hr b.n4 b.cs hb.cs).mono ?_)
  rintro _ _ ⟨bb, rfl, rfl, hbb⟩
  (conv => whnf); repeat' ((first | apply CondA.plain | refine' gC | refine' gpI | refine' gpB | refine' gCkpv | refine' gSuppv | refine' gScapv | refine' gpR | refine' gE | (apply DrawA.quiet (by kernel_rfl) (by kernel_rfl); (conv => whnf); fail_if_success (show False))) <;> (conv => whnf))
  (refine RetK.p ?_ <;> repeat' (first | exact trivial | refine And.intro ?_ ?_ | with_reducible rfl | (refine pIEq ?_; exact ar_) | (refine bufMap ?_) | (refine bufNil ?_) | (refine bufEq ?_) | rfl); all_goals try first | refine pBEq ?_ | refine pIEq ?_)
  refine ⟨_, rfl, rfl, ?_⟩
  show (!bb) = true ↔ _
  rw [Bool.not_eq_true', Bool.eq_false_iff, ne_eq, hbb]
  constructor
  · intro h
    refine ⟨ho, hm, fun x hx => ?_⟩
    by_cases hx2 : SndC b s r.r x
    · exact hx2
    · exact absurd ⟨x, hx, hx2⟩ h
  · rintro h ⟨x, hx, hn⟩
    exact hn (h.2.2 x hx)
theorem Sound_call (b : Bo) (n2 : Bool) (s : List Int) (r : Rq) (hb : BoOK b) (hs : SetOK b.l s) (hr : RlV b.q r.r) (h : Snd b s r.r) : ACall Tryz.prog 15 [.p (.list b.n0 (b.l.map Ck.pv)), .p (.list b.n1 (b.q.map Sup.pv)), .p (.list n2 (s.map pI)), .p r.pv, .p (.list true []), .p (.list b.n3 (b.d.map Dr.pv)), .p (.list b.n4 (b.cs.map Sca.pv))] [] fun r' H => r' = .p (pB true) ∧ H = [] := by
  refine acall_enter Tryz.func15 rfl rfl tabOK rfl ?_
  (conv => whnf); repeat' ((first | apply CondA.plain | refine' gC | refine' gpI | refine' gpB | refine' gCkpv | refine' gSuppv | refine' gScapv | refine' gpR | refine' gE | (apply DrawA.quiet (by kernel_rfl) (by kernel_rfl); (conv => whnf); fail_if_success (show False)) | (refine CallA.scalar (bvalid_call b n2 s r hb hs hr) ?_) | ((refine call_exB (sound_call b n2 s r hb hs hr) ?_; intro b1 hb1; obtain rfl : b1 = true := hb1.2 h))) <;> (conv => whnf))
  (refine RetK.p ?_ <;> repeat' (first | exact trivial | refine And.intro ?_ ?_ | with_reducible rfl | (refine pIEq ?_; exact ar_) | (refine bufMap ?_) | (refine bufNil ?_) | (refine bufEq ?_) | rfl); all_goals try first | refine pBEq ?_ | refine pIEq ?_)
open Go.Abs
set_option maxRecDepth 100000
def wkH (b : Bo) (n2 : Bool) (s : List Int) (r : Rq) : AH := [some (.cells [.p (.list b.n0 (b.l.map Ck.pv)), .p (.list b.n1 (b.q.map Sup.pv)), .p (.list true []), .p (.list b.n3 (b.d.map Dr.pv)), .p (.list b.n4 (b.cs.map Sca.pv)), .p (.list n2 (s.map pI)), .p (.list r.n1 (r.r.on.map pB)), .p (.list r.n3 (r.r.lev.map pI))])]
def wsASC0 : Sc := (.one 9 (.one 11 (.take 12 (.take 13 (.take 14 (.take 15 (.take 16 (.one 17 (.take 18 .done)))))))))
def wsASC1 : Sc := (.one 5 (.one 11 (.take 12 (.take 13 (.take 14 (.take 15 (.take 16 (.one 17 (.take 18 .done)))))))))
def wsA : Sc := (.take 0 (.take 1 (.take 2 (.take 3 (.take 4 (.take 6 (.take 7 (.take 8 (.load 10 (.two 5 9 wsASC0 wsASC1))))))))))
def wsBSC0 : Sc := (.one 9 (.one 11 (.take 12 (.take 13 (.take 14 (.take 15 (.take 16 (.one 17 (.take 18 .done)))))))))
def wsBSC1 : Sc := (.one 5 (.one 11 (.take 12 (.take 13 (.take 14 (.take 15 (.take 16 (.one 17 (.take 18 .done)))))))))
def wsB : Sc := (.take 0 (.take 1 (.take 2 (.take 3 (.take 4 (.take 6 (.take 7 (.take 8 (.load 10 (.two 5 9 wsBSC0 wsBSC1))))))))))
def wsCSC0 : Sc := (.one 14 (.one 15 (.take 16 (.take 17 .done))))
def wsCSC1 : Sc := (.one 10 (.one 15 (.take 16 (.take 17 .done))))
def wsCSC2 : Sc := (.two 10 14 wsCSC0 wsCSC1)
def wsCSC3 : Sc := (.one 6 (.one 15 (.take 16 (.take 17 .done))))
def wsCSC4 : Sc := (.two 6 14 wsCSC0 wsCSC3)
def wsCSC5 : Sc := (.two 6 10 wsCSC1 wsCSC3)
def wsC : Sc := (.take 0 (.take 1 (.take 2 (.take 3 (.take 4 (.take 5 (.take 7 (.take 8 (.take 9 (.take 11 (.take 12 (.take 13 (.three 6 10 14 wsCSC2 wsCSC4 wsCSC5)))))))))))))
def wsDSC0 : Sc := (.one 14 (.one 15 (.take 16 (.take 17 .done))))
def wsDSC1 : Sc := (.one 12 (.one 15 (.take 16 (.take 17 .done))))
def wsDSC2 : Sc := (.one 5 (.one 6 (.take 7 (.take 8 (.take 9 (.take 10 (.take 11 (.take 13 (.two 12 14 wsDSC0 wsDSC1)))))))))
def wsDSC3 : Sc := (.one 3 (.one 6 (.take 7 (.take 8 (.take 9 (.take 10 (.take 11 (.take 13 (.two 12 14 wsDSC0 wsDSC1)))))))))
def wsD : Sc := (.take 0 (.take 1 (.take 2 (.take 4 (.two 3 5 wsDSC2 wsDSC3)))))
set_option maxHeartbeats 4000000 in
theorem step_call (b : Bo) (n2 : Bool) (s : List Int) (r : Rq) (w : Wr) (hb : BoOK b) (h : SndP b (s, r.r)) (hw : WV b w) (h' : SndP b (stepP (s, r.r) w)) : ACall Tryz.prog 51 [.ptr 0 0, .p w.pv] (wkH b n2 s r) fun r' H => r' = .p (pB true) ∧ ∃ (n2' : Bool) (s2 : List Int) (r2 : Rq), H = wkH b n2' s2 r2 ∧ (s2, r2.r) = stepP (s, r.r) w := by
  refine acall_enter Tryz.func51 rfl rfl tabOK rfl ?_
  obtain ⟨hs, hr, hsd⟩ := h
  rcases hw with hw | hw
  · have hk := hw.1
    rw [step_c hw] at h' ⊢
    obtain ⟨hs', hr', hsd'⟩ := h'
    (conv => whnf); repeat' ((first | apply CondA.plain | refine' gC | refine' gpI | refine' gpB | refine' gCkpv | refine' gSuppv | refine' gScapv | refine' gWrpv | refine' gE | fail) <;> (conv => whnf))
    · refine DrawA.meet (fun (n : Bool) => ⟨[(0, .ptr 0 0), (5, .p (pI 0))], wkH b n (applyC s w) r⟩) (fun (n : Bool) => True) (DrawB.orders wsA (by kernel_rfl) (by kernel_rfl) (by kernel_rfl) ?_) ?_
      · (conv => whnf); repeat' ((first | apply CondA.plain | refine' gC | refine' gpI | refine' gpB | refine' gCkpv | refine' gSuppv | refine' gScapv | refine' gWrpv | refine' gE | ((refine CallA.loc [] [] rfl rfl ((rApply_call b.n0 n2 b.l s w hb.l hs hw).mono ?_); rintro _ _ ⟨b0, rfl, rfl⟩))) <;> (conv => whnf))
        all_goals
          (refine' ⟨b0, _, _⟩; rotate_right; (refine SubA.thawed _ [2] [] ?_; refine SubA.cells _ [0] ?_; refine SubA.auto rfl rfl rfl rfl ?_ ?_ <;> repeat' (first | exact trivial | refine And.intro ?_ ?_ | with_reducible rfl | (refine pIEq ?_; exact ar_) | (refine bufMap ?_) | (refine bufNil ?_) | (refine bufEq ?_) | rfl)); rotate_right; exact ar2_)
      rintro n -
      (conv => whnf); repeat' ((first | apply CondA.plain | refine' gC | refine' gpI | refine' gpB | refine' gCkpv | refine' gSuppv | refine' gScapv | refine' gWrpv | refine' gE | (apply DrawA.orders wsC (by kernel_rfl) (by kernel_rfl) (by decide +kernel)) | ((refine call_exB (sound_call b n (applyC s w) r hb hs' hr') ?_; intro b1 hb1; obtain rfl : b1 = true := hb1.2 hsd'))) <;> (conv => whnf))
      all_goals
        (refine' RetK.auto (.p (pB true)) (wkH b n (applyC s w) r) rfl rfl rfl rfl _ _ _ <;> repeat' (first | exact trivial | refine And.intro ?_ ?_ | with_reducible rfl | (refine pIEq ?_; exact ar_) | (refine bufMap ?_) | (refine bufNil ?_) | (refine bufEq ?_) | rfl))
        exact ⟨n, applyC s w, r, rfl, rfl⟩
  · have hk : w.kind ≠ 1 := by rcases hw.2 with h | h <;> omega
    rw [step_r hw] at h' ⊢
    obtain ⟨hs', hr', hsd'⟩ := h'
    (conv => whnf); repeat' ((first | apply CondA.plain | refine' gC | refine' gpI | refine' gpB | refine' gCkpv | refine' gSuppv | refine' gScapv | refine' gWrpv | refine' gE | fail) <;> (conv => whnf))
    · refine DrawA.meet (fun (⟨c1, c2⟩ : Bool × Bool) => ⟨[(0, .ptr 0 0), (5, .p (pI 0))], wkH b n2 s ⟨c1, c2, applyR r.r w⟩⟩) (fun (⟨c1, c2⟩ : Bool × Bool) => True) (DrawB.orders wsB (by kernel_rfl) (by kernel_rfl) (by kernel_rfl) ?_) ?_
      · (conv => whnf); repeat' ((first | apply CondA.plain | refine' gC | refine' gpI | refine' gpB | refine' gCkpv | refine' gSuppv | refine' gScapv | refine' gWrpv | refine' gE | ((refine CallA.loc [] [] rfl rfl ((Apply_call b.n1 b.q r w hb.q hr hw).mono ?_); rintro _ _ ⟨c1, c2, rfl, rfl⟩))) <;> (conv => whnf))
        all_goals
          (refine' ⟨(c1, c2), _, _⟩; rotate_right; (refine SubA.auto rfl rfl rfl rfl ?_ ?_ <;> repeat' (first | exact trivial | refine And.intro ?_ ?_ | with_reducible rfl | (refine pIEq ?_; exact ar_) | (refine bufMap ?_) | (refine bufNil ?_) | (refine bufEq ?_) | rfl)); rotate_right; exact ar2_)
      rintro ⟨c1, c2⟩ -
      (conv => whnf); repeat' ((first | apply CondA.plain | refine' gC | refine' gpI | refine' gpB | refine' gCkpv | refine' gSuppv | refine' gScapv | refine' gWrpv | refine' gE | (apply DrawA.orders wsC (by kernel_rfl) (by kernel_rfl) (by decide +kernel)) | ((refine call_exB (sound_call b n2 s ⟨c1, c2, applyR r.r w⟩ hb hs' hr') ?_; intro b1 hb1; obtain rfl : b1 = true := hb1.2 hsd'))) <;> (conv => whnf))
      all_goals
        (refine' RetK.auto (.p (pB true)) (wkH b n2 s ⟨c1, c2, applyR r.r w⟩) rfl rfl rfl rfl _ _ _ <;> repeat' (first | exact trivial | refine And.intro ?_ ?_ | with_reducible rfl | (refine pIEq ?_; exact ar_) | (refine bufMap ?_) | (refine bufNil ?_) | (refine bufEq ?_) | rfl))
        exact ⟨n2, s, ⟨c1, c2, applyR r.r w⟩, rfl, rfl⟩
set_option maxHeartbeats 4000000 in
theorem First_call (b : Bo) (n2 np : Bool) (s : List Int) (r : Rq) (ws : List Wr) (hb : BoOK b) (h : Way stepP (WV b) (SndP b) (s, r.r) ws) : ACall Tryz.prog 17 [.p (.list b.n0 (b.l.map Ck.pv)), .p (.list b.n1 (b.q.map Sup.pv)), .p (.list n2 (s.map pI)), .p r.pv, .p (.list np (ws.map Wr.pv)), .p (.list true []), .p (.list b.n3 (b.d.map Dr.pv)), .p (.list b.n4 (b.cs.map Sca.pv))] [] fun r' H => r' = .p (pI (-1)) ∧ H = [] := by
  refine acall_enter Tryz.func17 rfl rfl tabOK rfl ?_
  obtain ⟨hs, hr, hsd⟩ := h.start
  (conv => whnf); repeat' ((first | apply CondA.plain | refine' gC | refine' gpI | refine' gpB | refine' gCkpv | refine' gSuppv | refine' gScapv | refine' gWrpv | refine' gE | (apply DrawA.orders wsD (by kernel_rfl) (by kernel_rfl) (by decide +kernel)) | (refine CallA.scalar (bvalid_call b n2 s r hb hs hr) ?_) | ((refine call_exB (sound_call b n2 s r hb hs hr) ?_; intro b1 hb1; obtain rfl : b1 = true := hb1.2 hsd))) <;> (conv => whnf))
  all_goals
    refine loop_rule (fun (⟨c, n2, s2, r2⟩ : Nat × Bool × List Int × Rq) => ⟨[(17, .ptr 0 0), (48, .p (.list np (ws.map Wr.pv))), (49, .p (pI ws.length)), (50, .p (pI c))], wkH b n2 s2 r2⟩) (fun (⟨c, n2, s2, r2⟩ : Nat × Bool × List Int × Rq) => c ≤ ws.length ∧ (s2, r2.r) = (ws.take c).foldl stepP (s, r.r)) (fun (⟨c, n2, s2, r2⟩ : Nat × Bool × List Int × Rq) => ws.length - c) (0, n2, s, r) ?_ ?_ ?_; (refine SubA.auto rfl rfl rfl rfl ?_ ?_ <;> repeat' (first | exact trivial | refine And.intro ?_ ?_ | with_reducible rfl | (refine pIEq ?_; exact ar_) | (refine bufMap ?_) | (refine bufNil ?_) | (refine bufEq ?_) | rfl))
    · exact ⟨by omega, rfl⟩
    rintro ⟨c, n2, s2, r2⟩ ⟨hc, he⟩
    try simp only at hc he
    rcases Nat.lt_or_ge c ws.length with hlt | hge
    · have h1 := h.2 c hc
      have h2 := h.2 (c + 1) (by omega)
      rw [List.take_succ_eq_append_getElem hlt, List.foldl_append] at h2
      rw [← he] at h1 h2
      have hwv := h.1 _ (List.getElem_mem hlt)
      (conv => whnf); repeat' ((first | apply CondA.plain | refine' gC | refine' gpI | refine' gpB | refine' gCkpv | refine' gSuppv | refine' gScapv | refine' gWrpv | refine' gE | ((refine CallA.loc [0] [] rfl rfl ((step_call b n2 s2 r2 ws[c] hb h1 hwv h2).mono ?_); rintro _ _ ⟨rfl, n3, s3, r3, rfl, he3⟩))) <;> (conv => whnf))
      (refine' ⟨(c + 1, n3, s3, r3), _, _, _⟩; rotate_right; (refine SubA.auto rfl rfl rfl rfl ?_ ?_ <;> repeat' (first | exact trivial | refine And.intro ?_ ?_ | with_reducible rfl | (refine pIEq ?_; exact ar_) | (refine bufMap ?_) | (refine bufNil ?_) | (refine bufEq ?_) | rfl)); rotate_right; exact ar2_)
      refine ⟨by omega, ?_⟩
      rw [List.take_succ_eq_append_getElem hlt, List.foldl_append, ← he, he3]
      rfl
    · (conv => whnf); repeat' ((first | apply CondA.plain | refine' gC | refine' gpI | refine' gpB | refine' gCkpv | refine' gSuppv | refine' gScapv | refine' gWrpv | refine' gE | fail) <;> (conv => whnf))
      (refine RetK.p ?_ <;> repeat' (first | exact trivial | refine And.intro ?_ ?_ | with_reducible rfl | (refine pIEq ?_; exact ar_) | (refine bufMap ?_) | (refine bufNil ?_) | (refine bufEq ?_) | rfl); all_goals try first | refine pBEq ?_ | refine pIEq ?_)
open Go.Abs
set_option maxRecDepth 100000
/-- All states of a way. -/
def pathF (s : List Int) (ws : List Wr) (c : Nat) : List (List Int) := (List.range (c + 1)).map fun k => (ws.take k).foldl applyC s
theorem path_succ (s : List Int) (ws : List Wr) (c : Nat) : pathF s ws (c + 1) = pathF s ws c ++ [(ws.take (c + 1)).foldl applyC s] := by
  unfold pathF
  rw [List.range_succ, List.map_append]; rfl
theorem len_path (s : List Int) (ws : List Wr) (c : Nat) : (pathF s ws c).length = c + 1 := by simp [pathF]
def seA : Sc := (.take 0 (.take 1 (.take 2 (.take 3 (.take 4 (.take 5 (.frz 7 (.one 6 (.one 8 (.take 9 (.take 10 (.take 11 (.take 12 (.take 13 .done))))))))))))))
theorem cloneZ_call (nl : Bool) (xs : List Int) (h : xs.length ≤ 100000) : ACall Tryz.prog 29 [.p (.list nl (xs.map pI))] [] fun r H => ∃ nb, r = .p (sI (nb, xs)) ∧ H = [some (.frz nb (xs.map pI))] :=
  (CloneI_call nl xs h).frz [0] fun r H' ⟨nb, hr, hH⟩ => ⟨nb, by subst hr; subst hH; rfl, by subst hH; rfl⟩
theorem applyZ_call (nl n2 : Bool) (l : List Ck) (s : List Int) (w : Wr) (hl : CkOK l) (hs : SetOK l s) (hw : CwV l w) : ACall Tryz.prog 95 [.p (.list nl (l.map Ck.pv)), .p (.list n2 (s.map pI)), .p w.pv] [] fun r H => ∃ b : Bool, r = .tup [.p (sI (b, applyC s w)), .p (pI 0)] ∧ H = [some (.frz b ((applyC s w).map pI))] :=
  (rApply_call nl n2 l s w hl hs hw).frz [0] fun r H' ⟨nb, hr, hH⟩ => ⟨nb, by subst hr; subst hH; rfl, by subst hH; rfl⟩
set_option maxHeartbeats 4000000 in
theorem Settings_call (nl n2 np : Bool) (l : List Ck) (s : List Int) (ws : List Wr) (hl : CkOK l) (hs : SetOK l s) (hw : ∀ w ∈ ws, CwV l w) (hn : ws.length ≤ 4096) : ACall Tryz.prog 47 [.p (.list nl (l.map Ck.pv)), .p (.list n2 (s.map pI)), .p (.list np (ws.map Wr.pv))] [] fun r H => H = [] ∧ ∃ (b : Bool) (ps : List (Bool × List Int)), r = .tup [.p (.list b (ps.map sI)), .p (pI 0)] ∧ ps.map (·.2) = pathF s ws ws.length := by
  refine acall_enter Tryz.func47 rfl rfl tabOK rfl ?_
  (conv => whnf); repeat' ((first | apply CondA.plain | refine' gC | refine' gpI | refine' gpB | refine' gCkpv | refine' gsI | refine' gWrpv | refine' gE | ((refine CallA.loc [] [] rfl rfl ((cloneZ_call n2 s (by have := hs.1; have := hl.1; omega)).mono ?_); rintro _ _ ⟨b0, rfl, rfl⟩)) | ((apply IsL.lit (f := sI) [(b0, s)] rfl))) <;> (conv => whnf))
  refine loop_rule (fun (⟨c, b, ps⟩ : Nat × Bool × List (Bool × List Int)) => ⟨[(0, .p (.list nl (l.map Ck.pv))), (8, .buf 0), (16, .p (.list np (ws.map Wr.pv))), (17, .p (pI ws.length)), (18, .p (pI c))], [some (AO.buf 22 b (ps.map sI))]⟩) (fun (⟨c, b, ps⟩ : Nat × Bool × List (Bool × List Int)) => c ≤ ws.length ∧ ps.map (·.2) = pathF s ws c) (fun (⟨c, b, ps⟩ : Nat × Bool × List (Bool × List Int)) => ws.length - c) (0, false, [(b0, s)]) ?_ ?_ ?_; (refine SubA.auto rfl rfl rfl rfl ?_ ?_ <;> repeat' (first | exact trivial | refine And.intro ?_ ?_ | with_reducible rfl | (refine pIEq ?_; exact ar_) | (refine bufMap ?_) | (refine bufNil ?_) | (refine bufEq ?_) | rfl))
  · exact ⟨by omega, rfl⟩
  rintro ⟨c, b, ps⟩ ⟨hc, hps⟩
  try simp only at hc hps
  have hpl : ps.length = c + 1 := by
    have := congrArg List.length hps
    rw [len_path] at this
    simpa using this
  rcases Nat.lt_or_ge c ws.length with hlt | hge
  · have hp : (ps[c]'(by omega)).2 = (ws.take c).foldl applyC s := by
      have h1 : (ps.map (·.2))[c]'(by simp; omega) = (ws.take c).foldl applyC s := by
        simp only [hps, pathF, List.getElem_map, List.getElem_range]
      simpa using h1
    have hsp : SetOK l (ps[c]'(by omega)).2 := by
      rw [hp]
      exact way_set _ hs fun w h => hw w (List.mem_of_mem_take h)
    have hwv := hw _ (List.getElem_mem hlt)
    have hix : (ps.map sI)[((ps.length : Int) - 1).toNat]? = some (sI (ps[c]'(by omega))) := by
      have e : ((ps.length : Int) - 1).toNat = c := by omega
      rw [e, List.getElem?_map, List.getElem?_eq_getElem (by omega)]
      rfl
    (conv => whnf); repeat' ((first | apply CondA.plain | refine' gC | refine' gpI | refine' gpB | refine' gCkpv | refine' gsI | refine' gWrpv | refine' gE | fail) <;> (conv => whnf))
    refine DrawA.retire 10 1 [pI ws[c].kind, pI ws[c].unit, pI ws[c].value] rfl rfl ?_
    (conv => whnf); repeat' ((first | (refine IdxA.mk (sI (ps[c]'(by omega))) (by omega) hix ?_) | apply CondA.plain | refine' gC | refine' gpI | refine' gpB | refine' gCkpv | refine' gsI | refine' gWrpv | refine' gE | (apply DrawA.orders seA (by kernel_rfl) (by kernel_rfl) (by decide +kernel)) | ((refine CallA.loc [] [] rfl rfl ((applyZ_call nl (ps[c]'(by omega)).1 l (ps[c]'(by omega)).2 ws[c] hl hsp hwv).mono ?_); rintro _ _ ⟨b1, rfl, rfl⟩))) <;> (conv => whnf))
    (refine' ⟨(c + 1, _, ps ++ [(b1, applyC (ps[c]'(by omega)).2 ws[c])]), _, _, _⟩; rotate_right; (refine SubA.auto rfl rfl rfl rfl ?_ ?_ <;> repeat' (first | exact trivial | refine And.intro ?_ ?_ | with_reducible rfl | (refine pIEq ?_; exact ar_) | (refine bufMap ?_) | (refine bufNil ?_) | (refine bufEq ?_) | rfl)); rotate_right; exact ar2_)
    refine ⟨by omega, ?_⟩
    rw [List.map_append, hps, path_succ, List.take_succ_eq_append_getElem hlt, List.foldl_append]
    simp only [List.map_cons, List.map_nil, hp]
    rfl
  · obtain rfl : c = ws.length := by omega
    (conv => whnf); repeat' ((first | apply CondA.plain | refine' gC | refine' gpI | refine' gpB | refine' gCkpv | refine' gsI | refine' gWrpv | refine' gE | fail) <;> (conv => whnf))
    (refine RetK.frz _ _ _ [0] ?_; refine' RetK.auto (.tup [.p (.list b (ps.map sI)), .p (pI 0)]) ([]) rfl rfl rfl rfl _ _ _ <;> repeat' (first | exact trivial | refine And.intro ?_ ?_ | with_reducible rfl | (refine pIEq ?_; exact ar_) | (refine bufMap ?_) | (refine bufNil ?_) | (refine bufEq ?_) | rfl))
    exact ⟨b, ps, rfl, hps⟩
open Go.Abs
set_option maxRecDepth 100000
/-- The greatest voltages so far are no less than what is needed for settings. -/
def GrAt (b : Bo) (g : List Int) (s : List Int) (j : Nat) : Prop := ∀ (k : Nat) (h : k < b.cs.length) (h' : k < g.length), k < j → ∃ v, needF b.cs[k].pts (rtA b.l s b.cs[k].clk) = some v ∧ v ≤ g[k]
structure GrOK (b : Bo) (ss : List (List Int)) (g : List Int) : Prop where
  ln : g.length = b.cs.length
  rg : ∀ (j : Nat) (h : j < g.length), 0 ≤ g[j] ∧ g[j] ≤ 5000
  al : ∀ s ∈ ss, GrAt b g s b.cs.length
theorem vol_range {xs : List Pt} (hx : PtsOK xs) {r : Int × Int} {v : Int} (h : needF xs r = some v) : 0 ≤ v ∧ v ≤ 5000 := by
  unfold needF at h
  split at h
  · injection h with h; omega
  · unfold volF at h
    split at h
    · rw [Option.map_eq_some_iff] at h
      obtain ⟨p, hp, rfl⟩ := h
      have hm := List.mem_of_find?_eq_some hp
      obtain ⟨i, hi, rfl⟩ := List.getElem_of_mem hm
      have := (hx.1 i hi).2.1
      omega
    · cases h
theorem GrAt.set {b : Bo} {g : List Int} {s : List Int} {j k : Nat} {v : Int} (h : GrAt b g s j) (hk : k < g.length) (hv : g[k] ≤ v) : GrAt b (g.set k v) s j := by
  intro i hi hi' hij
  simp only [List.length_set] at hi'
  obtain ⟨w, h1, h2⟩ := h i hi hi' hij
  refine ⟨w, h1, ?_⟩
  rw [List.getElem_set]
  split
  · subst_vars; omega
  · exact h2
theorem GrOK.set {b : Bo} {ss : List (List Int)} {g : List Int} {k : Nat} {v : Int} (h : GrOK b ss g) (hk : k < g.length) (hv : g[k] ≤ v) (h5 : v ≤ 5000) : GrOK b ss (g.set k v) := by
  refine ⟨by rw [List.length_set]; exact h.ln, fun j hj => ?_, fun s hs => (h.al s hs).set hk hv⟩
  simp only [List.length_set] at hj
  rw [List.getElem_set]
  have h1 := h.rg k hk
  split
  · omega
  · exact h.rg j hj
theorem GrAt.next {b : Bo} {g : List Int} {s : List Int} {j : Nat} {v : Int} (h : GrAt b g s j) (hj : j < b.cs.length) (hg : j < g.length) (hn : needF b.cs[j].pts (rtA b.l s b.cs[j].clk) = some v) : GrAt b (g.set j (max g[j] v)) s (j + 1) := by
  intro i hi hi' hij
  rcases Nat.lt_or_ge i j with h1 | h1
  · exact h.set hg (Int.le_max_left _ _) i hi hi' h1
  · obtain rfl : i = j := by omega
    refine ⟨v, hn, ?_⟩
    rw [List.getElem_set_self]
    exact Int.le_max_right _ _
def raF : Sc := (.frz 0 (.take 1 (.take 2 (.frz 3 (.take 4 (.frz 5 (.one 6 (.take 7 (.take 8 (.take 9 (.take 10 (.take 11 .done))))))))))))
def raG : Sc := (.take 0 (.take 1 (.frz 2 (.take 3 (.take 4 (.take 5 (.load 6 (.take 7 (.one 8 (.one 9 (.take 10 .done)))))))))))
set_option maxHeartbeats 8000000 in
theorem Raise_call (b : Bo) (np : Bool) (ps : List (Bool × List Int)) (hb : BoOK b) (hps : ∀ p ∈ ps, SetOK b.l p.2) (hsum : b.d.length + b.cs.length ≤ 32) (hpl : ps.length ≤ 100000) : ACall Tryz.prog 13 [.p (.list b.n0 (b.l.map Ck.pv)), .p (.list b.n1 (b.q.map Sup.pv)), .p (.list np (ps.map sI)), .p (.list b.n3 (b.d.map Dr.pv)), .p (.list b.n4 (b.cs.map Sca.pv))] [] fun r H => H = [] ∧ ((∃ (out : List Dr) (nb : Bool), r = .tup [.p (.list nb (out.map Dr.pv)), .p (pI 0)] ∧ RaiseR b (ps.map (·.2)) out) ∨ r = .tup [.p (.list true []), .p (pI 9)]) := by
  refine acall_enter Tryz.func13 rfl rfl tabOK rfl ?_
  have hnot : ¬ ∃ x ∈ ps, ¬ (CkOK b.l ∧ SetOK b.l x.2) := fun ⟨x, hx, hn⟩ => hn ⟨hb.l, hps x hx⟩
  have h16 := hb.l.1
  have q16 := hb.q.1
  (conv => whnf); repeat' ((first | apply CondA.plain | refine' gC | refine' gpI | refine' gpB | refine' gCkpv | refine' gSuppv | refine' gScapv | refine' gDrpv | refine' gpR | refine' gE | (apply DrawA.quiet (by kernel_rfl) (by kernel_rfl); (conv => whnf); fail_if_success (show False)) | ((refine call_exB (Valid_call b.n0 b.n1 b.n4 b.l b.q b.cs hb.l hb.q hb.n) ?_; intro b1 hb1; obtain rfl : b1 = true := hb1.2 hb.cs)) | ((refine call_exB (sDraws_call b.n1 b.n3 b.q b.d) ?_; intro b2 hb2; obtain rfl : b2 = true := hb2.2 ⟨hb.q, hb.d⟩)) | ((refine CallA.loc [0] [] rfl rfl ((badset_contains b.n0 b.l np ps).mono ?_); rintro _ _ ⟨b3, rfl, rfl, hb3⟩; obtain rfl : b3 = false := by (cases b3; rfl; exact absurd (hb3.1 rfl) hnot))) | ((apply IsL.rep (f := pI) (a := 0) rfl))) <;> (conv => whnf))
  have e0 : ((b.cs.length : Int)).toNat = b.cs.length := by omega
  rw [e0]
  refine loop_rule (fun (⟨i, g⟩ : Nat × List Int) => ⟨[(3, .p (.list b.n3 (b.d.map Dr.pv))), (4, .p (.list b.n4 (b.cs.map Sca.pv))), (5, .ptr 0 0), (12, .buf 1), (43, .p (.list np (ps.map sI))), (44, .p (pI ps.length)), (45, .p (pI i))], [some (.cells [.p (.list b.n0 (b.l.map Ck.pv))]), some (AO.buf 3 false (g.map pI))]⟩) (fun (⟨i, g⟩ : Nat × List Int) => i ≤ ps.length ∧ GrOK b ((ps.take i).map (·.2)) g) (fun (⟨i, g⟩ : Nat × List Int) => ps.length - i) (0, List.replicate b.cs.length 0) ?_ ?_ ?_; (refine SubA.auto rfl rfl rfl rfl ?_ ?_ <;> repeat' (first | exact trivial | refine And.intro ?_ ?_ | with_reducible rfl | (refine pIEq ?_; exact ar_) | (refine bufMap ?_) | (refine bufNil ?_) | (refine bufEq ?_) | rfl))
  · exact ⟨by omega, by simp, fun j hj => by simp, fun s hs => by simp at hs⟩
  rintro ⟨i, g⟩ ⟨hi, hg⟩
  try simp only at hi hg
  have hgl := hg.ln
  rcases Nat.lt_or_ge i ps.length with hlt | hge
  · have hsi := hps _ (List.getElem_mem hlt)
    have hrl := len_rts b.l ps[i].2
    (conv => whnf); repeat' ((first | apply CondA.plain | refine' gC | refine' gpI | refine' gpB | refine' gCkpv | refine' gSuppv | refine' gScapv | refine' gDrpv | refine' gpR | refine' gE | ((refine call_rates (Rates_call b.n0 ps[i].1 b.l ps[i].2 hb.l hsi) ?_; intro b0))) <;> (conv => whnf))
    refine loop_rule (fun (⟨j, g⟩ : Nat × List Int) => ⟨[(3, .p (.list b.n3 (b.d.map Dr.pv))), (4, .p (.list b.n4 (b.cs.map Sca.pv))), (5, .ptr 0 0), (12, .buf 1), (15, .p (.list b0 ((rts b.l ps[i].2).map pR))), (43, .p (.list np (ps.map sI))), (44, .p (pI ps.length)), (45, .p (pI i)), (55, .p (.list b.n4 (b.cs.map Sca.pv))), (56, .p (pI b.cs.length)), (57, .p (pI j))], [some (.cells [.p (.list b.n0 (b.l.map Ck.pv))]), some (AO.buf 3 false (g.map pI))]⟩) (fun (⟨j, g⟩ : Nat × List Int) => j ≤ b.cs.length ∧ GrOK b ((ps.take i).map (·.2)) g ∧ GrAt b g ps[i].2 j) (fun (⟨j, g⟩ : Nat × List Int) => b.cs.length - j) (0, g) ?_ ?_ ?_; (refine SubA.thawed _ [2] [15] ?_; refine SubA.auto rfl rfl rfl rfl ?_ ?_ <;> repeat' (first | exact trivial | refine And.intro ?_ ?_ | with_reducible rfl | (refine pIEq ?_; exact ar_) | (refine bufMap ?_) | (refine bufNil ?_) | (refine bufEq ?_) | rfl))
    · exact ⟨by omega, hg, fun k _ _ hk => by omega⟩
    clear hg hgl
    rintro ⟨j, g⟩ ⟨hj, hg, hga⟩
    try simp only at hj hg hga
    have hgl := hg.ln
    rcases Nat.lt_or_ge j b.cs.length with hjl | hjg
    · obtain ⟨hx1, hx2, hx3⟩ := hb.cs _ (List.getElem_mem hjl)
      have hck : b.cs[j].clk.toNat < b.l.length := by omega
      have hgr : rtA b.l ps[i].2 b.cs[j].clk = (rts b.l ps[i].2)[b.cs[j].clk.toNat]'(by omega) := getD_at _
      have hn := needed_call b.cs[j] ((rts b.l ps[i].2)[b.cs[j].clk.toNat]'(by omega)) hx3
      have hgj := hg.rg j (by omega)
      rcases hnf : needF b.cs[j].pts (rtA b.l ps[i].2 b.cs[j].clk) with _ | v
      · have hnf' := hnf
        rw [hgr] at hnf'
        rw [hnf'] at hn
        replace hn : ACall _ _ _ _ fun r' H => r' = .tup [.p (pI 0), .p (pB false)] ∧ H = [] := hn
        (conv => whnf); repeat' ((first | apply CondA.plain | refine' gC | refine' gpI | refine' gpB | refine' gCkpv | refine' gSuppv | refine' gScapv | refine' gDrpv | refine' gpR | refine' gE | fail) <;> (conv => whnf))
        refine DrawA.retire 18 2 [pI b.cs[j].clk, pI b.cs[j].sup, .list b.cs[j].pn (b.cs[j].pts.map Pt.pv)] rfl rfl ?_
        (conv => whnf); repeat' ((first | apply CondA.plain | refine' gC | refine' gpI | refine' gpB | refine' gCkpv | refine' gSuppv | refine' gScapv | refine' gDrpv | refine' gpR | refine' gE | (apply DrawA.orders raF (by kernel_rfl) (by kernel_rfl) (by decide +kernel)) | (refine CallA.scalar2 hn ?_)) <;> (conv => whnf))
        (refine' RetK.auto (.tup [.p (.list true []), .p (pI 9)]) ([]) rfl rfl rfl rfl _ _ _ <;> repeat' (first | exact trivial | refine And.intro ?_ ?_ | with_reducible rfl | (refine pIEq ?_; exact ar_) | (refine bufMap ?_) | (refine bufNil ?_) | (refine bufEq ?_) | rfl))
        exact .inr rfl
      · have hnf' := hnf
        rw [hgr] at hnf'
        rw [hnf'] at hn
        replace hn : ACall _ _ _ _ fun r' H => r' = .tup [.p (pI v), .p (pB true)] ∧ H = [] := hn
        have hv := vol_range hx3 hnf
        have hga2 := hga.next hjl (by omega) hnf
        have hg2 := hg.set (k := j) (v := max (g[j]'(by omega)) v) (by omega) (Int.le_max_left _ _) (by omega)
        (conv => whnf); repeat' ((first | apply CondA.plain | refine' gC | refine' gpI | refine' gpB | refine' gCkpv | refine' gSuppv | refine' gScapv | refine' gDrpv | refine' gpR | refine' gE | fail) <;> (conv => whnf))
        refine DrawA.retire 18 2 [pI b.cs[j].clk, pI b.cs[j].sup, .list b.cs[j].pn (b.cs[j].pts.map Pt.pv)] rfl rfl ?_
        (conv => whnf); repeat' ((first | apply CondA.plain | refine' gC | refine' gpI | refine' gpB | refine' gCkpv | refine' gSuppv | refine' gScapv | refine' gDrpv | refine' gpR | refine' gE | (apply DrawA.orders raF (by kernel_rfl) (by kernel_rfl) (by decide +kernel)) | (refine CallA.scalar2 hn ?_)) <;> (conv => whnf))
        (refine' ⟨(j + 1, g.set j (max (g[j]'(by omega)) v)), _, _, _⟩; rotate_right; (refine SubA.auto rfl rfl rfl rfl ?_ ?_ <;> repeat' (first | exact trivial | refine And.intro ?_ ?_ | with_reducible rfl | (refine pIEq ?_; exact ar_) | (refine bufMap ?_) | (refine bufNil ?_) | (refine bufEq ?_) | rfl)); rotate_right; exact ar2_)
        all_goals first | exact ⟨by omega, hg2, hga2⟩ | exact congrArg (g.set j ·) (by split <;> omega)
    · have hja : GrAt b g ps[i].2 b.cs.length := fun k h h' _ => hga k h h' (by omega)
      (conv => whnf); repeat' ((first | apply CondA.plain | refine' gC | refine' gpI | refine' gpB | refine' gCkpv | refine' gSuppv | refine' gScapv | refine' gDrpv | refine' gpR | refine' gE | fail) <;> (conv => whnf))
      (refine' ⟨(i + 1, g), _, _, _⟩; rotate_right; (refine SubA.auto rfl rfl rfl rfl ?_ ?_ <;> repeat' (first | exact trivial | refine And.intro ?_ ?_ | with_reducible rfl | (refine pIEq ?_; exact ar_) | (refine bufMap ?_) | (refine bufNil ?_) | (refine bufEq ?_) | rfl)); rotate_right; exact ar2_)
      refine ⟨by omega, hg.ln, hg.rg, fun s hs => ?_⟩
      rw [List.take_succ_eq_append_getElem hlt, List.map_append, List.mem_append] at hs
      rcases hs with hs | hs
      · exact hg.al s hs
      · simp at hs
        rw [hs]; exact hja
  have hi' : i = ps.length := by omega
  subst hi'
  rw [List.take_length] at hg
  (conv => whnf); repeat' ((first | apply CondA.plain | refine' gC | refine' gpI | refine' gpB | refine' gCkpv | refine' gSuppv | refine' gScapv | refine' gDrpv | refine' gpR | refine' gE | ((refine CallA.loc [] [] rfl rfl ((CloneD_call b.n3 b.d (by omega)).mono ?_); rintro _ _ ⟨nd, rfl, rfl⟩))) <;> (conv => whnf))
  refine loop_rule (fun (⟨j, ex, nb⟩ : Nat × List Dr × Bool) => ⟨[(12, .buf 0), (21, .buf 1), (87, .p (.list b.n4 (b.cs.map Sca.pv))), (88, .p (pI b.cs.length)), (89, .p (pI j))], [some (AO.buf 3 false (g.map pI)), some (AO.buf 71 nb ((b.d ++ ex).map Dr.pv))]⟩) (fun (⟨j, ex, nb⟩ : Nat × List Dr × Bool) => j ≤ b.cs.length ∧ ex.length ≤ j ∧ (∀ y ∈ ex, DrV b.q.length y) ∧ ∀ (k : Nat) (h : k < b.cs.length) (h' : k < g.length), k < j → 0 < g[k] → ∃ y ∈ ex, y.sup = b.cs[k].sup ∧ g[k] ≤ y.lo) (fun (⟨j, ex, nb⟩ : Nat × List Dr × Bool) => b.cs.length - j) (0, [], nd) ?_ ?_ ?_; (refine SubA.auto rfl rfl rfl rfl ?_ ?_ <;> repeat' (first | exact trivial | refine And.intro ?_ ?_ | with_reducible rfl | (refine pIEq ?_; exact ar_) | (refine bufMap ?_) | (refine bufNil ?_) | (refine bufEq ?_) | rfl))
  · simp
  · exact ⟨by omega, by simp, fun y hy => (by cases hy), fun k _ _ hk => by omega⟩
  rintro ⟨j, ex, nb⟩ ⟨hj, hel, hev, hek⟩
  try simp only at hj hel hev hek
  rcases Nat.lt_or_ge j b.cs.length with hjl | hjg
  · obtain ⟨hx1, hx2, hx3⟩ := hb.cs _ (List.getElem_mem hjl)
    have hgj := hg.rg j (by omega)
    (conv => whnf); repeat' ((first | apply CondA.plain | refine' gC | refine' gpI | refine' gpB | refine' gCkpv | refine' gSuppv | refine' gScapv | refine' gDrpv | refine' gpR | refine' gE | fail) <;> (conv => whnf))
    · refine DrawA.retire 23 2 [pI b.cs[j].clk, pI b.cs[j].sup, .list b.cs[j].pn (b.cs[j].pts.map Pt.pv)] rfl rfl ?_
      (conv => whnf); repeat' ((first | apply CondA.plain | refine' gC | refine' gpI | refine' gpB | refine' gCkpv | refine' gSuppv | refine' gScapv | refine' gDrpv | refine' gpR | refine' gE | (apply DrawA.orders raG (by kernel_rfl) (by kernel_rfl) (by decide +kernel))) <;> (conv => whnf))
      (refine' ⟨(j + 1, ex ++ [⟨b.cs[j].sup, g[j]'(by omega), 5000, 0⟩], _), _, _, _⟩; rotate_right; (refine SubA.auto rfl rfl rfl rfl ?_ ?_ <;> repeat' (first | exact trivial | refine And.intro ?_ ?_ | with_reducible rfl | (refine pIEq ?_; exact ar_) | (refine bufMap ?_) | (refine bufNil ?_) | (refine bufEq ?_) | rfl)); rotate_right; exact ar2_)
      · rw [List.append_assoc]
      refine ⟨by omega, by simp; omega, fun y hy => ?_, fun k h h' hk h0 => ?_⟩
      · rcases List.mem_append.1 hy with hy | hy
        · exact hev y hy
        · simp only [List.mem_singleton] at hy
          subst hy
          exact ⟨⟨hx2.1, by show b.cs[j].sup < _; omega⟩, ⟨by show (0 : Int) ≤ 5000; omega, by show (5000 : Int) ≤ 5000; omega⟩, ⟨hgj.1, hgj.2⟩, by show (0 : Int) ≤ 0; omega, by show (0 : Int) ≤ 10000; omega⟩
      · rcases Nat.lt_or_ge k j with h1 | h1
        · obtain ⟨y, hy, e1, e2⟩ := hek k h h' h1 h0
          exact ⟨y, List.mem_append_left _ hy, e1, e2⟩
        · obtain rfl : k = j := by omega
          exact ⟨_, List.mem_append_right _ (List.mem_singleton.2 rfl), rfl, Int.le_refl _⟩
    · (refine' ⟨(j + 1, ex, nb), _, _, _⟩; rotate_right; (refine SubA.auto rfl rfl rfl rfl ?_ ?_ <;> repeat' (first | exact trivial | refine And.intro ?_ ?_ | with_reducible rfl | (refine pIEq ?_; exact ar_) | (refine bufMap ?_) | (refine bufNil ?_) | (refine bufEq ?_) | rfl)); rotate_right; exact ar2_)
      refine ⟨by omega, by omega, hev, fun k h h' hk h0 => ?_⟩
      rcases Nat.lt_or_ge k j with h1 | h1
      · exact hek k h h' h1 h0
      · obtain rfl : k = j := by omega
        omega
  · (conv => whnf); repeat' ((first | apply CondA.plain | refine' gC | refine' gpI | refine' gpB | refine' gCkpv | refine' gSuppv | refine' gScapv | refine' gDrpv | refine' gpR | refine' gE | fail) <;> (conv => whnf))
    have hout : (b.d ++ ex).length ≤ 32 := by simp; omega
    · omega
    (refine RetK.frz _ _ _ [1] ?_; refine' RetK.auto (.tup [.p (.list nb ((b.d ++ ex).map Dr.pv)), .p (pI 0)]) ([]) rfl rfl rfl rfl _ _ _ <;> repeat' (first | exact trivial | refine And.intro ?_ ?_ | with_reducible rfl | (refine pIEq ?_; exact ar_) | (refine bufMap ?_) | (refine bufNil ?_) | (refine bufEq ?_) | rfl))
    refine .inl ⟨b.d ++ ex, nb, rfl, ⟨by simp; omega, fun x hx => ?_⟩, ex, rfl, fun s hs x hx => ?_⟩
    · rcases List.mem_append.1 hx with hx | hx
      · exact hb.d.2 x hx
      · exact hev x hx
    · obtain ⟨k, hk, rfl⟩ := List.getElem_of_mem hx
      obtain ⟨v, h1, h2⟩ := hg.al s hs k hk (by omega) hk
      refine ⟨v, h1, fun h0 => ?_⟩
      obtain ⟨y, hy, e1, e2⟩ := hek k hk (by omega) (by omega) (by omega)
      exact ⟨y, hy, e1, by omega⟩
open Go.Abs
set_option maxRecDepth 100000
def fW (p : Bool × List Wr) : PV := .list p.1 (p.2.map Wr.pv)
theorem GrowW_call (n : Nat) (hn : n ≤ 1000000) : ACall Tryz.prog 101 [.p (.list true []), .p (pI n)] [] fun r H => n = 0 ∧ r = .p (.list true []) ∧ H = [] ∨ 0 < n ∧ r = .buf 0 ∧ H = [some (AO.buf 124 false [])] := by
  refine acall_enter Tryz.func101 rfl rfl tabOK rfl ?_
  rcases Nat.eq_zero_or_pos n with hz | hz
  · subst hz
    (conv => whnf); repeat' ((first | ((refine LenA.mk 0 rfl ?_; intro _)) | apply CondA.plain | refine' gC | refine' gpI | refine' gpB | refine' gWrpv | refine' gfW | refine' gE | (apply DrawA.quiet (by kernel_rfl) (by kernel_rfl); (conv => whnf); fail_if_success (show False))) <;> (conv => whnf))
    (refine' RetK.auto (.p (.list true [])) ([]) rfl rfl rfl rfl _ _ _ <;> repeat' (first | exact trivial | refine And.intro ?_ ?_ | with_reducible rfl | (refine pIEq ?_; exact ar_) | (refine bufMap ?_) | (refine bufNil ?_) | (refine bufEq ?_) | rfl))
    exact .inl ⟨rfl, rfl, rfl⟩
  · (conv => whnf); repeat' ((first | ((refine LenA.mk 0 rfl ?_; intro _)) | (refine CutO.own ?_) | (refine SzA.mk (fun x hx => by cases hx) ?_) | (refine CutA.mk [] (by decide) rfl ?_) | apply CondA.plain | refine' gC | refine' gpI | refine' gpB | refine' gWrpv | refine' gfW | refine' gE | (apply DrawA.quiet (by kernel_rfl) (by kernel_rfl); (conv => whnf); fail_if_success (show False))) <;> (conv => whnf))
    (refine' RetK.auto (.buf 0) ([some (AO.buf 124 false [])]) rfl rfl rfl rfl _ _ _ <;> repeat' (first | exact trivial | refine And.intro ?_ ?_ | with_reducible rfl | (refine pIEq ?_; exact ar_) | (refine bufMap ?_) | (refine bufNil ?_) | (refine bufEq ?_) | rfl))
    exact .inr ⟨hz, rfl, rfl⟩
def catW (ls : List (Bool × List Wr)) : List Wr := ls.flatMap (·.2)
theorem catW_take {ls : List (Bool × List Wr)} {c : Nat} (h : c < ls.length) : catW (ls.take (c + 1)) = catW (ls.take c) ++ ls[c].2 := by
  unfold catW
  rw [List.take_succ_eq_append_getElem h, List.flatMap_append]
  simp only [List.flatMap_cons, List.flatMap_nil, List.append_nil]
theorem catW_le {ls : List (Bool × List Wr)} (c : Nat) : (catW (ls.take c)).length ≤ (catW ls).length := by
  have : catW ls = catW (ls.take c) ++ catW (ls.drop c) := by
    unfold catW
    rw [← List.flatMap_append, List.take_append_drop]
  rw [this, List.length_append]; omega
theorem ConcatW_call (nb : Bool) (ls : List (Bool × List Wr)) (h : (catW ls).length ≤ 100000) : Pure Tryz.prog 50 [.p (.list nb (ls.map fW))] (R1 Wr.pv (catW ls)) := by
  refine acall_enter Tryz.func50 rfl rfl tabOK rfl ?_
  (conv => whnf); repeat' ((first | apply CondA.plain | refine' gC | refine' gpI | refine' gpB | refine' gWrpv | refine' gfW | refine' gE | (apply DrawA.quiet (by kernel_rfl) (by kernel_rfl); (conv => whnf); fail_if_success (show False))) <;> (conv => whnf))
  refine loop_rule (fun (c : Nat) => ⟨[(0, .p (.list nb (ls.map fW))), (3, .p (pI (catW (ls.take c)).length)), (9, .p (.list nb (ls.map fW))), (10, .p (pI ls.length)), (11, .p (pI c))], []⟩) (fun (c : Nat) => c ≤ ls.length) (fun (c : Nat) => ls.length - c) 0 ?_ ?_ ?_; (refine SubA.auto rfl rfl rfl rfl ?_ ?_ <;> repeat' (first | exact trivial | refine And.intro ?_ ?_ | with_reducible rfl | (refine pIEq ?_; exact ar_) | (refine bufMap ?_) | (refine bufNil ?_) | (refine bufEq ?_) | rfl))
  · exact Nat.zero_le _
  rintro c hc
  rcases Nat.lt_or_ge c ls.length with hlt | hge
  · obtain ⟨⟨b, x⟩, hx⟩ : ∃ x, ls[c] = x := ⟨_, rfl⟩
    have hx1 : ls[((c : Nat) : Int).toNat]? = some (b, x) := by rw [Int.toNat_natCast, List.getElem?_eq_getElem hlt, hx]
    have hs := catW_take hlt
    rw [hx] at hs
    have hs : (catW (ls.take (c + 1))).length = (catW (ls.take c)).length + x.length := by rw [hs, List.length_append]
    have hle := catW_le (ls := ls) (c + 1)
    (conv => whnf); repeat' ((first | (apply IdxA.at_ (f := fW) (b, x) (Int.natCast_nonneg c) hx1) | apply CondA.plain | refine' gC | refine' gpI | refine' gpB | refine' gWrpv | refine' gfW | refine' gE | (apply DrawA.quiet (by kernel_rfl) (by kernel_rfl); (conv => whnf); fail_if_success (show False))) <;> (conv => whnf))
    (refine' ⟨c + 1, _, _, _⟩; rotate_right; (refine SubA.auto rfl rfl rfl rfl ?_ ?_ <;> repeat' (first | exact trivial | refine And.intro ?_ ?_ | with_reducible rfl | (refine pIEq ?_; exact ar_) | (refine bufMap ?_) | (refine bufNil ?_) | (refine bufEq ?_) | rfl)); rotate_right; exact ar2_)
    exact hlt
  obtain rfl : c = ls.length := by omega
  rw [List.take_length]
  obtain ⟨N, hN⟩ : ∃ N, (catW ls).length = N := ⟨_, rfl⟩
  rw [hN]
  rw [hN] at h
  (conv => whnf); repeat' ((first | apply CondA.plain | refine' gC | refine' gpI | refine' gpB | refine' gWrpv | refine' gfW | refine' gE | (apply DrawA.quiet (by kernel_rfl) (by kernel_rfl); (conv => whnf); fail_if_success (show False))) <;> (conv => whnf))
  refine CallA.loc [] [] rfl rfl ((GrowW_call N (by omega)).mono ?_)
  rintro _ _ (⟨hz, rfl, rfl⟩ | ⟨hz, rfl, rfl⟩)
  · (conv => whnf); repeat' ((first | apply CondA.plain | refine' gC | refine' gpI | refine' gpB | refine' gWrpv | refine' gfW | refine' gE | (apply DrawA.quiet (by kernel_rfl) (by kernel_rfl); (conv => whnf); fail_if_success (show False))) <;> (conv => whnf))
    refine loop_rule (fun (⟨c, nw, o⟩ : Nat × Bool × List Wr) => ⟨[(6, .buf 0), (25, .p (.list nb (ls.map fW))), (26, .p (pI ls.length)), (27, .p (pI c))], [some (AO.buf 124 nw (o.map Wr.pv))]⟩) (fun (⟨c, nw, o⟩ : Nat × Bool × List Wr) => c ≤ ls.length ∧ o = catW (ls.take c)) (fun (⟨c, nw, o⟩ : Nat × Bool × List Wr) => ls.length - c) (0, true, []) ?_ ?_ ?_; (refine SubA.auto1 (124, 6) rfl rfl rfl rfl rfl ?_ ?_ <;> repeat' (first | exact trivial | refine And.intro ?_ ?_ | with_reducible rfl | (refine pIEq ?_; exact ar_) | (refine bufMap ?_) | (refine bufNil ?_) | (refine bufEq ?_) | rfl))
    · exact ⟨Nat.zero_le _, rfl⟩
    rintro ⟨c, nw, o⟩ ⟨hc2, ho⟩
    have hle := catW_le (ls := ls) c
    rcases Nat.lt_or_ge c ls.length with hlt | hge2
    · obtain ⟨⟨b, x⟩, hx⟩ : ∃ x, ls[c] = x := ⟨_, rfl⟩
      have hx1 : ls[((c : Nat) : Int).toNat]? = some (b, x) := by rw [Int.toNat_natCast, List.getElem?_eq_getElem hlt, hx]
      have hs := catW_take hlt
      rw [hx, ← ho] at hs
      have hle2 := catW_le (ls := ls) (c + 1)
      rw [hs, List.length_append] at hle2
      (conv => whnf); repeat' ((first | (apply IdxA.at_ (f := fW) (b, x) (Int.natCast_nonneg c) hx1) | apply CondA.plain | refine' gC | refine' gpI | refine' gpB | refine' gWrpv | refine' gfW | refine' gE | (apply DrawA.quiet (by kernel_rfl) (by kernel_rfl); (conv => whnf); fail_if_success (show False))) <;> (conv => whnf))
      (refine' ⟨(c + 1, _, o ++ x), _, _, _⟩; rotate_right; (refine SubA.auto rfl rfl rfl rfl ?_ ?_ <;> repeat' (first | exact trivial | refine And.intro ?_ ?_ | with_reducible rfl | (refine pIEq ?_; exact ar_) | (refine bufMap ?_) | (refine bufNil ?_) | (refine bufEq ?_) | rfl)); rotate_right; exact ar2_)
      exact ⟨by omega, hs.symm⟩
    · rw [List.take_of_length_le hge2] at ho
      (conv => whnf); repeat' ((first | apply CondA.plain | refine' gC | refine' gpI | refine' gpB | refine' gWrpv | refine' gfW | refine' gE | (apply DrawA.quiet (by kernel_rfl) (by kernel_rfl); (conv => whnf); fail_if_success (show False))) <;> (conv => whnf))
      (first | (apply RetK.r1; exact rfl; exact (fun _ => flat_ofB rfl)) | apply RetK.r1n | (apply RetK.r2; exact rfl; exact (fun _ => flat_ofB rfl)) | apply RetK.r2n | (apply RetK.r3; exact rfl; exact (fun _ => flat_ofB rfl)) | apply RetK.r3n) <;> exact ho
  · (conv => whnf); repeat' ((first | apply CondA.plain | refine' gC | refine' gpI | refine' gpB | refine' gWrpv | refine' gfW | refine' gE | (apply DrawA.quiet (by kernel_rfl) (by kernel_rfl); (conv => whnf); fail_if_success (show False))) <;> (conv => whnf))
    refine loop_rule (fun (⟨c, nw, o⟩ : Nat × Bool × List Wr) => ⟨[(6, .buf 0), (25, .p (.list nb (ls.map fW))), (26, .p (pI ls.length)), (27, .p (pI c))], [some (AO.buf 124 nw (o.map Wr.pv))]⟩) (fun (⟨c, nw, o⟩ : Nat × Bool × List Wr) => c ≤ ls.length ∧ o = catW (ls.take c)) (fun (⟨c, nw, o⟩ : Nat × Bool × List Wr) => ls.length - c) (0, false, []) ?_ ?_ ?_; (refine SubA.auto rfl rfl rfl rfl ?_ ?_ <;> repeat' (first | exact trivial | refine And.intro ?_ ?_ | with_reducible rfl | (refine pIEq ?_; exact ar_) | (refine bufMap ?_) | (refine bufNil ?_) | (refine bufEq ?_) | rfl))
    · exact ⟨Nat.zero_le _, rfl⟩
    rintro ⟨c, nw, o⟩ ⟨hc2, ho⟩
    have hle := catW_le (ls := ls) c
    rcases Nat.lt_or_ge c ls.length with hlt | hge2
    · obtain ⟨⟨b, x⟩, hx⟩ : ∃ x, ls[c] = x := ⟨_, rfl⟩
      have hx1 : ls[((c : Nat) : Int).toNat]? = some (b, x) := by rw [Int.toNat_natCast, List.getElem?_eq_getElem hlt, hx]
      have hs := catW_take hlt
      rw [hx, ← ho] at hs
      have hle2 := catW_le (ls := ls) (c + 1)
      rw [hs, List.length_append] at hle2
      (conv => whnf); repeat' ((first | (apply IdxA.at_ (f := fW) (b, x) (Int.natCast_nonneg c) hx1) | apply CondA.plain | refine' gC | refine' gpI | refine' gpB | refine' gWrpv | refine' gfW | refine' gE | (apply DrawA.quiet (by kernel_rfl) (by kernel_rfl); (conv => whnf); fail_if_success (show False))) <;> (conv => whnf))
      (refine' ⟨(c + 1, _, o ++ x), _, _, _⟩; rotate_right; (refine SubA.auto rfl rfl rfl rfl ?_ ?_ <;> repeat' (first | exact trivial | refine And.intro ?_ ?_ | with_reducible rfl | (refine pIEq ?_; exact ar_) | (refine bufMap ?_) | (refine bufNil ?_) | (refine bufEq ?_) | rfl)); rotate_right; exact ar2_)
      exact ⟨by omega, hs.symm⟩
    · rw [List.take_of_length_le hge2] at ho
      (conv => whnf); repeat' ((first | apply CondA.plain | refine' gC | refine' gpI | refine' gpB | refine' gWrpv | refine' gfW | refine' gE | (apply DrawA.quiet (by kernel_rfl) (by kernel_rfl); (conv => whnf); fail_if_success (show False))) <;> (conv => whnf))
      (first | (apply RetK.r1; exact rfl; exact (fun _ => flat_ofB rfl)) | apply RetK.r1n | (apply RetK.r2; exact rfl; exact (fun _ => flat_ofB rfl)) | apply RetK.r2n | (apply RetK.r3; exact rfl; exact (fun _ => flat_ofB rfl)) | apply RetK.r3n) <;> exact ho
open Go.Abs
set_option maxRecDepth 100000
theorem path_mem {s : List Int} {ws : List Wr} {k : Nat} (h : k ≤ ws.length) : (ws.take k).foldl applyC s ∈ pathF s ws ws.length := List.mem_map.2 ⟨k, by simp; omega, rfl⟩
theorem path_ok {l : List Ck} {s : List Int} {ws : List Wr} (hs : SetOK l s) (hw : ∀ w ∈ ws, CwV l w) {x : List Int} (h : x ∈ pathF s ws ws.length) : SetOK l x := by
  obtain ⟨k, _, rfl⟩ := List.mem_map.1 h
  exact way_set _ hs fun w hwm => hw w (List.mem_of_mem_take hwm)
set_option maxHeartbeats 8000000 in
theorem pPlan_call (b : Bo) (n1 n2 : Bool) (s t : List Int) (ra rb : Rq) (hb : BoOK b) (hs : SetOK b.l s) (ht : SetOK b.l t) (h1 : Snd b s ra.r) (h2 : Snd b t rb.r) (hsum : b.d.length + b.cs.length ≤ 32) : ACall Tryz.prog 16 [.p (.list b.n0 (b.l.map Ck.pv)), .p (.list b.n1 (b.q.map Sup.pv)), .p (.list n1 (s.map pI)), .p (.list n2 (t.map pI)), .p ra.pv, .p rb.pv, .p (.list true []), .p (.list b.n3 (b.d.map Dr.pv)), .p (.list b.n4 (b.cs.map Sca.pv))] [] fun r H => H = [] ∧ ((∃ (ws : List Wr) (nb : Bool), r = .tup [.p (.list nb (ws.map Wr.pv)), .p (pI 0)] ∧ Way stepP (WV b) (SndP b) (s, ra.r) ws) ∨ r = .tup [.p (.list true []), .p (pI 9)]) := by
  refine acall_enter Tryz.func16 rfl rfl tabOK rfl ?_
  (conv => whnf); repeat' ((first | apply CondA.plain | refine' gC | refine' gpI | refine' gpB | refine' gCkpv | refine' gSuppv | refine' gScapv | refine' gDrpv | refine' gWrpv | refine' gfW | refine' gE | (apply DrawA.quiet (by kernel_rfl) (by kernel_rfl); (conv => whnf); fail_if_success (show False)) | (refine CallA.scalar (bvalid_call b n1 s ra hb hs h1.2.1.rv) ?_) | (refine CallA.scalar (bvalid_call b n2 t rb hb ht h2.2.1.rv) ?_) | ((refine call_exB (sound_call b n1 s ra hb hs h1.2.1.rv) ?_; intro b1 hb1; obtain rfl : b1 = true := hb1.2 h1)) | ((refine call_exB (sound_call b n2 t rb hb ht h2.2.1.rv) ?_; intro b1 hb1; obtain rfl : b1 = true := hb1.2 h2))) <;> (conv => whnf))
  refine CallA.loc [] [] rfl rfl ((cPlan_call b.n0 n1 n2 b.l s t hb.l hs ht h1.1 h2.1).mono ?_)
  rintro _ _ ⟨rfl, ⟨ws, bw, rfl, hw, hwe, hwl⟩ | rfl⟩
  rotate_left
  · (conv => whnf); repeat' ((first | apply CondA.plain | refine' gC | refine' gpI | refine' gpB | refine' gCkpv | refine' gSuppv | refine' gScapv | refine' gDrpv | refine' gWrpv | refine' gfW | refine' gE | (apply DrawA.quiet (by kernel_rfl) (by kernel_rfl); (conv => whnf); fail_if_success (show False))) <;> (conv => whnf))
    (refine' RetK.auto (.tup [.p (.list true []), .p (pI 9)]) ([]) rfl rfl rfl rfl _ _ _ <;> repeat' (first | exact trivial | refine And.intro ?_ ?_ | with_reducible rfl | (refine pIEq ?_; exact ar_) | (refine bufMap ?_) | (refine bufNil ?_) | (refine bufEq ?_) | rfl))
    exact .inr rfl
  (conv => whnf); repeat' ((first | apply CondA.plain | refine' gC | refine' gpI | refine' gpB | refine' gCkpv | refine' gSuppv | refine' gScapv | refine' gDrpv | refine' gWrpv | refine' gfW | refine' gE | (apply DrawA.quiet (by kernel_rfl) (by kernel_rfl); (conv => whnf); fail_if_success (show False)) | ((refine CallA.loc [] [] rfl rfl ((Settings_call b.n0 n1 bw b.l s ws hb.l hs hw.1 hwl).mono ?_); rintro _ _ ⟨rfl, b4, ps, rfl, hps⟩))) <;> (conv => whnf))
  have hpo : ∀ p ∈ ps, SetOK b.l p.2 := fun p hp => path_ok hs hw.1 (by rw [← hps]; exact List.mem_map_of_mem hp)
  have hpl : ps.length ≤ 100000 := by
    have := congrArg List.length hps
    rw [len_path] at this
    simp at this
    omega
  refine CallA.loc [] [] rfl rfl ((Raise_call b b4 ps hb hpo hsum hpl).mono ?_)
  rintro _ _ ⟨rfl, ⟨out, nb, rfl, hR⟩ | rfl⟩
  rotate_left
  · (conv => whnf); repeat' ((first | apply CondA.plain | refine' gC | refine' gpI | refine' gpB | refine' gCkpv | refine' gSuppv | refine' gScapv | refine' gDrpv | refine' gWrpv | refine' gfW | refine' gE | (apply DrawA.quiet (by kernel_rfl) (by kernel_rfl); (conv => whnf); fail_if_success (show False))) <;> (conv => whnf))
    (refine' RetK.auto (.tup [.p (.list true []), .p (pI 9)]) ([]) rfl rfl rfl rfl _ _ _ <;> repeat' (first | exact trivial | refine And.intro ?_ ?_ | with_reducible rfl | (refine pIEq ?_; exact ar_) | (refine bufMap ?_) | (refine bufNil ?_) | (refine bufEq ?_) | rfl))
    exact .inr rfl
  (conv => whnf); repeat' ((first | apply CondA.plain | refine' gC | refine' gpI | refine' gpB | refine' gCkpv | refine' gSuppv | refine' gScapv | refine' gDrpv | refine' gWrpv | refine' gfW | refine' gE | (apply DrawA.quiet (by kernel_rfl) (by kernel_rfl); (conv => whnf); fail_if_success (show False))) <;> (conv => whnf))
  refine CallA.loc [] [] rfl rfl ((Least_call b.n1 nb b.q out hb.q hR.ok).mono ?_)
  rintro _ _ ⟨rl, m1, m3, e, pre, f, rfl, rfl, hdm, he0, hen⟩
  by_cases he : e = 0
  rotate_left
  · obtain ⟨rfl, _⟩ := hen he
    (conv => whnf); repeat' ((first | apply CondA.plain | refine' gC | refine' gpI | refine' gpB | refine' gCkpv | refine' gSuppv | refine' gScapv | refine' gDrpv | refine' gWrpv | refine' gfW | refine' gE | (apply DrawA.quiet (by kernel_rfl) (by kernel_rfl); (conv => whnf); fail_if_success (show False))) <;> (conv => whnf))
    (refine' RetK.auto (.tup [.p (.list true []), .p (pI 9)]) ([]) rfl rfl rfl rfl _ _ _ <;> repeat' (first | exact trivial | refine And.intro ?_ ?_ | with_reducible rfl | (refine pIEq ?_; exact ar_) | (refine bufMap ?_) | (refine bufNil ?_) | (refine bufEq ?_) | rfl))
    exact .inr rfl
  subst he
  obtain ⟨_, _, hm⟩ := he0 rfl
  clear hdm he0 hen
  have hj1 := rv_join hm.rv h2.2.1.rv
  have htm := Meet.join hb.q h1.2.1 (Meet.join hb.q (hR.less hm) h2.2.1)
  obtain ⟨top, htop⟩ : ∃ top, top = joinR ra.r (joinR rl rb.r) := ⟨_, rfl⟩
  rw [← htop] at htm
  (conv => whnf); repeat' ((first | apply CondA.plain | refine' gC | refine' gpI | refine' gpB | refine' gCkpv | refine' gSuppv | refine' gScapv | refine' gDrpv | refine' gWrpv | refine' gfW | refine' gE | (apply DrawA.quiet (by kernel_rfl) (by kernel_rfl); (conv => whnf); fail_if_success (show False)) | ((refine CallA.loc [] [] rfl rfl ((Join_call b.n1 b.q ⟨m1, m3, rl⟩ rb hb.q hm.rv h2.2.1.rv).mono ?_); rintro _ _ ⟨c1, c2, rfl, rfl⟩))) <;> (conv => whnf))
  refine CallA.loc [] [] rfl rfl ((Join_call b.n1 b.q ra ⟨c1, c2, joinR rl rb.r⟩ hb.q h1.2.1.rv hj1).mono ?_)
  rintro _ _ ⟨c3, c4, rfl, rfl⟩
  rw [← htop]
  (conv => whnf); repeat' ((first | apply CondA.plain | refine' gC | refine' gpI | refine' gpB | refine' gCkpv | refine' gSuppv | refine' gScapv | refine' gDrpv | refine' gWrpv | refine' gfW | refine' gE | (apply DrawA.quiet (by kernel_rfl) (by kernel_rfl); (conv => whnf); fail_if_success (show False))) <;> (conv => whnf))
  refine CallA.loc [] [] rfl rfl ((Plan_call b.n1 b.n3 b.q b.d ra ⟨c3, c4, top⟩ hb.q h1.2.1 htm).mono ?_)
  rintro _ _ ⟨up, cu, rfl, rfl, hup, hupe, hupl⟩
  (conv => whnf); repeat' ((first | apply CondA.plain | refine' gC | refine' gpI | refine' gpB | refine' gCkpv | refine' gSuppv | refine' gScapv | refine' gDrpv | refine' gWrpv | refine' gfW | refine' gE | (apply DrawA.quiet (by kernel_rfl) (by kernel_rfl); (conv => whnf); fail_if_success (show False))) <;> (conv => whnf))
  refine CallA.loc [] [] rfl rfl ((Plan_call b.n1 b.n3 b.q b.d ⟨c3, c4, top⟩ rb hb.q htm h2.2.1).mono ?_)
  rintro _ _ ⟨dn, cd, rfl, rfl, hdn, hdne, hdnl⟩
  have hcat : catW [(cu, up), (bw, ws), (cd, dn)] = up ++ (ws ++ dn) := by simp [catW]
  have hway := plan_sound hb hs h1 h2 hw hwe hR (fun k hk => by rw [hps]; exact path_mem hk) hm htop hup hupe hdn hdne
  rw [← hcat] at hway
  have hcl : (catW [(cu, up), (bw, ws), (cd, dn)]).length ≤ 100000 := by
    rw [hcat]
    simp only [List.length_append]
    omega
  (conv => whnf); repeat' ((first | (refine IsL.lit (f := fW) [(cu, up), (bw, ws), (cd, dn)] rfl ?_) | apply CondA.plain | refine' gC | refine' gpI | refine' gpB | refine' gCkpv | refine' gSuppv | refine' gScapv | refine' gDrpv | refine' gWrpv | refine' gfW | refine' gE | ((refine CallA.fresh _ (ConcatW_call _ [(cu, up), (bw, ws), (cd, dn)] hcl) ?_; rintro _ ⟨n9, rfl⟩))) <;> (conv => whnf))
  (refine' RetK.auto (.tup [.p (.list n9 ((catW [(cu, up), (bw, ws), (cd, dn)]).map Wr.pv)), .p (pI 0)]) ([]) rfl rfl rfl rfl _ _ _ <;> repeat' (first | exact trivial | refine And.intro ?_ ?_ | with_reducible rfl | (refine pIEq ?_; exact ar_) | (refine bufMap ?_) | (refine bufNil ?_) | (refine bufEq ?_) | rfl))
  exact .inl ⟨_, n9, rfl, hway⟩
end Go.Proofs.YtbcndmkgjdoojaaGreatDoor
