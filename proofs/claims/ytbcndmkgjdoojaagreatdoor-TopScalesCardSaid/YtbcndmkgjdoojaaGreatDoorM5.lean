/- Whatever the list of numbers, TopScales returns true, and its argument reads as it did; its package variables are tied to the program's text. Part 5 of 7. -/
import Derived.Test.YtbcndmkgjdoojaaGreatDoorM4
set_option linter.unusedSimpArgs false
set_option linter.unusedVariables false
set_option linter.unnecessarySimpa false
namespace Go.Proofs.YtbcndmkgjdoojaaGreatDoor
open Go.Abs
theorem gDrpv {P : Prop} (h : P := by
  (first | ((first | apply AppA.snoc (f := Dr.pv) (a := _) rfl | apply AppA.one (f := Dr.pv) (a := _) rfl | (apply AppA.snoc (f := Dr.pv) (a := ⟨_, _, _, _⟩); dsimp only [Dr.pv]; exact rfl) | (apply AppA.one (f := Dr.pv) (a := ⟨_, _, _, _⟩); dsimp only [Dr.pv]; exact rfl)); exact ar_) | apply IsL.set (f := Dr.pv) (a := _) rfl | apply IsL.rep (f := Dr.pv) (a := _) rfl | (apply IsL.set (f := Dr.pv) (a := ⟨_, _, _, _⟩); dsimp only [Dr.pv]; exact rfl) | (apply IsL.rep (f := Dr.pv) (a := ⟨_, _, _, _⟩); dsimp only [Dr.pv]; exact rfl) | apply IsL.lit (f := Dr.pv) [] rfl | apply IsL.lit (f := Dr.pv) [_] rfl | apply IsL.lit (f := Dr.pv) [_, _] rfl | apply IsL.lit (f := Dr.pv) [_, _, _] rfl | apply IsL.lit (f := Dr.pv) [] rfl | apply IsL.lit (f := Dr.pv) [⟨_, _, _, _⟩] rfl | apply IsL.lit (f := Dr.pv) [⟨_, _, _, _⟩, ⟨_, _, _, _⟩] rfl | apply IsL.lit (f := Dr.pv) [⟨_, _, _, _⟩, ⟨_, _, _, _⟩, ⟨_, _, _, _⟩] rfl) <;> (solve_by_elim (newGoals := .nonDependentOnly) (symm := false) (exfalso := false) (transparency := .reducible) only [rfl, park_])) : P := h
set_option maxRecDepth 100000
theorem Backward_call (nl : Bool) (l : List Sup) : ACall Tryz.prog 83 [.p (.list nl (l.map Sup.pv))] [] fun r H => r = .clo (.func 138) [.ptr 0 0] ∧ H = [some (.cells [.p (.list nl (l.map Sup.pv))])] := by
  refine acall_enter Tryz.func83 rfl rfl tabOK rfl ?_
  (conv => whnf); repeat' ((first | apply CondA.plain | refine' gC | refine' gpI | refine' gpB | refine' gSuppv | refine' gDrpv | refine' gE | (apply DrawA.quiet (by kernel_rfl) (by kernel_rfl); (conv => whnf); fail_if_success (show False))) <;> (conv => whnf))
  (refine' RetK.auto (.clo (.func 138) [.ptr 0 0]) ([some (.cells [.p (.list nl (l.map Sup.pv))])]) rfl rfl rfl rfl _ _ _ <;> repeat' (first | exact trivial | refine And.intro ?_ ?_ | with_reducible rfl | (refine pIEq ?_; exact ar_) | (refine bufMap ?_) | (refine bufNil ?_) | (refine bufEq ?_) | rfl))
def us0 (n : Nat) (d : List Dr) : List Bool := d.foldl (fun xs x => xs.set x.sup.toNat true) (List.replicate n false)
def usS (l : List Sup) (xs : List Bool) (i : Nat) : List Bool :=
  if (xs.getD i false || (l.getD i default).alw) && decide (0 ≤ (l.getD i default).par) then (xs.set i (xs.getD i false || (l.getD i default).alw)).set (l.getD i default).par.toNat true else xs.set i (xs.getD i false || (l.getD i default).alw)
def usP (l : List Sup) (d : List Dr) (pre : List (Fin l.length)) : List Bool := pre.foldl (fun xs i => usS l xs i.val) (us0 l.length d)
def usedF (l : List Sup) (d : List Dr) : List Bool := usP l d (List.finRange l.length).reverse
theorem len_us0 (n : Nat) (d : List Dr) : (us0 n d).length = n := by
  suffices h : ∀ (d : List Dr) (xs : List Bool), (d.foldl (fun xs x => xs.set x.sup.toNat true) xs).length = xs.length by
    rw [us0, h]; simp
  intro d
  induction d with
  | nil => intro xs; rfl
  | cons x d ih => intro xs; rw [List.foldl_cons, ih, List.length_set]
theorem us0_snoc {n c : Nat} {d : List Dr} (h : c < d.length) : us0 n (d.take (c + 1)) = (us0 n (d.take c)).set (d[c]).sup.toNat true := by
  rw [List.take_succ_eq_append_getElem h, us0, List.foldl_append]
  rfl
theorem len_usS (l : List Sup) (xs : List Bool) (i : Nat) : (usS l xs i).length = xs.length := by
  unfold usS
  split <;> simp
theorem len_usP (l : List Sup) (d : List Dr) : ∀ pre : List (Fin l.length), (usP l d pre).length = l.length := by
  suffices h : ∀ (pre : List (Fin l.length)) (xs : List Bool), (pre.foldl (fun xs i => usS l xs i.val) xs).length = xs.length by
    intro pre; rw [usP, h, len_us0]
  intro pre
  induction pre with
  | nil => intro xs; rfl
  | cons x d ih => intro xs; rw [List.foldl_cons, ih, len_usS]
theorem usP_snoc (l : List Sup) (d : List Dr) (pre : List (Fin l.length)) (y : Fin l.length) : usP l d (pre ++ [y]) = usS l (usP l d pre) y.val := by
  unfold usP
  rw [List.foldl_append]
  rfl
def uASC0 : Sc := (.one 2 (.take 4 (.one 5 (.take 6 (.take 7 (.one 8 (.take 9 (.take 10 (.one 11 .done)))))))))
def uASC1 : Sc := (.one 5 (.take 6 (.take 7 (.one 8 (.take 9 (.take 10 (.one 11 .done)))))))
def uASC2 : Sc := (.one 8 (.take 9 (.take 10 (.one 11 .done))))
def uASC3 : Sc := (.take 9 (.one 0 (.take 10 (.one 11 .done))))
def uASC4 : Sc := (.take 6 (.take 7 (.two 0 8 uASC2 uASC3)))
def uASC5 : Sc := (.take 4 (.two 0 5 uASC1 uASC4))
def uA : Sc := (.take 1 (.take 3 (.two 0 2 uASC0 uASC5)))
set_option maxHeartbeats 1000000 in
theorem used_call (nl n2 : Bool) (l : List Sup) (d : List Dr) (hl : AllS l) (hd : AllD l.length d) : ACall Tryz.prog 42 [.p (.list nl (l.map Sup.pv)), .p (.list n2 (d.map Dr.pv))] [] fun r H => ∃ nb : Bool, r = .p (.list nb ((usedF l d).map pB)) ∧ H = [] := by
  refine acall_enter Tryz.func42 rfl rfl tabOK rfl ?_
  have h16 := hl.1
  (conv => whnf); repeat' ((first | apply CondA.plain | refine' gC | refine' gpI | refine' gpB | refine' gSuppv | refine' gDrpv | refine' gE | (apply DrawA.quiet (by kernel_rfl) (by kernel_rfl); (conv => whnf); fail_if_success (show False)) | (apply IsL.rep (f := pB) (a := false) rfl)) <;> (conv => whnf))
  refine loop_rule (fun (c : Nat) => ⟨[(0, .p (.list nl (l.map Sup.pv))), (5, .ptr 0 0), (13, .p (.list n2 (d.map Dr.pv))), (14, .p (pI d.length)), (15, .p (pI c))], [some (.cells [.buf 1]), some (AO.buf 4 false ((us0 l.length (d.take c)).map pB))]⟩) (fun (c : Nat) => c ≤ d.length) (fun (c : Nat) => d.length - c) 0 ?_ ?_ ?_; (refine SubA.auto rfl rfl rfl rfl ?_ ?_ <;> repeat' (first | exact trivial | refine And.intro ?_ ?_ | with_reducible rfl | (refine pIEq ?_; exact ar_) | (refine bufMap ?_) | (refine bufNil ?_) | (refine bufEq ?_) | rfl))
  · omega
  intro c hc
  replace hc : c ≤ d.length := hc
  have hul := len_us0 l.length (d.take c)
  have hs : ∀ h : c < d.length, 0 ≤ (d[c]).sup ∧ (d[c]).sup < l.length := fun h => (hd.2 _ (List.getElem_mem h)).1
  have hsn := fun h => us0_snoc (n := l.length) (c := c) (d := d) h
  (conv => whnf); repeat' ((first | apply CondA.plain | refine' gC | refine' gpI | refine' gpB | refine' gSuppv | refine' gDrpv | refine' gE | (apply DrawA.quiet (by kernel_rfl) (by kernel_rfl); (conv => whnf); fail_if_success (show False))) <;> (conv => whnf))
  · (refine' ⟨c + 1, _, _, _⟩; rotate_right; (refine SubA.auto rfl rfl rfl rfl ?_ ?_ <;> repeat' (first | exact trivial | refine And.intro ?_ ?_ | with_reducible rfl | (refine pIEq ?_; exact ar_) | (refine bufMap ?_) | (refine bufNil ?_) | (refine bufEq ?_) | rfl)); rotate_right; exact ar2_)
    · exact (hsn (by omega)).symm
    · omega
  refine CallA.loc [] [] rfl rfl ((Backward_call nl l).mono ?_)
  rintro _ _ ⟨rfl, rfl⟩
  have hc' : c = d.length := by omega
  subst hc'
  (conv => whnf); repeat' ((first | apply CondA.plain | refine' gC | refine' gpI | refine' gpB | refine' gSuppv | refine' gDrpv | refine' gE | (apply DrawA.quiet (by kernel_rfl) (by kernel_rfl); (conv => whnf); fail_if_success (show False))) <;> (conv => whnf))
  refine RangeA.plain 138 2 (.list nl (l.map Sup.pv)) _ _ _ (fun pre => [some (.cells [.buf 1]), some (AO.buf 4 false ((usP l d pre).map pB)), none]) rfl rfl (back_seq nl l) (fun _ => rfl) ?_ ?_ ?_
  · (refine SubA.auto rfl rfl rfl rfl ?_ ?_ <;> repeat' (first | exact trivial | refine And.intro ?_ ?_ | with_reducible rfl | (refine pIEq ?_; exact ar_) | (refine bufMap ?_) | (refine bufNil ?_) | (refine bufEq ?_) | rfl))
    rw [List.take_length]
    rfl
  · intro pre y hlt
    have hup := len_usP l d pre
    have hy := y.isLt
    have hv := (hl.2.2 y.val hy).1
    have hsn := usP_snoc l d pre y
    unfold usS at hsn
    simp only [getD_at hy] at hsn
    generalize usP l d (pre ++ [y]) = ys at hsn ⊢
    generalize usP l d pre = xs at hup hsn ⊢
    simp only [getD_at (show y.val < xs.length by omega)] at hsn
    obtain ⟨k, hk⟩ := y
    simp only at hy hv hsn ⊢
    (conv => whnf); repeat' ((first | apply CondA.plain | refine' gC | refine' gpI | refine' gpB | refine' gSuppv | refine' gDrpv | refine' gE | (apply DrawA.orders uA (by kernel_rfl) (by kernel_rfl) (by kernel_rfl)) | (refine And.intro (show noMaps _ = true from rfl) ?_)) <;> (conv => whnf))
    all_goals
      refine ⟨?_, trivial⟩
      (refine SubA.auto rfl rfl rfl rfl ?_ ?_ <;> repeat' (first | exact trivial | refine And.intro ?_ ?_ | with_reducible rfl | (refine pIEq ?_; exact ar_) | (refine bufMap ?_) | (refine bufNil ?_) | (refine bufEq ?_) | rfl))
      rw [hsn]
      have hpd : decide (0 ≤ (l[k]).par) = true ∨ decide (0 ≤ (l[k]).par) = false := by cases decide (0 ≤ (l[k]).par) <;> simp
      rcases hpd with hpd | hpd
      all_goals
        rw [hpd]
        simp only [decide_eq_true_eq, decide_eq_false_iff_not] at hpd
        first
        | (exfalso; omega)
        | (simp_all; done)
  · rw [show usP l d (List.finRange l.length).reverse = usedF l d from rfl]
    (conv => whnf); repeat' ((first | apply CondA.plain | refine' gC | refine' gpI | refine' gpB | refine' gSuppv | refine' gDrpv | refine' gE | (apply DrawA.quiet (by kernel_rfl) (by kernel_rfl); (conv => whnf); fail_if_success (show False))) <;> (conv => whnf))
    (refine RetK.frz _ _ _ [1] ?_; refine' RetK.auto (.p (.list false ((usedF l d).map pB))) ([]) rfl rfl rfl rfl _ _ _ <;> repeat' (first | exact trivial | refine And.intro ?_ ?_ | with_reducible rfl | (refine pIEq ?_; exact ar_) | (refine bufMap ?_) | (refine bufNil ?_) | (refine bufEq ?_) | rfl))
    exact ⟨_, rfl, rfl⟩
open Go.Abs
theorem fold_back {σ : Type} {n : Nat} (f : σ → Fin n → σ) (s0 : σ) (P : Nat → σ → Prop) (h0 : P n s0) (hs : ∀ (k : Nat) (h : k < n) (s : σ), P (k + 1) s → P k (f s ⟨k, h⟩)) : P 0 ((List.finRange n).reverse.foldl f s0) := by
  have key : ∀ (m k : Nat), k + m = n → P k (((List.finRange n).drop k).reverse.foldl f s0) := by
    intro m
    induction m with
    | zero =>
      intro k hk
      rw [List.drop_eq_nil_of_le (by simp; omega), show k = n by omega]
      exact h0
    | succ m ih =>
      intro k hk
      rw [← fin_drop (show k < n by omega), List.foldl_append]
      exact hs k (by omega) _ (ih (k + 1) (by omega))
  have := key n 0 (by omega)
  rwa [List.drop_zero] at this
theorem getD_setB (xs : List Bool) (i j : Nat) (v : Bool) : (xs.set i v).getD j false = if i = j ∧ j < xs.length then v else xs.getD j false := by
  simp only [List.getD_eq_getElem?_getD, List.getElem?_set]
  by_cases h : i = j
  · subst h
    by_cases hl : i < xs.length <;> simp [hl]
  · simp [h]
theorem us0_iff (n : Nat) : ∀ (d : List Dr) (j : Nat), j < n → (∀ x ∈ d, x.sup.toNat < n) → ((us0 n d).getD j false = true ↔ ∃ x ∈ d, x.sup.toNat = j) := by
  intro d j hj hd
  suffices h : ∀ (d : List Dr) (xs : List Bool), xs.length = n → ((d.foldl (fun xs x => xs.set x.sup.toNat true) xs).getD j false = true ↔ xs.getD j false = true ∨ ∃ x ∈ d, x.sup.toNat = j) by
    rw [us0, h d _ (by simp)]
    simp [hj]
  intro d
  induction d with
  | nil => intro xs _; simp
  | cons x d ih =>
    intro xs hx
    rw [List.foldl_cons, ih _ (by simpa using hx), getD_setB]
    simp only [List.mem_cons, exists_eq_or_imp]
    by_cases he : x.sup.toNat = j
    · simp [he, hx, hj]
    · simp [he]
def UInv (l : List Sup) (d : List Dr) (k : Nat) (xs : List Bool) : Prop := xs.length = l.length ∧ ∀ j, j < l.length → (xs.getD j false = true ↔ (k ≤ j ∧ Usd l d j) ∨ (j < k ∧ ((∃ x ∈ d, x.sup.toNat = j) ∨ ∃ c, k ≤ c ∧ c < l.length ∧ Usd l d c ∧ 0 ≤ (l.getD c default).par ∧ (l.getD c default).par.toNat = j)))
theorem used_iff {l : List Sup} {d : List Dr} (hl : AllS l) (hd : AllD l.length d) {i : Nat} (hi : i < l.length) : (usedF l d).getD i false = true ↔ Usd l d i := by
  have hpar : ∀ c, c < l.length → (l.getD c default).par < c := fun c hc => by rw [getD_at hc]; exact (hl.2.2 c hc).1.2
  have key := fold_back (fun xs (i : Fin l.length) => usS l xs i.val) (us0 l.length d) (UInv l d) ⟨len_us0 _ _, fun j hj => ?_⟩ fun k hk xs hx => ?_
  · have := key.2 i hi
    rw [show usedF l d = List.foldl (fun xs (i : Fin l.length) => usS l xs i.val) (us0 l.length d) (List.finRange l.length).reverse from rfl, this]
    simp
  · rw [us0_iff _ _ _ hj fun x hx => by have := (hd.2 x hx).1; omega]
    constructor
    · exact fun h => .inr ⟨hj, .inl h⟩
    · rintro (⟨h, _⟩ | ⟨_, h | ⟨c, h1, h2, _⟩⟩)
      · omega
      · exact h
      · omega
  · obtain ⟨hlen, hx⟩ := hx
    refine ⟨by rw [len_usS, hlen], fun j hj => ?_⟩
    -- the supply itself
    have hv : (xs.getD k false || (l.getD k default).alw) = true ↔ Usd l d k := by
      rw [Bool.or_eq_true, hx k hk]
      constructor
      · rintro ((⟨_, h⟩ | ⟨_, ⟨x, h, rfl⟩ | ⟨c, h1, h2, h3, h4, h5⟩⟩) | h)
        · exact h
        · exact .draw x h
        · rw [getD_at h2] at h4 h5
          rw [← h5]
          exact .par c h2 h3 h4
        · rw [getD_at hk] at h
          exact .alw k hk h
      · intro h
        cases h with
        | draw x h => exact .inl (.inr ⟨by omega, .inl ⟨x, h, rfl⟩⟩)
        | alw _ _ h => exact .inr (by rw [getD_at hk]; exact h)
        | par c h2 h3 h4 =>
          have := hpar c h2
          rw [getD_at h2] at this
          exact .inl (.inr ⟨by omega, .inr ⟨c, by omega, h2, h3, by rw [getD_at h2]; exact h4, by rw [getD_at h2]⟩⟩)
    have hpk := hpar k hk
    have hxj := hx j hj
    unfold usS
    rcases Nat.lt_trichotomy j k with hjk | hjk | hjk
    · -- a supply above: it may be the parent
      have e1 : (xs.set k (xs.getD k false || (l.getD k default).alw)).getD j false = xs.getD j false := by rw [getD_setB, if_neg (by omega)]
      by_cases hc : ((xs.getD k false || (l.getD k default).alw) && decide (0 ≤ (l.getD k default).par)) = true
      · rw [if_pos hc, getD_setB]
        rw [Bool.and_eq_true, hv, decide_eq_true_eq] at hc
        by_cases he : (l.getD k default).par.toNat = j
        · rw [if_pos ⟨he, by simp; omega⟩]
          exact ⟨fun _ => .inr ⟨hjk, .inr ⟨k, Nat.le_refl _, hk, hc.1, hc.2, he⟩⟩, fun _ => rfl⟩
        · rw [if_neg (fun h => he h.1), e1, hxj]
          constructor
          · rintro (⟨h, _⟩ | ⟨_, h | ⟨c, h1, h2⟩⟩)
            · omega
            · exact .inr ⟨hjk, .inl h⟩
            · exact .inr ⟨hjk, .inr ⟨c, by omega, h2⟩⟩
          · rintro (⟨h, _⟩ | ⟨_, h | ⟨c, h1, h2, h3, h4, h5⟩⟩)
            · omega
            · exact .inr ⟨by omega, .inl h⟩
            · refine .inr ⟨by omega, .inr ⟨c, ?_, h2, h3, h4, h5⟩⟩
              rcases Nat.lt_or_eq_of_le h1 with h | h
              · exact h
              · subst h; exact absurd h5 he
      · rw [if_neg hc, e1, hxj]
        rw [Bool.and_eq_true, hv, decide_eq_true_eq, not_and] at hc
        constructor
        · rintro (⟨h, _⟩ | ⟨_, h | ⟨c, h1, h2⟩⟩)
          · omega
          · exact .inr ⟨hjk, .inl h⟩
          · exact .inr ⟨hjk, .inr ⟨c, by omega, h2⟩⟩
        · rintro (⟨h, _⟩ | ⟨_, h | ⟨c, h1, h2, h3, h4, h5⟩⟩)
          · omega
          · exact .inr ⟨by omega, .inl h⟩
          · refine .inr ⟨by omega, .inr ⟨c, ?_, h2, h3, h4, h5⟩⟩
            rcases Nat.lt_or_eq_of_le h1 with h | h
            · exact h
            · subst h; exact absurd h4 (hc h3)
    · subst hjk
      have e1 : (xs.set j (xs.getD j false || (l.getD j default).alw)).getD j false = (xs.getD j false || (l.getD j default).alw) := by rw [getD_setB, if_pos ⟨rfl, by omega⟩]
      have e2 : (if (xs.getD j false || (l.getD j default).alw) && decide (0 ≤ (l.getD j default).par) then (xs.set j (xs.getD j false || (l.getD j default).alw)).set (l.getD j default).par.toNat true else xs.set j (xs.getD j false || (l.getD j default).alw)).getD j false = (xs.getD j false || (l.getD j default).alw) := by
        split
        · rename_i hc
          rw [Bool.and_eq_true, decide_eq_true_eq] at hc
          rw [getD_setB, if_neg (by omega), e1]
        · exact e1
      rw [e2, hv]
      exact ⟨fun h => .inl ⟨Nat.le_refl _, h⟩, fun h => by rcases h with ⟨_, h⟩ | ⟨h, _⟩; exact h; omega⟩
    · have e1 : (xs.set k (xs.getD k false || (l.getD k default).alw)).getD j false = xs.getD j false := by rw [getD_setB, if_neg (by omega)]
      have e2 : (if (xs.getD k false || (l.getD k default).alw) && decide (0 ≤ (l.getD k default).par) then (xs.set k (xs.getD k false || (l.getD k default).alw)).set (l.getD k default).par.toNat true else xs.set k (xs.getD k false || (l.getD k default).alw)).getD j false = xs.getD j false := by
        split
        · rename_i hc
          rw [Bool.and_eq_true, decide_eq_true_eq] at hc
          rw [getD_setB, if_neg (by omega), e1]
        · exact e1
      rw [e2, hxj]
      exact ⟨fun h => by rcases h with ⟨_, h⟩ | ⟨h, _⟩; exact .inl ⟨by omega, h⟩; omega, fun h => by rcases h with ⟨_, h⟩ | ⟨h, _⟩; exact .inl ⟨by omega, h⟩; omega⟩
theorem len_usedF (l : List Sup) (d : List Dr) : (usedF l d).length = l.length := len_usP _ _ _
open Go.Abs
set_option maxRecDepth 100000
def ldP (l : List Sup) (d : List Dr) (pre : List (Fin l.length)) : List Int := pre.foldl (fun xs i => ldS l xs i.val) (ld0 l.length d)
theorem ld0_snoc {n c : Nat} {d : List Dr} (h : c < d.length) : ld0 n (d.take (c + 1)) = addTo (ld0 n (d.take c)) (d[c]).sup.toNat (d[c]).load := by
  rw [List.take_succ_eq_append_getElem h, ld0, List.foldl_append]
  rfl
theorem len_ldS (l : List Sup) (xs : List Int) (i : Nat) : (ldS l xs i).length = xs.length := by
  unfold ldS
  split
  · rw [len_addTo]
  · rfl
theorem ldP_snoc (l : List Sup) (d : List Dr) (pre : List (Fin l.length)) (y : Fin l.length) : ldP l d (pre ++ [y]) = ldS l (ldP l d pre) y.val := by
  unfold ldP
  rw [List.foldl_append]
  rfl
theorem len_ldP (l : List Sup) (d : List Dr) (pre : List (Fin l.length)) : (ldP l d pre).length = l.length := by
  suffices h : ∀ (pre : List (Fin l.length)) (xs : List Int), (pre.foldl (fun xs i => ldS l xs i.val) xs).length = xs.length by
    rw [ldP, h, len_ld0]
  intro pre
  induction pre with
  | nil => intro xs; rfl
  | cons x d ih => intro xs; rw [List.foldl_cons, ih, len_ldS]
/-- All in a range. -/
def Bnd (b : Int) (xs : List Int) : Prop := ∀ j, 0 ≤ xs.getD j 0 ∧ xs.getD j 0 ≤ b
theorem Bnd.addTo {b c v : Int} {xs : List Int} (h : Bnd b xs) (hv : 0 ≤ v ∧ v ≤ c) (i : Nat) : Bnd (b + c) (addTo xs i v) := by
  intro j
  rw [getD_addTo]
  have h1 := h i
  have h2 := h j
  split <;> omega
theorem ld0_bnd {n : Nat} {d : List Dr} (hd : AllD n d) : ∀ c, c ≤ d.length → Bnd (10000 * c) (ld0 n (d.take c)) := by
  intro c
  induction c with
  | zero =>
    intro _ j
    have : (ld0 n (d.take 0)).getD j 0 = 0 := by
      rw [List.take_zero, ld0, List.foldl_nil]
      simp only [List.getD_eq_getElem?_getD, List.getElem?_replicate]
      split <;> rfl
    rw [this]
    omega
  | succ c ih =>
    intro h
    rw [ld0_snoc (by omega)]
    have h1 := (ih (by omega)).addTo (v := (d[c]).load) (c := 10000) (hd.2 _ (List.getElem_mem _)).2.2.2 (d[c]).sup.toNat
    intro j
    have := h1 j
    omega
theorem ldP_bnd {l : List Sup} {d : List Dr} (hd : AllD l.length d) : ∀ pre : List (Fin l.length), Bnd (320000 * 2 ^ pre.length) (ldP l d pre) := by
  suffices h : ∀ (pre : List (Fin l.length)) (xs : List Int) (b : Int), Bnd b xs → Bnd (b * 2 ^ pre.length) (pre.foldl (fun xs i => ldS l xs i.val) xs) by
    intro pre
    refine h pre _ 320000 ?_
    intro j
    have := ld0_bnd hd d.length (Nat.le_refl _) j
    rw [List.take_length] at this
    have := hd.1
    omega
  intro pre
  induction pre with
  | nil => intro xs b h; rw [show b * 2 ^ ([] : List (Fin l.length)).length = b by simp]; exact h
  | cons y pre ih =>
    intro xs b h
    rw [List.foldl_cons, List.length_cons, Int.pow_succ, Int.mul_comm (2 ^ pre.length) 2, ← Int.mul_assoc]
    refine ih _ _ ?_
    have h0 := h 0
    rw [show b * 2 = b + b by omega]
    unfold ldS
    split
    · exact h.addTo (h y.val) _
    · intro j
      have := h j
      omega
theorem Bnd.le {b c : Int} {xs : List Int} (h : Bnd b xs) (hc : b ≤ c) : Bnd c xs := fun j => by have := h j; omega
theorem Bnd.at_ {b : Int} {xs : List Int} (h : Bnd b xs) {i : Nat} (hi : i < xs.length) : 0 ≤ xs[i] ∧ xs[i] ≤ b := by
  have := h i
  rwa [getD_at hi] at this
def lBSC0 : Sc := (.one 5 (.take 7 (.one 8 (.take 9 (.take 10 (.one 11 .done))))))
def lBSC1 : Sc := (.one 8 (.take 9 (.take 10 (.one 11 .done))))
def lBSC2 : Sc := (.one 4 (.take 9 (.take 10 (.one 11 .done))))
def lBSC3 : Sc := (.take 7 (.two 4 8 lBSC1 lBSC2))
def lBSC4 : Sc := (.take 3 (.two 4 5 lBSC0 lBSC3))
def lBSC5 : Sc := (.take 3 (.two 4 8 lBSC1 lBSC2))
def lBSC6 : Sc := (.one 0 (.take 3 (.one 4 (.take 9 (.take 10 (.one 11 .done))))))
def lBSC7 : Sc := (.take 7 (.two 0 8 lBSC5 lBSC6))
def lB : Sc := (.take 1 (.load 2 (.take 6 (.two 0 5 lBSC4 lBSC7))))
def lA : Sc := (.take 1 (.load 2 (.take 5 (.load 6 (.one 0 (.take 3 (.one 4 (.take 7 (.take 8 (.one 9 .done))))))))))
set_option maxHeartbeats 1000000 in
theorem loads_call (nl n2 : Bool) (l : List Sup) (d : List Dr) (hl : AllS l) (hd : AllD l.length d) : ACall Tryz.prog 86 [.p (.list nl (l.map Sup.pv)), .p (.list n2 (d.map Dr.pv))] [] fun r H => ∃ nb : Bool, r = .p (.list nb ((loadsF l d).map pI)) ∧ H = [] := by
  refine acall_enter Tryz.func86 rfl rfl tabOK rfl ?_
  have h16 := hl.1
  have h32 := hd.1
  (conv => whnf); repeat' ((first | apply CondA.plain | refine' gC | refine' gpI | refine' gpB | refine' gSuppv | refine' gDrpv | refine' gE | (apply DrawA.quiet (by kernel_rfl) (by kernel_rfl); (conv => whnf); fail_if_success (show False)) | (apply IsL.rep (f := pI) (a := 0) rfl)) <;> (conv => whnf))
  refine loop_rule (fun (c : Nat) => ⟨[(0, .p (.list nl (l.map Sup.pv))), (5, .ptr 0 0), (13, .p (.list n2 (d.map Dr.pv))), (14, .p (pI d.length)), (15, .p (pI c))], [some (.cells [.buf 1]), some (AO.buf 3 false ((ld0 l.length (d.take c)).map pI))]⟩) (fun (c : Nat) => c ≤ d.length) (fun (c : Nat) => d.length - c) 0 ?_ ?_ ?_; (refine SubA.auto rfl rfl rfl rfl ?_ ?_ <;> repeat' (first | exact trivial | refine And.intro ?_ ?_ | with_reducible rfl | (refine pIEq ?_; exact ar_) | (refine bufMap ?_) | (refine bufNil ?_) | (refine bufEq ?_) | rfl))
  · omega
  intro c hc
  replace hc : c ≤ d.length := hc
  have hul := len_ld0 l.length (d.take c)
  have hb := (ld0_bnd hd c hc).le (c := 320000) (by omega)
  have hs : ∀ h : c < d.length, 0 ≤ (d[c]).sup ∧ (d[c]).sup < l.length := fun h => (hd.2 _ (List.getElem_mem h)).1
  have hlo : ∀ h : c < d.length, 0 ≤ (d[c]).load ∧ (d[c]).load ≤ 10000 := fun h => (hd.2 _ (List.getElem_mem h)).2.2.2
  have hsn := fun h => ld0_snoc (n := l.length) (c := c) (d := d) h
  by_cases hcd : c < d.length
  · have hs := hs hcd
    have hlo := hlo hcd
    have hsn := hsn hcd
    generalize ld0 l.length (d.take c) = xs at hul hb hsn ⊢
    have hbs := hb.at_ (i := (d[c]).sup.toNat) (by omega)
    unfold addTo at hsn
    rw [getD_at (by omega)] at hsn
    (conv => whnf); repeat' ((first | apply CondA.plain | refine' gC | refine' gpI | refine' gpB | refine' gSuppv | refine' gDrpv | refine' gE | (apply DrawA.orders lA (by kernel_rfl) (by kernel_rfl) (by kernel_rfl))) <;> (conv => whnf))
    (refine' ⟨c + 1, _, _, _⟩; rotate_right; (refine SubA.auto rfl rfl rfl rfl ?_ ?_ <;> repeat' (first | exact trivial | refine And.intro ?_ ?_ | with_reducible rfl | (refine pIEq ?_; exact ar_) | (refine bufMap ?_) | (refine bufNil ?_) | (refine bufEq ?_) | rfl)); rotate_right; exact ar2_)
    · exact hsn.symm
    · omega
  · have hc' : c = d.length := by omega
    subst hc'
    clear hs hlo hsn
    (conv => whnf); repeat' ((first | apply CondA.plain | refine' gC | refine' gpI | refine' gpB | refine' gSuppv | refine' gDrpv | refine' gE | (apply DrawA.quiet (by kernel_rfl) (by kernel_rfl); (conv => whnf); fail_if_success (show False))) <;> (conv => whnf))
    refine CallA.loc [] [] rfl rfl ((Backward_call nl l).mono ?_)
    rintro _ _ ⟨rfl, rfl⟩
    (conv => whnf); repeat' ((first | apply CondA.plain | refine' gC | refine' gpI | refine' gpB | refine' gSuppv | refine' gDrpv | refine' gE | (apply DrawA.quiet (by kernel_rfl) (by kernel_rfl); (conv => whnf); fail_if_success (show False))) <;> (conv => whnf))
    refine RangeA.plain 138 2 (.list nl (l.map Sup.pv)) _ _ _ (fun pre => [some (.cells [.buf 1]), some (AO.buf 3 false ((ldP l d pre).map pI)), none]) rfl rfl (back_seq nl l) (fun _ => rfl) ?_ ?_ ?_
    · (refine SubA.auto rfl rfl rfl rfl ?_ ?_ <;> repeat' (first | exact trivial | refine And.intro ?_ ?_ | with_reducible rfl | (refine pIEq ?_; exact ar_) | (refine bufMap ?_) | (refine bufNil ?_) | (refine bufEq ?_) | rfl))
      rw [List.take_length]
      rfl
    · intro pre y hlt
      have hup := len_ldP l d pre
      have hy := y.isLt
      have hv := (hl.2.2 y.val hy).1
      have hbp := (ldP_bnd hd pre).le (c := 20971520000) (by
        have : (2 : Int) ^ pre.length ≤ 2 ^ 16 := by
          exact_mod_cast Nat.pow_le_pow_right (by decide) (by omega)
        omega)
      have hsn := ldP_snoc l d pre y
      unfold ldS addTo at hsn
      simp only [getD_at hy] at hsn
      generalize ldP l d (pre ++ [y]) = ys at hsn ⊢
      generalize ldP l d pre = xs at hup hsn hbp ⊢
      simp only [getD_at (show y.val < xs.length by omega)] at hsn
      obtain ⟨k, hk⟩ := y
      simp only at hy hv hsn ⊢
      have hbk := hbp.at_ (i := k) (by omega)
      by_cases hp : 0 ≤ (l[k]).par
      · have hbq := hbp.at_ (i := (l[k]).par.toNat) (by omega)
        rw [if_pos hp, getD_at (by omega)] at hsn
        (conv => whnf); repeat' ((first | apply CondA.plain | refine' gC | refine' gpI | refine' gpB | refine' gSuppv | refine' gDrpv | refine' gE | (apply DrawA.orders lB (by kernel_rfl) (by kernel_rfl) (by kernel_rfl)) | (refine And.intro (show noMaps _ = true from rfl) ?_)) <;> (conv => whnf))
        all_goals
          refine ⟨?_, trivial⟩
          (refine SubA.auto rfl rfl rfl rfl ?_ ?_ <;> repeat' (first | exact trivial | refine And.intro ?_ ?_ | with_reducible rfl | (refine pIEq ?_; exact ar_) | (refine bufMap ?_) | (refine bufNil ?_) | (refine bufEq ?_) | rfl))
          rw [hsn]
      · rw [if_neg hp] at hsn
        (conv => whnf); repeat' ((first | apply CondA.plain | refine' gC | refine' gpI | refine' gpB | refine' gSuppv | refine' gDrpv | refine' gE | (apply DrawA.orders lB (by kernel_rfl) (by kernel_rfl) (by kernel_rfl)) | (refine And.intro (show noMaps _ = true from rfl) ?_)) <;> (conv => whnf))
        all_goals
          refine ⟨?_, trivial⟩
          (refine SubA.auto rfl rfl rfl rfl ?_ ?_ <;> repeat' (first | exact trivial | refine And.intro ?_ ?_ | with_reducible rfl | (refine pIEq ?_; exact ar_) | (refine bufMap ?_) | (refine bufNil ?_) | (refine bufEq ?_) | rfl))
          rw [hsn]
    · rw [show ldP l d (List.finRange l.length).reverse = loadsF l d from rfl]
      (conv => whnf); repeat' ((first | apply CondA.plain | refine' gC | refine' gpI | refine' gpB | refine' gSuppv | refine' gDrpv | refine' gE | (apply DrawA.quiet (by kernel_rfl) (by kernel_rfl); (conv => whnf); fail_if_success (show False))) <;> (conv => whnf))
      (refine RetK.frz _ _ _ [1] ?_; refine' RetK.auto (.p (.list false ((loadsF l d).map pI))) ([]) rfl rfl rfl rfl _ _ _ <;> repeat' (first | exact trivial | refine And.intro ?_ ?_ | with_reducible rfl | (refine pIEq ?_; exact ar_) | (refine bufMap ?_) | (refine bufNil ?_) | (refine bufEq ?_) | rfl))
      exact ⟨_, rfl, rfl⟩
open Go.Abs
set_option maxRecDepth 100000
theorem all_succ {α : Type} {xs : List α} {p : α → Bool} {c : Nat} (h : ∀ (k : Nat) (h : k < xs.length), k < c → p xs[k] = false) (hc : ∀ (h : c < xs.length), p xs[c] = false) : ∀ (k : Nat) (h : k < xs.length), k < c + 1 → p xs[k] = false := fun k hk hlt => by
  rcases Nat.lt_or_ge k c with h1 | h1
  · exact h k hk h1
  · obtain rfl : k = c := by omega
    exact hc hk
theorem swithin_call (n lo hi : Int) : ACall Tryz.prog 77 [.p (pI n), .p (pI lo), .p (pI hi)] [] fun r H => r = .p (pB (decide (lo ≤ n ∧ n ≤ hi))) ∧ H = [] := by
  refine acall_enter Tryz.func77 rfl rfl tabOK rfl ?_
  (conv => whnf); repeat' ((first | apply CondA.plain | refine' gC | refine' gpI | refine' gpB | refine' gSuppv | refine' gDrpv | refine' gE | (apply DrawA.quiet (by kernel_rfl) (by kernel_rfl); (conv => whnf); fail_if_success (show False))) <;> (conv => whnf))
  all_goals
    (refine RetK.p ?_ <;> repeat' (first | exact trivial | refine And.intro ?_ ?_ | with_reducible rfl | (refine pIEq ?_; exact ar_) | (refine bufMap ?_) | (refine bufNil ?_) | (refine bufEq ?_) | rfl); all_goals try first | refine pBEq ?_ | refine pIEq ?_)
  · by_cases h : n ≤ hi <;> simp [h] <;> omega
  · simp; omega
def manyL (s : Sup) : Bool := decide ((16 : Int) < s.lv.length)
theorem many_call (s : Sup) : ACall Tryz.prog 130 [.p s.pv] [] fun r H => r = .p (pB (manyL s)) ∧ H = [] := by
  refine acall_enter Tryz.func130 rfl rfl tabOK rfl ?_
  (conv => whnf); repeat' ((first | apply CondA.plain | refine' gC | refine' gpI | refine' gpB | refine' gSuppv | refine' gDrpv | refine' gE | (apply DrawA.quiet (by kernel_rfl) (by kernel_rfl); (conv => whnf); fail_if_success (show False))) <;> (conv => whnf))
  (refine RetK.p ?_ <;> repeat' (first | exact trivial | refine And.intro ?_ ?_ | with_reducible rfl | (refine pIEq ?_; exact ar_) | (refine bufMap ?_) | (refine bufNil ?_) | (refine bufEq ?_) | rfl); all_goals try first | refine pBEq ?_ | refine pIEq ?_)
theorem many_index  (nl : Bool) (xs : List _) : ACall Tryz.prog 165 [.p (.list nl (xs.map Sup.pv)), .clo (.func 130) []] [] fun r H => (∃ v : Int, r = .p (pI v) ∧ (decide (0 ≤ v) = xs.any fun x => manyL x)) ∧ H = [] := by
  refine acall_enter Tryz.func165 rfl rfl tabOK rfl ?_
  (conv => whnf); repeat' ((first | apply CondA.plain | refine' gC | refine' gpI | refine' gpB | refine' gSuppv | refine' gDrpv | refine' gE | (apply DrawA.quiet (by kernel_rfl) (by kernel_rfl); (conv => whnf); fail_if_success (show False))) <;> (conv => whnf))
  refine loop_rule (fun (c : Nat) => ⟨[(0, .p (.list nl (xs.map Sup.pv))), (1, .clo (.func 130) []), (7, .p (pI xs.length)), (8, .p (pI c))], []⟩) (fun (c : Nat) => c ≤ xs.length ∧ ∀ (k : Nat) (h : k < xs.length), k < c → (fun x => manyL x) xs[k] = false) (fun (c : Nat) => xs.length - c) 0 ?_ ?_ ?_; (refine SubA.auto rfl rfl rfl rfl ?_ ?_ <;> repeat' (first | exact trivial | refine And.intro ?_ ?_ | with_reducible rfl | (refine pIEq ?_; exact ar_) | (refine bufMap ?_) | (refine bufNil ?_) | (refine bufEq ?_) | rfl))
  · exact ⟨by omega, by omega⟩
  rintro c ⟨hc, hok⟩
  rcases Nat.lt_or_ge c xs.length with hlt | hge
  · (conv => whnf); repeat' ((first | apply CondA.plain | refine' gC | refine' gpI | refine' gpB | refine' gSuppv | refine' gDrpv | refine' gE | (apply DrawA.quiet (by kernel_rfl) (by kernel_rfl); (conv => whnf); fail_if_success (show False))) <;> (conv => whnf))
    refine CallA.loc [] [] rfl rfl ((many_call xs[c]).mono ?_)
    rintro r H ⟨rfl, rfl⟩
    (conv => whnf); repeat' ((first | apply CondA.plain | refine' gC | refine' gpI | refine' gpB | refine' gSuppv | refine' gDrpv | refine' gE | (apply DrawA.quiet (by kernel_rfl) (by kernel_rfl); (conv => whnf); fail_if_success (show False))) <;> (conv => whnf))
    · (refine' RetK.auto (.p (pI c)) ([]) rfl rfl rfl rfl _ _ _ <;> repeat' (first | exact trivial | refine And.intro ?_ ?_ | with_reducible rfl | (refine pIEq ?_; exact ar_) | (refine bufMap ?_) | (refine bufNil ?_) | (refine bufEq ?_) | rfl))
      refine ⟨c, rfl, ?_⟩
      rw [List.any_eq_true.2 ⟨xs[c], List.getElem_mem _, by first | exact h0 | exact decide_eq_true h0 | exact decide_eq_true (by omega)⟩]
      exact decide_eq_true (by omega)
    · (refine' ⟨c + 1, _, _, _⟩; rotate_right; (refine SubA.auto rfl rfl rfl rfl ?_ ?_ <;> repeat' (first | exact trivial | refine And.intro ?_ ?_ | with_reducible rfl | (refine pIEq ?_; exact ar_) | (refine bufMap ?_) | (refine bufNil ?_) | (refine bufEq ?_) | rfl)); rotate_right; exact ar2_)
      exact ⟨by omega, all_succ hok fun _ => by first | exact h0 | exact decide_eq_false h0 | exact decide_eq_false (by omega)⟩
  · (conv => whnf); repeat' ((first | apply CondA.plain | refine' gC | refine' gpI | refine' gpB | refine' gSuppv | refine' gDrpv | refine' gE | (apply DrawA.quiet (by kernel_rfl) (by kernel_rfl); (conv => whnf); fail_if_success (show False))) <;> (conv => whnf))
    (refine' RetK.auto (.p (pI (-1))) ([]) rfl rfl rfl rfl _ _ _ <;> repeat' (first | exact trivial | refine And.intro ?_ ?_ | with_reducible rfl | (refine pIEq ?_; exact ar_) | (refine bufMap ?_) | (refine bufNil ?_) | (refine bufEq ?_) | rfl))
    refine ⟨-1, rfl, ?_⟩
    rw [List.any_eq_false.2]
    · rfl
    · intro x hx
      obtain ⟨k, hk, rfl⟩ := List.getElem_of_mem hx
      exact Bool.eq_false_iff.1 (hok k hk (by omega))
theorem many_contains  (nl : Bool) (xs : List _) : ACall Tryz.prog 129 [.p (.list nl (xs.map Sup.pv)), .clo (.func 130) []] [] fun r H => r = .p (pB (xs.any fun x => manyL x)) ∧ H = [] := by
  refine acall_enter Tryz.func129 rfl rfl tabOK rfl ?_
  (conv => whnf); repeat' ((first | apply CondA.plain | refine' gC | refine' gpI | refine' gpB | refine' gSuppv | refine' gDrpv | refine' gE | (apply DrawA.quiet (by kernel_rfl) (by kernel_rfl); (conv => whnf); fail_if_success (show False))) <;> (conv => whnf))
  refine CallA.all ((many_index  nl xs).mono ?_)
  rintro r H ⟨⟨v, rfl, hv⟩, rfl⟩
  (conv => whnf); repeat' ((first | apply CondA.plain | refine' gC | refine' gpI | refine' gpB | refine' gSuppv | refine' gDrpv | refine' gE | (apply DrawA.quiet (by kernel_rfl) (by kernel_rfl); (conv => whnf); fail_if_success (show False))) <;> (conv => whnf))
  (refine' RetK.auto (.p (pB (xs.any fun x => manyL x))) ([]) rfl rfl rfl rfl _ _ _ <;> repeat' (first | exact trivial | refine And.intro ?_ ?_ | with_reducible rfl | (refine pIEq ?_; exact ar_) | (refine bufMap ?_) | (refine bufNil ?_) | (refine bufEq ?_) | rfl))
  rw [← hv]; rfl

theorem valid_call (s : Sup) (i : Nat) (hi : i ≤ 16) : ACall Tryz.prog 131 [.p s.pv, .p (pI i)] [] fun r H => ∃ b : Bool, r = .p (pB b) ∧ H = [] ∧ (b = true ↔ SupV s i) := by
  refine acall_enter Tryz.func131 rfl rfl tabOK rfl ?_
  (conv => whnf); repeat' ((first | apply CondA.plain | refine' gC | refine' gpI | refine' gpB | refine' gSuppv | refine' gDrpv | refine' gE | (apply DrawA.quiet (by kernel_rfl) (by kernel_rfl); (conv => whnf); fail_if_success (show False)) | (refine CallA.scalar (swithin_call _ _ _) ?_)) <;> (conv => whnf))
  all_goals try
    (refine RetK.p ?_ <;> repeat' (first | exact trivial | refine And.intro ?_ ?_ | with_reducible rfl | (refine pIEq ?_; exact ar_) | (refine bufMap ?_) | (refine bufNil ?_) | (refine bufEq ?_) | rfl); all_goals try first | refine pBEq ?_ | refine pIEq ?_)
    refine ⟨_, rfl, rfl, ?_⟩
    simp only [Bool.false_eq_true, false_iff]
    rintro ⟨v1, v2, v3, v4, v5, v6, v7⟩
    simp only [decide_eq_false_iff_not, decide_eq_true_eq] at *
    omega
  all_goals
    have g1 : -1 ≤ s.par ∧ s.par < i := by simp only [decide_eq_true_eq] at *; omega
    have g2 : 1 ≤ s.lv.length := by omega
    have g3 : 0 ≤ s.drop ∧ s.drop ≤ 5000 := by simp only [decide_eq_true_eq] at *; omega
    have g4 : s.par < 0 → s.drop = 0 := by omega
    have g5 : 0 ≤ s.cap ∧ s.cap ≤ 10000 := by simp only [decide_eq_true_eq] at *; omega
    refine loop_rule (fun (c : Nat) => ⟨[(2, .ptr 0 0), (42, .p (.list s.ln (s.lv.map pI))), (43, .p (pI s.lv.length)), (44, .p (pI c))], [some (.cells [.p (pI s.par), .p (.list s.ln (s.lv.map pI)), .p (pI s.drop), .p (pI s.cap), .p (pB s.alw)])]⟩) (fun (c : Nat) => c ≤ s.lv.length ∧ ∀ (k : Nat) (h : k < s.lv.length), k < c → (1 ≤ s.lv[k] ∧ s.lv[k] ≤ 5000) ∧ (0 < k → s.lv[k - 1] < s.lv[k])) (fun (c : Nat) => s.lv.length - c) 0 ?_ ?_ ?_; (refine SubA.auto rfl rfl rfl rfl ?_ ?_ <;> repeat' (first | exact trivial | refine And.intro ?_ ?_ | with_reducible rfl | (refine pIEq ?_; exact ar_) | (refine bufMap ?_) | (refine bufNil ?_) | (refine bufEq ?_) | rfl))
    · exact ⟨by omega, fun k h h' => by omega⟩
    rintro c ⟨hc, hv⟩
    have hn : ∀ h : c < s.lv.length, (¬ (1 ≤ s.lv[c] ∧ s.lv[c] ≤ 5000) → ¬ SupV s i) ∧ (∀ h0 : 0 < c, s.lv[c] ≤ s.lv[c - 1] → ¬ SupV s i) := fun h => by
      refine ⟨fun h1 ⟨_, _, _, _, _, h6, _⟩ => h1 (h6 _ (List.getElem_mem h)), fun h0 h1 ⟨_, _, _, _, _, _, h7⟩ => ?_⟩
      have := h7 (c - 1) (by omega)
      simp only [show c - 1 + 1 = c by omega] at this
      omega
    have hs : ∀ h : c < s.lv.length, (1 ≤ s.lv[c] ∧ s.lv[c] ≤ 5000) → (0 < c → s.lv[c - 1] < s.lv[c]) → ∀ (k : Nat) (h : k < s.lv.length), k < c + 1 → (1 ≤ s.lv[k] ∧ s.lv[k] ≤ 5000) ∧ (0 < k → s.lv[k - 1] < s.lv[k]) := fun h h1 h2 k hk hlt => by
      rcases Nat.lt_or_ge k c with h3 | h3
      · exact hv k hk h3
      · obtain rfl : k = c := by omega
        exact ⟨h1, h2⟩
    have e1 : ((c : Int) - 1).toNat = c - 1 := by omega
    (conv => whnf); repeat' ((first | apply CondA.plain | refine' gC | refine' gpI | refine' gpB | refine' gSuppv | refine' gDrpv | refine' gE | (apply DrawA.quiet (by kernel_rfl) (by kernel_rfl); (conv => whnf); fail_if_success (show False)) | (refine CallA.scalar (swithin_call _ _ _) ?_)) <;> (conv => whnf))
    all_goals try simp only [e1] at h0
    all_goals first
    | ((refine RetK.p ?_ <;> repeat' (first | exact trivial | refine And.intro ?_ ?_ | with_reducible rfl | (refine pIEq ?_; exact ar_) | (refine bufMap ?_) | (refine bufNil ?_) | (refine bufEq ?_) | rfl); all_goals try first | refine pBEq ?_ | refine pIEq ?_)
       refine ⟨_, rfl, rfl, ?_⟩
       simp only [Bool.false_eq_true, false_iff]
       simp only [decide_eq_false_iff_not, decide_eq_true_eq] at *
       first
       | exact (hn (by omega)).1 (by omega)
       | exact (hn (by omega)).2 (by omega) (by omega))
    | ((refine' ⟨c + 1, _, _, _⟩; rotate_right; (refine SubA.auto rfl rfl rfl rfl ?_ ?_ <;> repeat' (first | exact trivial | refine And.intro ?_ ?_ | with_reducible rfl | (refine pIEq ?_; exact ar_) | (refine bufMap ?_) | (refine bufNil ?_) | (refine bufEq ?_) | rfl)); rotate_right; exact ar2_)
       exact ⟨by omega, hs (by omega) (by simp only [decide_eq_true_eq] at *; omega) (by omega)⟩)
    | ((refine RetK.p ?_ <;> repeat' (first | exact trivial | refine And.intro ?_ ?_ | with_reducible rfl | (refine pIEq ?_; exact ar_) | (refine bufMap ?_) | (refine bufNil ?_) | (refine bufEq ?_) | rfl); all_goals try first | refine pBEq ?_ | refine pIEq ?_)
       refine ⟨_, rfl, rfl, ?_⟩
       simp only [true_iff]
       refine ⟨g1, g2, g3, g4, g5, fun v hvm => ?_, fun k hk => ?_⟩
       · obtain ⟨k, hk, rfl⟩ := List.getElem_of_mem hvm
         exact (hv k hk (by omega)).1
       · have := (hv (k + 1) hk (by omega)).2 (by omega)
         simpa using this)
theorem sCheck_call (nl : Bool) (l : List Sup) : ACall Tryz.prog 70 [.p (.list nl (l.map Sup.pv))] [] fun r H => ∃ e : Int, r = .p (pI e) ∧ H = [] ∧ (e = 0 ↔ AllS l) := by
  refine acall_enter Tryz.func70 rfl rfl tabOK rfl ?_
  (conv => whnf); repeat' ((first | apply CondA.plain | refine' gC | refine' gpI | refine' gpB | refine' gSuppv | refine' gDrpv | refine' gE | (refine CallA.scalar (many_contains _ _) ?_)) <;> (conv => whnf))
  · (refine RetK.p ?_ <;> repeat' (first | exact trivial | refine And.intro ?_ ?_ | with_reducible rfl | (refine pIEq ?_; exact ar_) | (refine bufMap ?_) | (refine bufNil ?_) | (refine bufEq ?_) | rfl); all_goals try first | refine pBEq ?_ | refine pIEq ?_)
    exact ⟨_, rfl, rfl, fun h => (by cases h), fun h => (by have := h.1; omega)⟩
  · (refine RetK.p ?_ <;> repeat' (first | exact trivial | refine And.intro ?_ ?_ | with_reducible rfl | (refine pIEq ?_; exact ar_) | (refine bufMap ?_) | (refine bufNil ?_) | (refine bufEq ?_) | rfl); all_goals try first | refine pBEq ?_ | refine pIEq ?_)
    refine ⟨_, rfl, rfl, fun h => (by cases h), fun h => ?_⟩
    have h1 := h.2.1
    rw [List.any_eq_true] at h0
    obtain ⟨s, h2, h3⟩ := h0
    have := h1 s h2
    have := of_decide_eq_true (show decide _ = true from h3)
    omega
  have h16 : l.length ≤ 16 := by omega
  have hm : ∀ s ∈ l, s.lv.length ≤ 16 := fun s hs => by
    rw [List.any_eq_false] at h0
    have := h0 s hs
    unfold manyL at this
    simp at this
    omega
  refine loop_rule (fun (c : Nat) => ⟨[(12, .p (.list nl (l.map Sup.pv))), (13, .p (pI l.length)), (14, .p (pI c))], []⟩) (fun (c : Nat) => c ≤ l.length ∧ ∀ (k : Nat) (h : k < l.length), k < c → SupV l[k] k) (fun (c : Nat) => l.length - c) 0 ?_ ?_ ?_; (refine SubA.auto rfl rfl rfl rfl ?_ ?_ <;> repeat' (first | exact trivial | refine And.intro ?_ ?_ | with_reducible rfl | (refine pIEq ?_; exact ar_) | (refine bufMap ?_) | (refine bufNil ?_) | (refine bufEq ?_) | rfl))
  · exact ⟨by omega, fun k h h' => by omega⟩
  rintro c ⟨hc, hv⟩
  rcases Nat.lt_or_ge c l.length with hlt | hge
  · (conv => whnf); repeat' ((first | apply CondA.plain | refine' gC | refine' gpI | refine' gpB | refine' gSuppv | refine' gDrpv | refine' gE | (apply DrawA.quiet (by kernel_rfl) (by kernel_rfl); (conv => whnf); fail_if_success (show False)) | ((refine call_exB (valid_call l[c] c (by omega)) ?_; intro b0 hb0))) <;> (conv => whnf))
    · (refine RetK.p ?_ <;> repeat' (first | exact trivial | refine And.intro ?_ ?_ | with_reducible rfl | (refine pIEq ?_; exact ar_) | (refine bufMap ?_) | (refine bufNil ?_) | (refine bufEq ?_) | rfl); all_goals try first | refine pBEq ?_ | refine pIEq ?_)
      refine ⟨_, rfl, rfl, fun h => (by cases h), fun h => ?_⟩
      have := hb0.2 (h.2.2 c hlt)
      rw [h0] at this
      cases this
    · (refine' ⟨c + 1, _, _, _⟩; rotate_right; (refine SubA.auto rfl rfl rfl rfl ?_ ?_ <;> repeat' (first | exact trivial | refine And.intro ?_ ?_ | with_reducible rfl | (refine pIEq ?_; exact ar_) | (refine bufMap ?_) | (refine bufNil ?_) | (refine bufEq ?_) | rfl)); rotate_right; exact ar2_)
      refine ⟨by omega, fun k hk hlt' => ?_⟩
      rcases Nat.lt_or_ge k c with h3 | h3
      · exact hv k hk h3
      · obtain rfl : k = c := by omega
        exact hb0.1 (by assumption)
  · (conv => whnf); repeat' ((first | apply CondA.plain | refine' gC | refine' gpI | refine' gpB | refine' gSuppv | refine' gDrpv | refine' gE | (apply DrawA.quiet (by kernel_rfl) (by kernel_rfl); (conv => whnf); fail_if_success (show False)) | ((refine call_exB (valid_call l[c] c (by omega)) ?_; intro b0 hb0))) <;> (conv => whnf))
    (refine RetK.p ?_ <;> repeat' (first | exact trivial | refine And.intro ?_ ?_ | with_reducible rfl | (refine pIEq ?_; exact ar_) | (refine bufMap ?_) | (refine bufNil ?_) | (refine bufEq ?_) | rfl); all_goals try first | refine pBEq ?_ | refine pIEq ?_)
    exact ⟨_, rfl, rfl, fun _ => ⟨h16, hm, fun k hk => hv k hk (by omega)⟩, fun _ => rfl⟩
open Go.Abs
set_option maxRecDepth 100000
instance (n : Nat) (x : Dr) : Decidable (DrV n x) := by unfold DrV; infer_instance
def badD (n : Nat) (x : Dr) : Bool := !decide (DrV n x)
def supB (nl : Bool) (l : List Sup) : AH := [some (.cells [.p (.list nl (l.map Sup.pv))])]
theorem badD_call (nb : Bool) (l : List Sup) (x : Dr) : ACall Tryz.prog 76 [.p x.pv, .ptr 0 0] (supB nb l) fun r H => r = .p (pB (badD l.length x)) ∧ H = supB nb l := by
  refine acall_enter Tryz.func76 rfl rfl tabOK rfl ?_
  (conv => whnf); repeat' ((first | apply CondA.plain | refine' gC | refine' gpI | refine' gpB | refine' gSuppv | refine' gDrpv | refine' gE | (apply DrawA.quiet (by kernel_rfl) (by kernel_rfl); (conv => whnf); fail_if_success (show False)) | (refine CallA.scalar (swithin_call _ _ _) ?_)) <;> (conv => whnf))
  all_goals
    (refine' RetK.auto (.p (pB _)) (supB nb l) rfl rfl rfl rfl _ _ _ <;> repeat' (first | exact trivial | refine And.intro ?_ ?_ | with_reducible rfl | (refine pIEq ?_; exact ar_) | (refine bufMap ?_) | (refine bufNil ?_) | (refine bufEq ?_) | rfl))
    refine congrArg (fun b => AV.p (pB b)) ?_
    simp only [decide_eq_true_eq, decide_eq_false_iff_not] at *
    rcases Decidable.em (DrV l.length x) with hd | hd
    · have hd' := hd
      unfold DrV at hd'
      simp only [badD, hd, decide_true, Bool.not_true, cond_false, Bool.not_eq_false', decide_eq_true_eq, Bool.true_eq_false]
      omega
    · have hd' := hd
      unfold DrV at hd'
      simp only [badD, hd, decide_false, Bool.not_false, cond_false, Bool.not_eq_true', decide_eq_false_iff_not]
      try omega

theorem badD_index (nb : Bool) (l : List Sup) (nl : Bool) (xs : List _) : ACall Tryz.prog 133 [.p (.list nl (xs.map Dr.pv)), .clo (.func 76) [.ptr 0 0]] [some (.cells [.p (.list nb (l.map Sup.pv))])] fun r H => (∃ v : Int, r = .p (pI v) ∧ (decide (0 ≤ v) = xs.any fun x => badD l.length x)) ∧ H = [some (.cells [.p (.list nb (l.map Sup.pv))])] := by
  refine acall_enter Tryz.func133 rfl rfl tabOK rfl ?_
  (conv => whnf); repeat' ((first | apply CondA.plain | refine' gC | refine' gpI | refine' gpB | refine' gSuppv | refine' gDrpv | refine' gE | (apply DrawA.quiet (by kernel_rfl) (by kernel_rfl); (conv => whnf); fail_if_success (show False))) <;> (conv => whnf))
  refine loop_rule (fun (c : Nat) => ⟨[(0, .p (.list nl (xs.map Dr.pv))), (1, .clo (.func 76) [.ptr 0 0]), (7, .p (pI xs.length)), (8, .p (pI c))], [some (.cells [.p (.list nb (l.map Sup.pv))])]⟩) (fun (c : Nat) => c ≤ xs.length ∧ ∀ (k : Nat) (h : k < xs.length), k < c → (fun x => badD l.length x) xs[k] = false) (fun (c : Nat) => xs.length - c) 0 ?_ ?_ ?_; (refine SubA.auto rfl rfl rfl rfl ?_ ?_ <;> repeat' (first | exact trivial | refine And.intro ?_ ?_ | with_reducible rfl | (refine pIEq ?_; exact ar_) | (refine bufMap ?_) | (refine bufNil ?_) | (refine bufEq ?_) | rfl))
  · exact ⟨by omega, by omega⟩
  rintro c ⟨hc, hok⟩
  rcases Nat.lt_or_ge c xs.length with hlt | hge
  · (conv => whnf); repeat' ((first | apply CondA.plain | refine' gC | refine' gpI | refine' gpB | refine' gSuppv | refine' gDrpv | refine' gE | (apply DrawA.quiet (by kernel_rfl) (by kernel_rfl); (conv => whnf); fail_if_success (show False))) <;> (conv => whnf))
    refine CallA.loc [0] [] rfl rfl ((badD_call nb l xs[c]).mono ?_)
    rintro r H ⟨rfl, rfl⟩
    (conv => whnf); repeat' ((first | apply CondA.plain | refine' gC | refine' gpI | refine' gpB | refine' gSuppv | refine' gDrpv | refine' gE | (apply DrawA.quiet (by kernel_rfl) (by kernel_rfl); (conv => whnf); fail_if_success (show False))) <;> (conv => whnf))
    · (refine' RetK.auto (.p (pI c)) ([some (.cells [.p (.list nb (l.map Sup.pv))])]) rfl rfl rfl rfl _ _ _ <;> repeat' (first | exact trivial | refine And.intro ?_ ?_ | with_reducible rfl | (refine pIEq ?_; exact ar_) | (refine bufMap ?_) | (refine bufNil ?_) | (refine bufEq ?_) | rfl))
      refine ⟨c, rfl, ?_⟩
      rw [List.any_eq_true.2 ⟨xs[c], List.getElem_mem _, by first | exact h0 | exact decide_eq_true h0 | exact decide_eq_true (by omega) | (simp only [badD]; simp_all; done)⟩]
      exact decide_eq_true (by omega)
    · (refine' ⟨c + 1, _, _, _⟩; rotate_right; (refine SubA.auto rfl rfl rfl rfl ?_ ?_ <;> repeat' (first | exact trivial | refine And.intro ?_ ?_ | with_reducible rfl | (refine pIEq ?_; exact ar_) | (refine bufMap ?_) | (refine bufNil ?_) | (refine bufEq ?_) | rfl)); rotate_right; exact ar2_)
      exact ⟨by omega, all_succ hok fun _ => by first | exact h0 | exact decide_eq_false h0 | exact decide_eq_false (by omega) | (simp only [badD]; simp_all; done)⟩
  · (conv => whnf); repeat' ((first | apply CondA.plain | refine' gC | refine' gpI | refine' gpB | refine' gSuppv | refine' gDrpv | refine' gE | (apply DrawA.quiet (by kernel_rfl) (by kernel_rfl); (conv => whnf); fail_if_success (show False))) <;> (conv => whnf))
    (refine' RetK.auto (.p (pI (-1))) ([some (.cells [.p (.list nb (l.map Sup.pv))])]) rfl rfl rfl rfl _ _ _ <;> repeat' (first | exact trivial | refine And.intro ?_ ?_ | with_reducible rfl | (refine pIEq ?_; exact ar_) | (refine bufMap ?_) | (refine bufNil ?_) | (refine bufEq ?_) | rfl))
    refine ⟨-1, rfl, ?_⟩
    rw [List.any_eq_false.2]
    · rfl
    · intro x hx
      obtain ⟨k, hk, rfl⟩ := List.getElem_of_mem hx
      exact Bool.eq_false_iff.1 (hok k hk (by omega))
theorem badD_contains (nb : Bool) (l : List Sup) (nl : Bool) (xs : List _) : ACall Tryz.prog 75 [.p (.list nl (xs.map Dr.pv)), .clo (.func 76) [.ptr 0 0]] [some (.cells [.p (.list nb (l.map Sup.pv))])] fun r H => r = .p (pB (xs.any fun x => badD l.length x)) ∧ H = [some (.cells [.p (.list nb (l.map Sup.pv))])] := by
  refine acall_enter Tryz.func75 rfl rfl tabOK rfl ?_
  (conv => whnf); repeat' ((first | apply CondA.plain | refine' gC | refine' gpI | refine' gpB | refine' gSuppv | refine' gDrpv | refine' gE | (apply DrawA.quiet (by kernel_rfl) (by kernel_rfl); (conv => whnf); fail_if_success (show False))) <;> (conv => whnf))
  refine CallA.all ((badD_index nb l nl xs).mono ?_)
  rintro r H ⟨⟨v, rfl, hv⟩, rfl⟩
  (conv => whnf); repeat' ((first | apply CondA.plain | refine' gC | refine' gpI | refine' gpB | refine' gSuppv | refine' gDrpv | refine' gE | (apply DrawA.quiet (by kernel_rfl) (by kernel_rfl); (conv => whnf); fail_if_success (show False))) <;> (conv => whnf))
  (refine' RetK.auto (.p (pB (xs.any fun x => badD l.length x))) ([some (.cells [.p (.list nb (l.map Sup.pv))])]) rfl rfl rfl rfl _ _ _ <;> repeat' (first | exact trivial | refine And.intro ?_ ?_ | with_reducible rfl | (refine pIEq ?_; exact ar_) | (refine bufMap ?_) | (refine bufNil ?_) | (refine bufEq ?_) | rfl))
  rw [← hv]; rfl

theorem sDraws_call (nl n2 : Bool) (l : List Sup) (d : List Dr) : ACall Tryz.prog 33 [.p (.list nl (l.map Sup.pv)), .p (.list n2 (d.map Dr.pv))] [] fun r H => ∃ b : Bool, r = .p (pB b) ∧ H = [] ∧ (b = true ↔ AllS l ∧ AllD l.length d) := by
  refine acall_enter Tryz.func33 rfl rfl tabOK rfl ?_
  (conv => whnf); repeat' ((first | apply CondA.plain | refine' gC | refine' gpI | refine' gpB | refine' gSuppv | refine' gDrpv | refine' gE | (apply DrawA.quiet (by kernel_rfl) (by kernel_rfl); (conv => whnf); fail_if_success (show False)) | ((refine call_exI (sCheck_call nl l) ?_; intro e he))) <;> (conv => whnf))
  · have hl : AllS l := he.1 (by assumption)
    refine CallA.loc [0] [] rfl rfl ((badD_contains nl l n2 d).mono ?_)
    rintro r H ⟨rfl, rfl⟩
    (conv => whnf); repeat' ((first | apply CondA.plain | refine' gC | refine' gpI | refine' gpB | refine' gSuppv | refine' gDrpv | refine' gE | (apply DrawA.quiet (by kernel_rfl) (by kernel_rfl); (conv => whnf); fail_if_success (show False))) <;> (conv => whnf))
    (refine RetK.p ?_ <;> repeat' (first | exact trivial | refine And.intro ?_ ?_ | with_reducible rfl | (refine pIEq ?_; exact ar_) | (refine bufMap ?_) | (refine bufNil ?_) | (refine bufEq ?_) | rfl); all_goals try first | refine pBEq ?_ | refine pIEq ?_)
    refine ⟨_, rfl, rfl, ?_⟩
    rw [cond_true, Bool.not_eq_true', List.any_eq_false]
    constructor
    · exact fun h => ⟨hl, by omega, fun x hx => by have := h x hx; unfold badD at this; simpa using this⟩
    · rintro ⟨_, h⟩ x hx
      have := h.2 x hx
      unfold badD
      simpa using this
  · (refine RetK.p ?_ <;> repeat' (first | exact trivial | refine And.intro ?_ ?_ | with_reducible rfl | (refine pIEq ?_; exact ar_) | (refine bufMap ?_) | (refine bufNil ?_) | (refine bufEq ?_) | rfl); all_goals try first | refine pBEq ?_ | refine pIEq ?_)
    exact ⟨_, rfl, rfl, fun h => (by cases h), fun h => (by have := h.2.1; omega)⟩
  · (refine RetK.p ?_ <;> repeat' (first | exact trivial | refine And.intro ?_ ?_ | with_reducible rfl | (refine pIEq ?_; exact ar_) | (refine bufMap ?_) | (refine bufNil ?_) | (refine bufEq ?_) | rfl); all_goals try first | refine pBEq ?_ | refine pIEq ?_)
    exact ⟨_, rfl, rfl, fun h => (by cases h), fun h => absurd (he.2 h.1) (by assumption)⟩
open Go.Abs
set_option maxRecDepth 100000
def Rl.pv (n1 n3 : Bool) (r : Rl) : PV := .agg [.list n1 (r.on.map pB), .list n3 (r.lev.map pI)]
theorem sRails_call (nl n1 n3 : Bool) (l : List Sup) (r : Rl) : ACall Tryz.prog 85 [.p (.list nl (l.map Sup.pv)), .p (Rl.pv n1 n3 r)] [] fun r' H => ∃ b : Bool, r' = .p (pB b) ∧ H = [] ∧ (b = true ↔ AllS l ∧ RlV l r) := by
  refine acall_enter Tryz.func85 rfl rfl tabOK rfl ?_
  (conv => whnf); repeat' ((first | apply CondA.plain | refine' gC | refine' gpI | refine' gpB | refine' gSuppv | refine' gDrpv | refine' gE | (apply DrawA.quiet (by kernel_rfl) (by kernel_rfl); (conv => whnf); fail_if_success (show False)) | ((refine call_exI (sCheck_call nl l) ?_; intro e he))) <;> (conv => whnf))
  · (refine RetK.p ?_ <;> repeat' (first | exact trivial | refine And.intro ?_ ?_ | with_reducible rfl | (refine pIEq ?_; exact ar_) | (refine bufMap ?_) | (refine bufNil ?_) | (refine bufEq ?_) | rfl); all_goals try first | refine pBEq ?_ | refine pIEq ?_)
    exact ⟨_, rfl, rfl, fun h => (by cases h), fun h => absurd (he.2 h.1) (by assumption)⟩
  · (refine RetK.p ?_ <;> repeat' (first | exact trivial | refine And.intro ?_ ?_ | with_reducible rfl | (refine pIEq ?_; exact ar_) | (refine bufMap ?_) | (refine bufNil ?_) | (refine bufEq ?_) | rfl); all_goals try first | refine pBEq ?_ | refine pIEq ?_)
    exact ⟨_, rfl, rfl, fun h => (by cases h), fun h => (by have := h.2.1; omega)⟩
  · (refine RetK.p ?_ <;> repeat' (first | exact trivial | refine And.intro ?_ ?_ | with_reducible rfl | (refine pIEq ?_; exact ar_) | (refine bufMap ?_) | (refine bufNil ?_) | (refine bufEq ?_) | rfl); all_goals try first | refine pBEq ?_ | refine pIEq ?_)
    exact ⟨_, rfl, rfl, fun h => (by cases h), fun h => (by have := h.2.2.1; omega)⟩
  have hl : AllS l := he.1 (by assumption)
  have e1 : r.on.length = l.length := by omega
  have e2 : r.lev.length = l.length := by omega
  refine loop_rule (fun (c : Nat) => ⟨[(0, .p (.list nl (l.map Sup.pv))), (27, .p (.list n3 (r.lev.map pI))), (28, .p (pI r.lev.length)), (29, .p (pI c))], []⟩) (fun (c : Nat) => c ≤ r.lev.length ∧ ∀ (k : Nat) (h : k < l.length) (h' : k < r.lev.length), k < c → 0 ≤ r.lev[k] ∧ r.lev[k] < (l[k]).lv.length) (fun (c : Nat) => r.lev.length - c) 0 ?_ ?_ ?_; (refine SubA.auto rfl rfl rfl rfl ?_ ?_ <;> repeat' (first | exact trivial | refine And.intro ?_ ?_ | with_reducible rfl | (refine pIEq ?_; exact ar_) | (refine bufMap ?_) | (refine bufNil ?_) | (refine bufEq ?_) | rfl))
  · exact ⟨by omega, fun k h h' hk => by omega⟩
  rintro c ⟨hc, hv⟩
  clear he
  (conv => whnf); repeat' ((first | apply CondA.plain | refine' gC | refine' gpI | refine' gpB | refine' gSuppv | refine' gDrpv | refine' gE | (apply DrawA.quiet (by kernel_rfl) (by kernel_rfl); (conv => whnf); fail_if_success (show False)) | (refine CallA.scalar (swithin_call _ _ _) ?_)) <;> (conv => whnf))
  · have hcl : c < r.lev.length := by omega
    (refine RetK.p ?_ <;> repeat' (first | exact trivial | refine And.intro ?_ ?_ | with_reducible rfl | (refine pIEq ?_; exact ar_) | (refine bufMap ?_) | (refine bufNil ?_) | (refine bufEq ?_) | rfl); all_goals try first | refine pBEq ?_ | refine pIEq ?_)
    simp only [decide_eq_false_iff_not] at h0
    exact ⟨_, rfl, rfl, fun h => (by cases h), fun h => absurd (h.2.2.2 c (by omega) hcl) (by omega)⟩
  · have hcl : c < r.lev.length := by omega
    simp only [decide_eq_true_eq] at h0
    (refine' ⟨c + 1, _, _, _⟩; rotate_right; (refine SubA.auto rfl rfl rfl rfl ?_ ?_ <;> repeat' (first | exact trivial | refine And.intro ?_ ?_ | with_reducible rfl | (refine pIEq ?_; exact ar_) | (refine bufMap ?_) | (refine bufNil ?_) | (refine bufEq ?_) | rfl)); rotate_right; exact ar2_)
    refine ⟨by omega, fun k h h' hk => ?_⟩
    rcases Nat.lt_or_ge k c with h3 | h3
    · exact hv k h h' h3
    · obtain rfl : k = c := by omega
      omega
  · (refine RetK.p ?_ <;> repeat' (first | exact trivial | refine And.intro ?_ ?_ | with_reducible rfl | (refine pIEq ?_; exact ar_) | (refine bufMap ?_) | (refine bufNil ?_) | (refine bufEq ?_) | rfl); all_goals try first | refine pBEq ?_ | refine pIEq ?_)
    exact ⟨_, rfl, rfl, fun _ => ⟨hl, e1, e2, fun k h h' => hv k h h' (by omega)⟩, fun _ => rfl⟩
instance (l : List Sup) (r : Rl) (x : Dr) : Decidable (x.lo ≤ vt l x.sup.toNat (lvA r x.sup.toNat) ∧ vt l x.sup.toNat (lvA r x.sup.toNat) ≤ x.hi) := by infer_instance
def offD (l : List Sup) (r : Rl) (x : Dr) : Bool := !decide (x.lo ≤ vt l x.sup.toNat (lvA r x.sup.toNat) ∧ vt l x.sup.toNat (lvA r x.sup.toNat) ≤ x.hi)
theorem offD_call (nl n1 n3 : Bool) (l : List Sup) (q : Rl) (hr : RlV l q) (x : Dr) (hx : 0 ≤ x.sup ∧ x.sup < l.length) : ACall Tryz.prog 87 [.p x.pv, .ptr 0 0, .ptr 1 0] [some (.cells [.p (.list nl (l.map Sup.pv))]), some (.cells [.p (.list n1 (q.on.map pB)), .p (.list n3 (q.lev.map pI))])] fun r' H => r' = .p (pB (offD l q x)) ∧ H = [some (.cells [.p (.list nl (l.map Sup.pv))]), some (.cells [.p (.list n1 (q.on.map pB)), .p (.list n3 (q.lev.map pI))])] := by
  refine acall_enter Tryz.func87 rfl rfl tabOK rfl ?_
  have h1 := hr.2.1
  have h2 := hr.2.2 x.sup.toNat (by omega) (by omega)
  (conv => whnf); repeat' ((first | apply CondA.plain | refine' gC | refine' gpI | refine' gpB | refine' gSuppv | refine' gDrpv | refine' gE | (apply DrawA.quiet (by kernel_rfl) (by kernel_rfl); (conv => whnf); fail_if_success (show False)) | (refine CallQ.mk' (swithin_call _ _ _) ?_)) <;> (conv => whnf))
  (refine' RetK.auto (.p (pB _)) ([some (.cells [.p (.list nl (l.map Sup.pv))]), some (.cells [.p (.list n1 (q.on.map pB)), .p (.list n3 (q.lev.map pI))])]) rfl rfl rfl rfl _ _ _ <;> repeat' (first | exact trivial | refine And.intro ?_ ?_ | with_reducible rfl | (refine pIEq ?_; exact ar_) | (refine bufMap ?_) | (refine bufNil ?_) | (refine bufEq ?_) | rfl))
  refine congrArg (fun b => AV.p (pB b)) ?_
  have e : vt l x.sup.toNat (lvA q x.sup.toNat) = (l[x.sup.toNat]'(by omega)).lv[(q.lev[x.sup.toNat]'(by omega)).toNat]'(by omega) := by
    unfold vt lvA
    rw [getD_at (show x.sup.toNat < l.length by omega), getD_at (show x.sup.toNat < q.lev.length by omega), getD_at (by omega)]
  simp only [offD, e]

theorem offD_index (nl n1 n3 : Bool) (l : List Sup) (q : Rl) (hr : RlV l q) (n2 : Bool) (xs : List Dr) (hx : ∀ x ∈ xs, 0 ≤ x.sup ∧ x.sup < (l.length : Int)) : ACall Tryz.prog 133 [.p (.list n2 (xs.map Dr.pv)), .clo (.func 87) [.ptr 0 0, .ptr 1 0]] [some (.cells [.p (.list nl (l.map Sup.pv))]), some (.cells [.p (.list n1 (q.on.map pB)), .p (.list n3 (q.lev.map pI))])] fun r H => (∃ v : Int, r = .p (pI v) ∧ (decide (0 ≤ v) = xs.any fun x => offD l q x)) ∧ H = [some (.cells [.p (.list nl (l.map Sup.pv))]), some (.cells [.p (.list n1 (q.on.map pB)), .p (.list n3 (q.lev.map pI))])] := by
  refine acall_enter Tryz.func133 rfl rfl tabOK rfl ?_
  (conv => whnf); repeat' ((first | apply CondA.plain | refine' gC | refine' gpI | refine' gpB | refine' gSuppv | refine' gDrpv | refine' gE | (apply DrawA.quiet (by kernel_rfl) (by kernel_rfl); (conv => whnf); fail_if_success (show False))) <;> (conv => whnf))
  refine loop_rule (fun (c : Nat) => ⟨[(0, .p (.list n2 (xs.map Dr.pv))), (1, .clo (.func 87) [.ptr 0 0, .ptr 1 0]), (7, .p (pI xs.length)), (8, .p (pI c))], [some (.cells [.p (.list nl (l.map Sup.pv))]), some (.cells [.p (.list n1 (q.on.map pB)), .p (.list n3 (q.lev.map pI))])]⟩) (fun (c : Nat) => c ≤ xs.length ∧ ∀ (k : Nat) (h : k < xs.length), k < c → (fun x => offD l q x) xs[k] = false) (fun (c : Nat) => xs.length - c) 0 ?_ ?_ ?_; (refine SubA.auto rfl rfl rfl rfl ?_ ?_ <;> repeat' (first | exact trivial | refine And.intro ?_ ?_ | with_reducible rfl | (refine pIEq ?_; exact ar_) | (refine bufMap ?_) | (refine bufNil ?_) | (refine bufEq ?_) | rfl))
  · exact ⟨by omega, by omega⟩
  rintro c ⟨hc, hok⟩
  rcases Nat.lt_or_ge c xs.length with hlt | hge
  · (conv => whnf); repeat' ((first | apply CondA.plain | refine' gC | refine' gpI | refine' gpB | refine' gSuppv | refine' gDrpv | refine' gE | (apply DrawA.quiet (by kernel_rfl) (by kernel_rfl); (conv => whnf); fail_if_success (show False))) <;> (conv => whnf))
    refine CallA.loc [0, 1] [] rfl rfl ((offD_call nl n1 n3 l q hr xs[c] (hx _ (List.getElem_mem _))).mono ?_)
    rintro r H ⟨rfl, rfl⟩
    (conv => whnf); repeat' ((first | apply CondA.plain | refine' gC | refine' gpI | refine' gpB | refine' gSuppv | refine' gDrpv | refine' gE | (apply DrawA.quiet (by kernel_rfl) (by kernel_rfl); (conv => whnf); fail_if_success (show False))) <;> (conv => whnf))
    · (refine' RetK.auto (.p (pI c)) ([some (.cells [.p (.list nl (l.map Sup.pv))]), some (.cells [.p (.list n1 (q.on.map pB)), .p (.list n3 (q.lev.map pI))])]) rfl rfl rfl rfl _ _ _ <;> repeat' (first | exact trivial | refine And.intro ?_ ?_ | with_reducible rfl | (refine pIEq ?_; exact ar_) | (refine bufMap ?_) | (refine bufNil ?_) | (refine bufEq ?_) | rfl))
      refine ⟨c, rfl, ?_⟩
      rw [List.any_eq_true.2 ⟨xs[c], List.getElem_mem _, by first | exact h0 | exact decide_eq_true h0 | exact congrArg (! ·) h0 | exact decide_eq_true (by omega)⟩]
      exact decide_eq_true (by omega)
    · (refine' ⟨c + 1, _, _, _⟩; rotate_right; (refine SubA.auto rfl rfl rfl rfl ?_ ?_ <;> repeat' (first | exact trivial | refine And.intro ?_ ?_ | with_reducible rfl | (refine pIEq ?_; exact ar_) | (refine bufMap ?_) | (refine bufNil ?_) | (refine bufEq ?_) | rfl)); rotate_right; exact ar2_)
      exact ⟨by omega, all_succ hok fun _ => by first | exact h0 | exact decide_eq_false h0 | exact congrArg (! ·) h0 | exact decide_eq_false (by omega)⟩
  · (conv => whnf); repeat' ((first | apply CondA.plain | refine' gC | refine' gpI | refine' gpB | refine' gSuppv | refine' gDrpv | refine' gE | (apply DrawA.quiet (by kernel_rfl) (by kernel_rfl); (conv => whnf); fail_if_success (show False))) <;> (conv => whnf))
    (refine' RetK.auto (.p (pI (-1))) ([some (.cells [.p (.list nl (l.map Sup.pv))]), some (.cells [.p (.list n1 (q.on.map pB)), .p (.list n3 (q.lev.map pI))])]) rfl rfl rfl rfl _ _ _ <;> repeat' (first | exact trivial | refine And.intro ?_ ?_ | with_reducible rfl | (refine pIEq ?_; exact ar_) | (refine bufMap ?_) | (refine bufNil ?_) | (refine bufEq ?_) | rfl))
    refine ⟨-1, rfl, ?_⟩
    rw [List.any_eq_false.2]
    · rfl
    · intro x hx
      obtain ⟨k, hk, rfl⟩ := List.getElem_of_mem hx
      exact Bool.eq_false_iff.1 (hok k hk (by omega))
theorem offD_contains (nl n1 n3 : Bool) (l : List Sup) (q : Rl) (hr : RlV l q) (n2 : Bool) (xs : List Dr) (hx : ∀ x ∈ xs, 0 ≤ x.sup ∧ x.sup < (l.length : Int)) : ACall Tryz.prog 75 [.p (.list n2 (xs.map Dr.pv)), .clo (.func 87) [.ptr 0 0, .ptr 1 0]] [some (.cells [.p (.list nl (l.map Sup.pv))]), some (.cells [.p (.list n1 (q.on.map pB)), .p (.list n3 (q.lev.map pI))])] fun r H => r = .p (pB (xs.any fun x => offD l q x)) ∧ H = [some (.cells [.p (.list nl (l.map Sup.pv))]), some (.cells [.p (.list n1 (q.on.map pB)), .p (.list n3 (q.lev.map pI))])] := by
  refine acall_enter Tryz.func75 rfl rfl tabOK rfl ?_
  (conv => whnf); repeat' ((first | apply CondA.plain | refine' gC | refine' gpI | refine' gpB | refine' gSuppv | refine' gDrpv | refine' gE | (apply DrawA.quiet (by kernel_rfl) (by kernel_rfl); (conv => whnf); fail_if_success (show False))) <;> (conv => whnf))
  refine CallA.all ((offD_index nl n1 n3 l q hr n2 xs hx).mono ?_)
  rintro r H ⟨⟨v, rfl, hv⟩, rfl⟩
  (conv => whnf); repeat' ((first | apply CondA.plain | refine' gC | refine' gpI | refine' gpB | refine' gSuppv | refine' gDrpv | refine' gE | (apply DrawA.quiet (by kernel_rfl) (by kernel_rfl); (conv => whnf); fail_if_success (show False))) <;> (conv => whnf))
  (refine' RetK.auto (.p (pB (xs.any fun x => offD l q x))) ([some (.cells [.p (.list nl (l.map Sup.pv))]), some (.cells [.p (.list n1 (q.on.map pB)), .p (.list n3 (q.lev.map pI))])]) rfl rfl rfl rfl _ _ _ <;> repeat' (first | exact trivial | refine And.intro ?_ ?_ | with_reducible rfl | (refine pIEq ?_; exact ar_) | (refine bufMap ?_) | (refine bufNil ?_) | (refine bufEq ?_) | rfl))
  rw [← hv]; rfl

def Row (l : List Sup) (r : Rl) (us : List Bool) (ld : List Int) (c : Nat) : Prop := (onA r c = false → us.getD c false = false) ∧ (onA r c = true → (0 ≤ parA l c → onA r (parA l c).toNat = true ∧ vt l c (lvA r c) + dropA l c ≤ vt l (parA l c).toNat (lvA r (parA l c).toNat)) ∧ ld.getD c 0 ≤ (l.getD c default).cap)
theorem meet_rows {l : List Sup} {r : Rl} {d : List Dr} (hl : AllS l) (hr : RlV l r) (hd : AllD l.length d) : Meet l r d ↔ (∀ c, c < l.length → Row l r (usedF l d) (loadsF l d) c) ∧ ∀ x ∈ d, offD l r x = false := by
  have ho : ∀ x, offD l r x = false ↔ (x.lo ≤ vt l x.sup.toNat (lvA r x.sup.toNat) ∧ vt l x.sup.toNat (lvA r x.sup.toNat) ≤ x.hi) := fun x => by unfold offD; simp
  constructor
  · intro h
    refine ⟨fun c hc => ⟨fun hf => ?_, fun hf => ⟨h.par c hc hf, h.load c hc hf⟩⟩, fun x hx => (ho x).2 (h.draw x hx)⟩
    cases hu : (usedF l d).getD c false
    · rfl
    · have := h.use c hc ((used_iff hl hd hc).1 hu)
      rw [hf] at this
      cases this
  · rintro ⟨h1, h2⟩
    refine ⟨hr, hd, fun c hc hu => ?_, fun c hc hf => ((h1 c hc).2 hf).1, fun c hc hf => ((h1 c hc).2 hf).2, fun x hx => (ho x).1 (h2 x hx)⟩
    cases hf : onA r c
    · have := (h1 c hc).1 hf
      rw [(used_iff hl hd hc).2 hu] at this
      cases this
    · rfl
def mASC0 : Sc := (.one 3 (.one 5 (.take 6 (.take 7 .done))))
def mASC1 : Sc := (.one 2 (.one 5 (.take 6 (.take 7 .done))))
def mASC2 : Sc := (.two 2 3 mASC0 mASC1)
def mASC3 : Sc := (.one 0 (.one 2 (.one 5 (.take 6 (.take 7 .done)))))
def mA : Sc := (.take 1 (.take 4 (.two 0 3 mASC2 mASC3)))
set_option maxHeartbeats 2000000 in
theorem sMeets_call (nl n1 n2 n3 : Bool) (l : List Sup) (r : Rl) (d : List Dr) : ACall Tryz.prog 43 [.p (.list nl (l.map Sup.pv)), .p (Rl.pv n1 n3 r), .p (.list n2 (d.map Dr.pv))] [] fun r' H => ∃ b : Bool, r' = .p (pB b) ∧ H = [] ∧ (b = true ↔ AllS l ∧ Meet l r d) := by
  refine acall_enter Tryz.func43 rfl rfl tabOK rfl ?_
  (conv => whnf); repeat' ((first | apply CondA.plain | refine' gC | refine' gpI | refine' gpB | refine' gSuppv | refine' gDrpv | refine' gE | ((refine call_exB (sRails_call nl n1 n3 l r) ?_; intro b1 hb1)) | ((refine call_exB (sDraws_call nl n2 l d) ?_; intro b2 hb2))) <;> (conv => whnf))
  · (refine RetK.p ?_ <;> repeat' (first | exact trivial | refine And.intro ?_ ?_ | with_reducible rfl | (refine pIEq ?_; exact ar_) | (refine bufMap ?_) | (refine bufNil ?_) | (refine bufEq ?_) | rfl); all_goals try first | refine pBEq ?_ | refine pIEq ?_)
    exact ⟨_, rfl, rfl, fun h => (by cases h), fun h => by rw [hb1.2 ⟨h.1, h.2.rv⟩] at h0; cases h0⟩
  · (refine RetK.p ?_ <;> repeat' (first | exact trivial | refine And.intro ?_ ?_ | with_reducible rfl | (refine pIEq ?_; exact ar_) | (refine bufMap ?_) | (refine bufNil ?_) | (refine bufEq ?_) | rfl); all_goals try first | refine pBEq ?_ | refine pIEq ?_)
    exact ⟨_, rfl, rfl, fun h => (by cases h), fun h => by rw [hb2.2 ⟨h.1, h.2.dv⟩] at h0; cases h0⟩
  obtain ⟨hl, hr⟩ := hb1.1 (by assumption)
  obtain ⟨_, hd⟩ := hb2.1 (by assumption)
  have hul := len_usedF l d
  have hll : (loadsF l d).length = l.length := len_ldP l d _
  have e1 := hr.1
  have e2 := hr.2.1
  refine DrawA.meet (fun (⟨m1, m2⟩ : Bool × Bool) => ⟨[(2, .p (.list n2 (d.map Dr.pv))), (3, .ptr 0 0), (4, .ptr 1 0), (7, .p (.list m1 ((usedF l d).map pB))), (8, .p (.list m2 ((loadsF l d).map pI)))], [some (.cells [.p (.list nl (l.map Sup.pv))]), some (.cells [.p (.list n1 (r.on.map pB)), .p (.list n3 (r.lev.map pI))])]⟩) (fun (⟨m1, m2⟩ : Bool × Bool) => True) (DrawB.orders mA (by kernel_rfl) (by kernel_rfl) (by kernel_rfl) ?_) ?_
  · (conv => whnf); repeat' ((first | apply CondA.plain | refine' gC | refine' gpI | refine' gpB | refine' gSuppv | refine' gDrpv | refine' gE | ((refine CallA.loc [] [] rfl rfl ((used_call nl n2 l d hl hd).mono ?_); rintro _ _ ⟨m1, rfl, rfl⟩)) | ((refine CallA.loc [] [] rfl rfl ((loads_call nl n2 l d hl hd).mono ?_); rintro _ _ ⟨m2, rfl, rfl⟩))) <;> (conv => whnf))
    all_goals (refine' ⟨(m1, m2), _, _⟩; rotate_right; (refine SubA.auto rfl rfl rfl rfl ?_ ?_ <;> repeat' (first | exact trivial | refine And.intro ?_ ?_ | with_reducible rfl | (refine pIEq ?_; exact ar_) | (refine bufMap ?_) | (refine bufNil ?_) | (refine bufEq ?_) | rfl)); rotate_right; exact ar2_)
  rintro ⟨m1, m2⟩ _
  (conv => whnf); repeat' ((first | apply CondA.plain | refine' gC | refine' gpI | refine' gpB | refine' gSuppv | refine' gDrpv | refine' gE | (apply DrawA.quiet (by kernel_rfl) (by kernel_rfl); (conv => whnf); fail_if_success (show False))) <;> (conv => whnf))
  refine loop_rule (fun (c : Nat) => ⟨[(2, .p (.list n2 (d.map Dr.pv))), (3, .ptr 0 0), (4, .ptr 1 0), (7, .p (.list m1 ((usedF l d).map pB))), (8, .p (.list m2 ((loadsF l d).map pI))), (28, .p (.list nl (l.map Sup.pv))), (29, .p (pI l.length)), (30, .p (pI c))], [some (.cells [.p (.list nl (l.map Sup.pv))]), some (.cells [.p (.list n1 (r.on.map pB)), .p (.list n3 (r.lev.map pI))])]⟩) (fun (c : Nat) => c ≤ l.length ∧ ∀ k, k < c → Row l r (usedF l d) (loadsF l d) k) (fun (c : Nat) => l.length - c) 0 ?_ ?_ ?_; (refine SubA.auto rfl rfl rfl rfl ?_ ?_ <;> repeat' (first | exact trivial | refine And.intro ?_ ?_ | with_reducible rfl | (refine pIEq ?_; exact ar_) | (refine bufMap ?_) | (refine bufNil ?_) | (refine bufEq ?_) | rfl))
  · exact ⟨by omega, fun k hk => by omega⟩
  rintro c ⟨hc, hrow⟩
  have hmr := meet_rows (d := d) hl hr hd
  have h16 := hl.1
  have hsucc : Row l r (usedF l d) (loadsF l d) c → ∀ k, k < c + 1 → Row l r (usedF l d) (loadsF l d) k := fun h k hk => by
    rcases Nat.lt_or_ge k c with h3 | h3
    · exact hrow k h3
    · obtain rfl : k = c := by omega
      exact h
  have hfail : ¬ Row l r (usedF l d) (loadsF l d) c → c < l.length → ¬ (AllS l ∧ Meet l r d) := fun h hcl ⟨_, hm⟩ => h ((hmr.1 hm).1 c hcl)
  rcases Nat.lt_or_ge c l.length with hcl | hcl
  · have hfail := fun h => hfail h hcl
    have hv := hl.2.2 c hcl
    have hlc := hr.2.2 c hcl (by omega)
    have hdc := hv.2.2.1
    have hvc := hv.2.2.2.2.2.1 _ (List.getElem_mem (show (r.lev[c]'(by omega)).toNat < (l[c]).lv.length by omega))
    by_cases hp : 0 ≤ (l[c]).par
    · have hpn : (l[c]).par.toNat < l.length := by have := hv.1; omega
      have hlp := hr.2.2 _ hpn (by omega)
      have hrw : Row l r (usedF l d) (loadsF l d) c ↔ ((r.on[c]'(by omega) = false → (usedF l d)[c]'(by omega) = false) ∧ (r.on[c]'(by omega) = true → (r.on[(l[c]).par.toNat]'(by omega) = true ∧ (l[c]).lv[(r.lev[c]'(by omega)).toNat]'(by omega) + (l[c]).drop ≤ (l[(l[c]).par.toNat]'hpn).lv[(r.lev[(l[c]).par.toNat]'(by omega)).toNat]'(by omega)) ∧ (loadsF l d)[c]'(by omega) ≤ (l[c]).cap)) := by
        unfold Row onA lvA vt parA dropA
        simp only [getD_at hcl, getD_at hpn, getD_at (show c < r.on.length by omega), getD_at (show c < r.lev.length by omega), getD_at (show (l[c]).par.toNat < r.on.length by omega), getD_at (show (l[c]).par.toNat < r.lev.length by omega), getD_at (show c < (usedF l d).length by omega), getD_at (show c < (loadsF l d).length by omega), getD_at (show (r.lev[c]'(by omega)).toNat < (l[c]).lv.length by omega), getD_at (show (r.lev[(l[c]).par.toNat]'(by omega)).toNat < (l[(l[c]).par.toNat]'hpn).lv.length by omega), hp, true_implies]
      rw [hrw] at hfail hsucc
      clear hrw hrow hmr
      (conv => whnf); repeat' ((first | apply CondA.plain | refine' gC | refine' gpI | refine' gpB | refine' gSuppv | refine' gDrpv | refine' gE | (apply DrawA.quiet (by kernel_rfl) (by kernel_rfl); (conv => whnf); fail_if_success (show False))) <;> (conv => whnf))
      all_goals first
      | ((refine RetK.p ?_ <;> repeat' (first | exact trivial | refine And.intro ?_ ?_ | with_reducible rfl | (refine pIEq ?_; exact ar_) | (refine bufMap ?_) | (refine bufNil ?_) | (refine bufEq ?_) | rfl); all_goals try first | refine pBEq ?_ | refine pIEq ?_)
         refine ⟨_, rfl, rfl, fun h => (by cases h), fun h => absurd h (hfail ?_)⟩
         clear hfail hsucc
         grind)
      | ((refine' ⟨c + 1, _, _, _⟩; rotate_right; (refine SubA.auto rfl rfl rfl rfl ?_ ?_ <;> repeat' (first | exact trivial | refine And.intro ?_ ?_ | with_reducible rfl | (refine pIEq ?_; exact ar_) | (refine bufMap ?_) | (refine bufNil ?_) | (refine bufEq ?_) | rfl)); rotate_right; exact ar2_)
         refine ⟨by omega, hsucc ?_⟩
         clear hfail hsucc
         grind)
    · have hrw : Row l r (usedF l d) (loadsF l d) c ↔ ((r.on[c]'(by omega) = false → (usedF l d)[c]'(by omega) = false) ∧ (r.on[c]'(by omega) = true → (loadsF l d)[c]'(by omega) ≤ (l[c]).cap)) := by
        unfold Row onA lvA vt parA dropA
        simp only [getD_at hcl, getD_at (show c < r.on.length by omega), getD_at (show c < (usedF l d).length by omega), getD_at (show c < (loadsF l d).length by omega), hp, false_implies, true_and]
      rw [hrw] at hfail hsucc
      clear hrw hrow hmr
      (conv => whnf); repeat' ((first | apply CondA.plain | refine' gC | refine' gpI | refine' gpB | refine' gSuppv | refine' gDrpv | refine' gE | (apply DrawA.quiet (by kernel_rfl) (by kernel_rfl); (conv => whnf); fail_if_success (show False))) <;> (conv => whnf))
      all_goals first
      | ((refine RetK.p ?_ <;> repeat' (first | exact trivial | refine And.intro ?_ ?_ | with_reducible rfl | (refine pIEq ?_; exact ar_) | (refine bufMap ?_) | (refine bufNil ?_) | (refine bufEq ?_) | rfl); all_goals try first | refine pBEq ?_ | refine pIEq ?_)
         refine ⟨_, rfl, rfl, fun h => (by cases h), fun h => absurd h (hfail ?_)⟩
         clear hfail hsucc
         grind)
      | ((refine' ⟨c + 1, _, _, _⟩; rotate_right; (refine SubA.auto rfl rfl rfl rfl ?_ ?_ <;> repeat' (first | exact trivial | refine And.intro ?_ ?_ | with_reducible rfl | (refine pIEq ?_; exact ar_) | (refine bufMap ?_) | (refine bufNil ?_) | (refine bufEq ?_) | rfl)); rotate_right; exact ar2_)
         refine ⟨by omega, hsucc ?_⟩
         clear hfail hsucc
         grind)
  · (conv => whnf); repeat' ((first | apply CondA.plain | refine' gC | refine' gpI | refine' gpB | refine' gSuppv | refine' gDrpv | refine' gE | (apply DrawA.quiet (by kernel_rfl) (by kernel_rfl); (conv => whnf); fail_if_success (show False))) <;> (conv => whnf))
    refine CallA.loc [0, 1] [] rfl rfl ((offD_contains nl n1 n3 l r hr n2 d fun x hx => (hd.2 x hx).1).mono ?_)
    rintro r' H ⟨rfl, rfl⟩
    (conv => whnf); repeat' ((first | apply CondA.plain | refine' gC | refine' gpI | refine' gpB | refine' gSuppv | refine' gDrpv | refine' gE | (apply DrawA.quiet (by kernel_rfl) (by kernel_rfl); (conv => whnf); fail_if_success (show False))) <;> (conv => whnf))
    (refine RetK.p ?_ <;> repeat' (first | exact trivial | refine And.intro ?_ ?_ | with_reducible rfl | (refine pIEq ?_; exact ar_) | (refine bufMap ?_) | (refine bufNil ?_) | (refine bufEq ?_) | rfl); all_goals try first | refine pBEq ?_ | refine pIEq ?_)
    refine ⟨_, rfl, rfl, ?_⟩
    rw [Bool.not_eq_true', List.any_eq_false]
    constructor
    · exact fun h => ⟨hl, hmr.2 ⟨fun k hk => hrow k (by omega), fun x hx => by simpa using h x hx⟩⟩
    · rintro ⟨_, h⟩ x hx
      simpa using (hmr.1 h).2 x hx
open Go.Abs
set_option maxRecDepth 100000
theorem cNaN_call (x : Int) : ACall Tryz.prog 190 [.p (pI x)] [] fun r H => r = .p (pB false) ∧ H = [] := by
  refine acall_enter Tryz.func190 rfl rfl tabOK rfl ?_
  (conv => whnf); repeat' ((first | apply CondA.plain | refine' gC | refine' gpI | refine' gpB | refine' gSuppv | refine' gE | (apply DrawA.quiet (by kernel_rfl) (by kernel_rfl); (conv => whnf); fail_if_success (show False))) <;> (conv => whnf))
  all_goals first
    | (refine RetK.p ⟨?_, rfl⟩; simp [pB])
    | (refine RetK.p ⟨rfl, rfl⟩)
theorem sNaN_call (x : Int) : ACall Tryz.prog 171 [.p (pI x)] [] fun r H => r = .p (pB false) ∧ H = [] := by
  refine acall_enter Tryz.func171 rfl rfl tabOK rfl ?_
  (conv => whnf); repeat' ((first | apply CondA.plain | refine' gC | refine' gpI | refine' gpB | refine' gSuppv | refine' gE | (apply DrawA.quiet (by kernel_rfl) (by kernel_rfl); (conv => whnf); fail_if_success (show False))) <;> (conv => whnf))
  all_goals first
    | (refine RetK.p ⟨?_, rfl⟩; simp [pB])
    | (refine RetK.p ⟨rfl, rfl⟩)
theorem Less_call (x y : Int) : ACall Tryz.prog 170 [.p (pI x), .p (pI y)] [] fun r H => r = .p (pB (decide (x < y))) ∧ H = [] := by
  refine acall_enter Tryz.func170 rfl rfl tabOK rfl ?_
  (conv => whnf); repeat' ((first | apply CondA.plain | refine' gC | refine' gpI | refine' gpB | refine' gSuppv | refine' gE | (apply DrawA.quiet (by kernel_rfl) (by kernel_rfl); (conv => whnf); fail_if_success (show False)) | (refine CallA.scalar (cNaN_call x) ?_) | (refine CallA.scalar (cNaN_call y) ?_)) <;> (conv => whnf))
  refine RetK.p ⟨?_, rfl⟩
  first | rfl | simp [pB]
def Asc (xs : List Int) : Prop := ∀ (j k : Nat) (hk : k < xs.length) (hjk : j < k), xs[j] < xs[k]
def BLo (xs : List Int) (t : Int) (i : Nat) : Prop := ∀ k (h : k < xs.length), k < i → xs[k] < t
def BHi (xs : List Int) (t : Int) (j : Nat) : Prop := ∀ k (h : k < xs.length), j ≤ k → t ≤ xs[k]
theorem Asc.le {xs : List Int} (h : Asc xs) {i k : Nat} (hk : k < xs.length) (hik : i ≤ k) : xs[i] ≤ xs[k] := by
  rcases Nat.lt_or_ge i k with h1 | h1
  · exact Int.le_of_lt (h i k hk h1)
  · have : i = k := by omega
    subst this; omega
theorem BLo.step {xs : List Int} {t : Int} (hs : Asc xs) {m : Nat} (hm : m < xs.length) (h : xs[m] < t) : BLo xs t (m + 1) := fun k hk hkm => by
  have := hs.le (i := k) hm (by omega); omega
theorem BHi.step {xs : List Int} {t : Int} (hs : Asc xs) {m : Nat} (hm : m < xs.length) (h : ¬ xs[m] < t) : BHi xs t m := fun k hk hkm => by
  have := hs.le (i := m) hk hkm; omega
/-- The index of the least level that is at least a voltage. -/
def lvK (xs : List Int) (v : Int) : Nat := xs.findIdx fun x => decide (v ≤ x)
theorem lvK_eq {xs : List Int} {v : Int} {i : Nat} (hi : i ≤ xs.length) (h1 : BLo xs v i) (h2 : BHi xs v i) : lvK xs v = i := by
  unfold lvK
  rcases Nat.lt_or_eq_of_le hi with h | h
  · rw [List.findIdx_eq h]
    refine ⟨decide_eq_true (h2 i h (Nat.le_refl _)), fun j hj => decide_eq_false ?_⟩
    have := h1 j (by omega) hj
    omega
  · subst h
    rw [List.findIdx_eq_length]
    intro x hx
    obtain ⟨k, hk, rfl⟩ := List.getElem_of_mem hx
    have := h1 k hk hk
    simp
    omega
theorem BinarySearch_call (nl : Bool) (xs : List Int) (t : Int) (hs : Asc xs) (hl : xs.length ≤ 100000) : ACall Tryz.prog 139 [.p (.list nl (xs.map pI)), .p (pI t)] [] fun r H => ∃ b : Bool, r = .tup [.p (pI (lvK xs t : Nat)), .p (pB b)] ∧ H = [] := by
  refine acall_enter Tryz.func139 rfl rfl tabOK rfl ?_
  (conv => whnf); repeat' ((first | apply CondA.plain | refine' gC | refine' gpI | refine' gpB | refine' gSuppv | refine' gE | (apply DrawA.quiet (by kernel_rfl) (by kernel_rfl); (conv => whnf); fail_if_success (show False))) <;> (conv => whnf))
  refine loop_rule (fun (⟨i, j⟩ : Nat × Nat) => ⟨[(0, .p (.list nl (xs.map pI))), (1, .p (pI t)), (6, .p (pI xs.length)), (7, .p (pI i)), (8, .p (pI j))], []⟩) (fun (⟨i, j⟩ : Nat × Nat) => i ≤ j ∧ j ≤ xs.length ∧ BLo xs t i ∧ BHi xs t j) (fun (⟨i, j⟩ : Nat × Nat) => j - i) (0, xs.length) ?_ ?_ ?_; (refine SubA.auto rfl rfl rfl rfl ?_ ?_ <;> repeat' (first | exact trivial | refine And.intro ?_ ?_ | with_reducible rfl | (refine pIEq ?_; exact ar_) | (refine bufMap ?_) | (refine bufNil ?_) | (refine bufEq ?_) | rfl))
  · exact ⟨by omega, by omega, fun k h1 h2 => absurd h2 (by omega), fun k h1 h2 => absurd h1 (by omega)⟩
  rintro ⟨i, j⟩ ⟨hij, hj, hlo, hhi⟩
  rcases Nat.lt_or_ge i j with hlt | hge
  · obtain ⟨m, hm⟩ : ∃ m : Nat, m = (i + j) / 2 := ⟨_, rfl⟩
    have hm1 : i ≤ m ∧ m < j := by omega
    have e1 : ((i : Int) + j).fdiv (2 ^ (min (1 : Int).toNat 64)) = (m : Int) := by
      show ((i : Int) + j).fdiv 2 = m
      rw [Int.fdiv_eq_ediv_of_nonneg _ (by omega)]; omega
    (conv => whnf); repeat' ((first | apply CondA.plain | refine' gC | refine' gpI | refine' gpB | refine' gSuppv | refine' gE | (apply DrawA.quiet (by kernel_rfl) (by kernel_rfl); (conv => whnf); fail_if_success (show False)) | (refine CallA.scalar (Less_call xs[m] t) ?_)) <;> (conv => whnf))
    · (refine' ⟨(m + 1, j), _, _, _⟩; rotate_right; (refine SubA.auto rfl rfl rfl rfl ?_ ?_ <;> repeat' (first | exact trivial | refine And.intro ?_ ?_ | with_reducible rfl | (refine pIEq ?_; exact ar_) | (refine bufMap ?_) | (refine bufNil ?_) | (refine bufEq ?_) | rfl)); rotate_right; exact ar2_)
      exact ⟨by omega, by omega, BLo.step hs (by omega) (by omega), hhi⟩
    · (refine' ⟨(i, m), _, _, _⟩; rotate_right; (refine SubA.auto rfl rfl rfl rfl ?_ ?_ <;> repeat' (first | exact trivial | refine And.intro ?_ ?_ | with_reducible rfl | (refine pIEq ?_; exact ar_) | (refine bufMap ?_) | (refine bufNil ?_) | (refine bufEq ?_) | rfl)); rotate_right; exact ar2_)
      exact ⟨by omega, by omega, hlo, BHi.step hs (by omega) (by omega)⟩
  · have : j = i := by omega
    subst this
    rw [← lvK_eq hj hlo hhi] at *
    have hj' := hj
    generalize lvK xs t = j at *
    (conv => whnf); repeat' ((first | apply CondA.plain | refine' gC | refine' gpI | refine' gpB | refine' gSuppv | refine' gE | (apply DrawA.quiet (by kernel_rfl) (by kernel_rfl); (conv => whnf); fail_if_success (show False)) | (refine CallA.scalar (sNaN_call xs[j]) ?_) | (refine CallA.scalar (sNaN_call t) ?_)) <;> (conv => whnf))
    all_goals
      (refine' RetK.auto (.tup [.p (pI j), .p (pB _)]) ([]) rfl rfl rfl rfl _ _ _ <;> repeat' (first | exact trivial | refine And.intro ?_ ?_ | with_reducible rfl | (refine pIEq ?_; exact ar_) | (refine bufMap ?_) | (refine bufNil ?_) | (refine bufEq ?_) | rfl))
      exact ⟨_, rfl, rfl⟩
theorem SupV.asc {s : Sup} {i : Nat} (h : SupV s i) : Asc s.lv := fun _ _ hk hjk => h.lt hjk hk
theorem level_call (s : Sup) (v : Int) (hs : Asc s.lv) (hl : s.lv.length ≤ 16) : ACall Tryz.prog 84 [.p s.pv, .p (pI v)] [] fun r H => r = .tup [.p (pI (lvK s.lv v : Nat)), .p (pB (decide (lvK s.lv v < s.lv.length)))] ∧ H = [] := by
  refine acall_enter Tryz.func84 rfl rfl tabOK rfl ?_
  (conv => whnf); repeat' ((first | apply CondA.plain | refine' gC | refine' gpI | refine' gpB | refine' gSuppv | refine' gE | (apply DrawA.quiet (by kernel_rfl) (by kernel_rfl); (conv => whnf); fail_if_success (show False))) <;> (conv => whnf))
  refine CallA.loc [] [] rfl rfl ((BinarySearch_call s.ln s.lv v hs (by omega)).mono ?_)
  rintro _ _ ⟨b, rfl, rfl⟩
  (conv => whnf); repeat' ((first | apply CondA.plain | refine' gC | refine' gpI | refine' gpB | refine' gSuppv | refine' gE | (apply DrawA.quiet (by kernel_rfl) (by kernel_rfl); (conv => whnf); fail_if_success (show False))) <;> (conv => whnf))
  (refine' RetK.auto (.tup [.p (pI (lvK s.lv v : Nat)), .p (pB _)]) ([]) rfl rfl rfl rfl _ _ _ <;> repeat' (first | exact trivial | refine And.intro ?_ ?_ | with_reducible rfl | (refine pIEq ?_; exact ar_) | (refine bufMap ?_) | (refine bufNil ?_) | (refine bufEq ?_) | rfl))
  refine congrArg (fun b => AV.tup [.p (pI (lvK s.lv v : Nat)), .p (pB b)]) ?_
  simp
/-- A buffer that a closed call returns, by its run. -/
def bufIs (e : TypeId) (xs : List PV) : EV → Bool
  | some (.buf id, H) => match H[id]? with
    | some (some (.buf e' _ ys)) => Nat.beq e' e && eqPL ys xs
    | _ => false
  | _ => false
theorem ev_buf {P : Program} {ti : TypeId → Option TI} {C : CF} {Q : CQ} (hT : TabOK P ti) (hm : P.follows .mixedOrders = true) (hC : C.ok P) (hQ : Q.ok P) {fuel : Nat} {f : FuncId} {args : List AV} {e : TypeId} {xs : List PV} (h : bufIs e xs (evBody P ti C Q fuel f args []) = true) :
    ACall P f args [] fun r H => ∃ nl, r = .buf 0 ∧ H = [some (.buf e nl xs)] := by
  unfold bufIs at h
  split at h
  · rename_i id H' hb
    split at h
    · rename_i e' nl ys hl
      simp only [Bool.and_eq_true] at h
      obtain rfl := Nat.eq_of_beq_eq_true h.1
      obtain rfl := eqPL_eq h.2
      exact evBody_gen hT hm hC hQ hb fun fr => .mk _ _ _ [id] (.buf 0) [some (.buf e' nl ys)] rfl rfl ⟨hl, trivial⟩ rfl rfl ⟨nl, rfl, rfl⟩
    · cases h
  · cases h
open Go.Abs
structure De where
  vol : Int
  draw : Int
  child : Int
def De.pv (x : De) : PV := .agg [pI x.vol, pI x.draw, pI x.child]
theorem gDepv {P : Prop} (h : P := by
  (first | ((first | apply AppA.snoc (f := De.pv) (a := _) rfl | apply AppA.one (f := De.pv) (a := _) rfl | (apply AppA.snoc (f := De.pv) (a := ⟨_, _, _⟩); dsimp only [De.pv]; exact rfl) | (apply AppA.one (f := De.pv) (a := ⟨_, _, _⟩); dsimp only [De.pv]; exact rfl)); exact ar_) | apply IsL.set (f := De.pv) (a := _) rfl | apply IsL.rep (f := De.pv) (a := _) rfl | (apply IsL.set (f := De.pv) (a := ⟨_, _, _⟩); dsimp only [De.pv]; exact rfl) | (apply IsL.rep (f := De.pv) (a := ⟨_, _, _⟩); dsimp only [De.pv]; exact rfl) | apply IsL.lit (f := De.pv) [] rfl | apply IsL.lit (f := De.pv) [_] rfl | apply IsL.lit (f := De.pv) [_, _] rfl | apply IsL.lit (f := De.pv) [_, _, _] rfl | apply IsL.lit (f := De.pv) [] rfl | apply IsL.lit (f := De.pv) [⟨_, _, _⟩] rfl | apply IsL.lit (f := De.pv) [⟨_, _, _⟩, ⟨_, _, _⟩] rfl | apply IsL.lit (f := De.pv) [⟨_, _, _⟩, ⟨_, _, _⟩, ⟨_, _, _⟩] rfl) <;> (solve_by_elim (newGoals := .nonDependentOnly) (symm := false) (exfalso := false) (transparency := .reducible) only [rfl, park_])) : P := h
set_option maxRecDepth 100000
def md0 (_ : FuncId) : Nat := 2
theorem rep_all : ((List.range 17).all fun k => bufIs 161 (List.replicate k (De.pv ⟨0, -1, -1⟩)) (evBody Tryz.prog ti (evPair Tryz.prog ti xf 1000 md0 [] 6).2 (cqOf (evPair Tryz.prog ti xf 1000 md0 [] 6).1) 1000 82 [.p (.list false [De.pv ⟨0, -1, -1⟩]), .p (pI (k : Nat))] [])) = true := by kernel_rfl
theorem tab_nil {P : Program} : tabOk P [] := fun _ h => by cases h
theorem rep_call (k : Nat) (hk : k ≤ 16) : ACall Tryz.prog 82 [.p (.list false [De.pv ⟨0, -1, -1⟩]), .p (pI k)] [] fun r H => ∃ nb, r = .buf 0 ∧ H = [some (AO.buf 161 nb ((List.replicate k (⟨0, -1, -1⟩ : De)).map De.pv))] := by
  have h := List.all_eq_true.1 rep_all k (by simp; omega)
  have hp := evPair_ok (P := Tryz.prog) (ti := ti) tabOK mixed xf_ok (fuel := 1000) (mode := md0) (tab := []) tab_nil 6
  rw [List.map_replicate]
  exact ev_buf tabOK mixed hp.2 (cqOf_ok hp.1) h
instance : Inhabited Dr := ⟨⟨0, 0, 0, 0⟩⟩
instance : Inhabited De := ⟨⟨0, -1, -1⟩⟩
/-- What draws ask for. -/
def dm0 (n : Nat) (d : List Dr) : Nat → List De
  | 0 => List.replicate n ⟨0, -1, -1⟩
  | c + 1 => if ((dm0 n d c).getD (d.getD c default).sup.toNat default).vol < (d.getD c default).lo then (dm0 n d c).set (d.getD c default).sup.toNat ⟨(d.getD c default).lo, c, -1⟩ else dm0 n d c
/-- The level that a supply takes, and whether there is none. -/
def dmK (l : List Sup) (xs : List De) (i : Nat) : Nat := lvK (l.getD i default).lv (xs.getD i default).vol
def dmF (l : List Sup) (us : List Bool) (xs : List De) (i : Nat) : Bool := us.getD i false && !decide (dmK l xs i < (l.getD i default).lv.length)
def dmV (l : List Sup) (xs : List De) (i : Nat) : Int := (l.getD i default).lv.getD (dmK l xs i) 0 + (l.getD i default).drop
def dmS (l : List Sup) (us : List Bool) (st : List De × List Int) (i : Nat) : List De × List Int :=
  if us.getD i false = true ∧ dmK l st.1 i < (l.getD i default).lv.length then
    (if 0 ≤ (l.getD i default).par ∧ (st.1.getD (l.getD i default).par.toNat default).vol < dmV l st.1 i then st.1.set (l.getD i default).par.toNat ⟨dmV l st.1 i, -1, i⟩ else st.1, st.2.set i (dmK l st.1 i))
  else st
def dmP (l : List Sup) (d : List Dr) (pre : List (Fin l.length)) : List De × List Int := pre.foldl (fun st i => dmS l (usedF l d) st i.val) (dm0 l.length d d.length, List.replicate l.length 0)
/-- No supply has failed so far. -/
def dmOK (l : List Sup) (d : List Dr) (pre : List (Fin l.length)) : Prop := ∀ p y s, pre = p ++ y :: s → dmF l (usedF l d) (dmP l d p).1 y.val = false
theorem dmP_snoc (l : List Sup) (d : List Dr) (pre : List (Fin l.length)) (y : Fin l.length) : dmP l d (pre ++ [y]) = dmS l (usedF l d) (dmP l d pre) y.val := by
  unfold dmP
  rw [List.foldl_append]
  rfl
theorem dmOK_snoc {l : List Sup} {d : List Dr} {pre : List (Fin l.length)} {y : Fin l.length} (h : dmOK l d pre) (hy : dmF l (usedF l d) (dmP l d pre).1 y.val = false) : dmOK l d (pre ++ [y]) := by
  intro p z s he
  rcases List.eq_nil_or_concat s with rfl | ⟨s', x, rfl⟩
  · have := List.append_inj' he rfl
    obtain ⟨rfl, h2⟩ := this
    injection h2 with h2
    rw [← h2]; exact hy
  · have : pre ++ [y] = (p ++ z :: s') ++ [x] := by rw [he]; simp
    obtain ⟨h1, _⟩ := List.append_inj' this rfl
    exact h p z s' h1
theorem len_dm0 (n : Nat) (d : List Dr) : ∀ c, (dm0 n d c).length = n
  | 0 => by simp [dm0]
  | c + 1 => by
    unfold dm0
    split
    · rw [List.length_set, len_dm0 n d c]
    · exact len_dm0 n d c
theorem len_dmS (l : List Sup) (us : List Bool) (st : List De × List Int) (i : Nat) : (dmS l us st i).1.length = st.1.length ∧ (dmS l us st i).2.length = st.2.length := by
  unfold dmS
  split
  · refine ⟨?_, by simp⟩
    dsimp only
    split <;> simp
  · exact ⟨rfl, rfl⟩
theorem len_dmP (l : List Sup) (d : List Dr) (pre : List (Fin l.length)) : (dmP l d pre).1.length = l.length ∧ (dmP l d pre).2.length = l.length := by
  suffices h : ∀ (pre : List (Fin l.length)) (st : List De × List Int), st.1.length = l.length ∧ st.2.length = l.length → (pre.foldl (fun st i => dmS l (usedF l d) st i.val) st).1.length = l.length ∧ (pre.foldl (fun st i => dmS l (usedF l d) st i.val) st).2.length = l.length from
    h pre _ ⟨len_dm0 _ _ _, by simp⟩
  intro pre
  induction pre with
  | nil => exact fun st h => h
  | cons y pre ih =>
    intro st h
    have := len_dmS l (usedF l d) st y.val
    exact ih _ ⟨this.1.trans h.1, this.2.trans h.2⟩
/-- How the search for levels ends. -/
def DmR (l : List Sup) (d : List Dr) (pre : List (Fin l.length)) (f : Int) : Prop :=
  dmOK l d pre ∧ ((f = -1 ∧ pre = (List.finRange l.length).reverse) ∨ ∃ y s, f = (y : Fin l.length).val ∧ pre ++ [y] ++ s = (List.finRange l.length).reverse ∧ dmF l (usedF l d) (dmP l d pre).1 y.val = true)
def eASC0 : Sc := (.one 8 (.one 9 .done))
def eASC1 : Sc := (.one 7 (.one 9 .done))
def eASC2 : Sc := (.two 7 8 eASC0 eASC1)
def eASC3 : Sc := (.one 4 (.one 8 (.one 9 .done)))
def eASC4 : Sc := (.two 4 7 eASC2 eASC3)
def eASC5 : Sc := (.one 1 (.one 4 (.one 8 (.one 9 .done))))
def eA : Sc := (.take 0 (.take 2 (.take 3 (.take 5 (.take 6 (.two 1 7 eASC4 eASC5))))))
def eB : Sc := (.take 0 (.load 1 (.take 3 (.load 4 (.one 2 (.take 5 (.take 6 (.load 7 (.take 8 .done)))))))))
def eDSC0 : Sc := (.one 3 (.one 4 (.one 5 .done)))
def eDSC1 : Sc := (.one 1 (.one 4 (.one 5 .done)))
def eDSC2 : Sc := (.two 1 3 eDSC0 eDSC1)
def eDSC3 : Sc := (.one 0 (.one 3 (.one 4 (.one 5 .done))))
def eD : Sc := (.take 2 (.two 0 1 eDSC2 eDSC3))
def eC : Sc := (.frz 0 (.take 2 (.one 1 (.take 3 (.take 4 (.load 5 (.one 6 (.take 7 (.take 8 (.take 9 (.take 10 (.take 11 .done))))))))))))
def eE : Sc := (.take 0 (.frz 1 (.take 2 (.take 3 (.load 4 (.take 5 (.frz 6 (.take 7 (.take 8 .done)))))))))
def eFSC0 : Sc := (.one 2 (.one 3 (.one 4 .done)))
def eFSC1 : Sc := (.one 1 (.one 3 (.one 4 .done)))
def eFSC2 : Sc := (.two 1 2 eFSC0 eFSC1)
def eFSC3 : Sc := (.one 0 (.one 2 (.one 3 (.one 4 .done))))
def eF : Sc := (.two 0 1 eFSC2 eFSC3)
set_option maxHeartbeats 4000000 in
theorem demands_call (nl n2 : Bool) (l : List Sup) (d : List Dr) (hl : AllS l) (hd : AllD l.length d) : ACall Tryz.prog 41 [.p (.list nl (l.map Sup.pv)), .p (.list n2 (d.map Dr.pv))] [] fun r H => ∃ (pre : List (Fin l.length)) (f : Int) (b1 b2 : Bool), r = .tup [.p (.list b1 ((dmP l d pre).1.map De.pv)), .p (.list b2 ((dmP l d pre).2.map pI)), .p (pI f)] ∧ H = [] ∧ DmR l d pre f := by
  refine acall_enter Tryz.func41 rfl rfl tabOK rfl ?_
  have h16 := hl.1
  have h32 := hd.1
  (conv => whnf); repeat' ((first | apply CondA.plain | refine' gC | refine' gpI | refine' gpB | refine' gSuppv | refine' gDrpv | refine' gDepv | refine' gE | fail) <;> (conv => whnf))
  refine DrawA.meet (fun (⟨b1, b2⟩ : Bool × Bool) => ⟨[(0, .p (.list nl (l.map Sup.pv))), (1, .p (.list n2 (d.map Dr.pv))), (4, .ptr 0 0), (5, .ptr 1 0), (6, .ptr 2 0)], [some (.cells [.buf 3]), some (.cells [.buf 4]), some (.cells [.p (pI 0)]), some (AO.buf 161 b1 ((dm0 l.length d 0).map De.pv)), some (AO.buf 3 b2 ((List.replicate l.length (0 : Int)).map pI))]⟩) (fun (⟨b1, b2⟩ : Bool × Bool) => True) (DrawB.orders eA (by kernel_rfl) (by kernel_rfl) (by kernel_rfl) ?_) ?_
  · (conv => whnf); repeat' ((first | apply CondA.plain | refine' gC | refine' gpI | refine' gpB | refine' gSuppv | refine' gDrpv | refine' gDepv | refine' gE | ((apply IsL.lit (f := De.pv) [⟨0, -1, -1⟩] rfl)) | ((apply IsL.rep (f := pI) (a := 0) rfl)) | ((refine CallA.loc [] [3] rfl rfl ((rep_call l.length h16).mono ?_); rintro _ _ ⟨b1, rfl, rfl⟩)) | ((refine CallA.loc [] [4] rfl rfl ((rep_call l.length h16).mono ?_); rintro _ _ ⟨b1, rfl, rfl⟩))) <;> (conv => whnf))
    all_goals (refine' ⟨(_, _), _, _⟩; rotate_right; (refine SubA.auto rfl rfl rfl rfl ?_ ?_ <;> repeat' (first | exact trivial | refine And.intro ?_ ?_ | with_reducible rfl | (refine pIEq ?_; exact ar_) | (refine bufMap ?_) | (refine bufNil ?_) | (refine bufEq ?_) | rfl)); rotate_right; exact ar2_)
  rintro ⟨b1, b2⟩ _
  (conv => whnf); repeat' ((first | apply CondA.plain | refine' gC | refine' gpI | refine' gpB | refine' gSuppv | refine' gDrpv | refine' gDepv | refine' gE | fail) <;> (conv => whnf))
  refine loop_rule (fun (c : Nat) => ⟨[(0, .p (.list nl (l.map Sup.pv))), (1, .p (.list n2 (d.map Dr.pv))), (4, .ptr 0 0), (5, .ptr 1 0), (6, .ptr 2 0), (23, .p (.list n2 (d.map Dr.pv))), (24, .p (pI d.length)), (25, .p (pI c))], [some (.cells [.buf 3]), some (.cells [.buf 4]), some (.cells [.p (pI 0)]), some (AO.buf 161 b1 ((dm0 l.length d c).map De.pv)), some (AO.buf 3 b2 ((List.replicate l.length (0 : Int)).map pI))]⟩) (fun (c : Nat) => c ≤ d.length) (fun (c : Nat) => d.length - c) 0 ?_ ?_ ?_; (refine SubA.auto rfl rfl rfl rfl ?_ ?_ <;> repeat' (first | exact trivial | refine And.intro ?_ ?_ | with_reducible rfl | (refine pIEq ?_; exact ar_) | (refine bufMap ?_) | (refine bufNil ?_) | (refine bufEq ?_) | rfl))
  · omega
  rintro c hc
  replace hc : c ≤ d.length := hc
  have hul := len_dm0 l.length d c
  rcases Nat.lt_or_ge c d.length with hcd | hcd
  · have hs := (hd.2 _ (List.getElem_mem hcd)).1
    have hsn : dm0 l.length d (c + 1) = if ((dm0 l.length d c).getD (d[c]).sup.toNat default).vol < (d[c]).lo then (dm0 l.length d c).set (d[c]).sup.toNat ⟨(d[c]).lo, c, -1⟩ else dm0 l.length d c := by
      rw [dm0]
      simp only [getD_at hcd]
    generalize dm0 l.length d c = xs at hul hsn ⊢
    rw [getD_at (show (d[c]).sup.toNat < xs.length by omega)] at hsn
    (conv => whnf); repeat' ((first | apply CondA.plain | refine' gC | refine' gpI | refine' gpB | refine' gSuppv | refine' gDrpv | refine' gDepv | refine' gE | (apply DrawA.orders eB (by kernel_rfl) (by kernel_rfl) (by kernel_rfl))) <;> (conv => whnf))
    · rw [if_pos (by omega)] at hsn
      (refine' ⟨c + 1, _, _, _⟩; rotate_right; (refine SubA.auto rfl rfl rfl rfl ?_ ?_ <;> repeat' (first | exact trivial | refine And.intro ?_ ?_ | with_reducible rfl | (refine pIEq ?_; exact ar_) | (refine bufMap ?_) | (refine bufNil ?_) | (refine bufEq ?_) | rfl)); rotate_right; exact ar2_)
      · exact hsn.symm
      · omega
    · rw [if_neg (by omega)] at hsn
      (refine' ⟨c + 1, _, _, _⟩; rotate_right; (refine SubA.auto rfl rfl rfl rfl ?_ ?_ <;> repeat' (first | exact trivial | refine And.intro ?_ ?_ | with_reducible rfl | (refine pIEq ?_; exact ar_) | (refine bufMap ?_) | (refine bufNil ?_) | (refine bufEq ?_) | rfl)); rotate_right; exact ar2_)
      · exact hsn.symm
      · omega
  · have hc' : c = d.length := by omega
    subst hc'
    (conv => whnf); repeat' ((first | apply CondA.plain | refine' gC | refine' gpI | refine' gpB | refine' gSuppv | refine' gDrpv | refine' gDepv | refine' gE | ((refine CallA.loc [] [] rfl rfl ((used_call nl n2 l d hl hd).mono ?_); rintro _ _ ⟨m1, rfl, rfl⟩)) | ((refine CallA.loc [] [] rfl rfl ((Backward_call nl l).mono ?_); rintro _ _ ⟨rfl, rfl⟩))) <;> (conv => whnf))
    refine RangeA.mk 138 6 (.list nl (l.map Sup.pv)) _ _ _ (fun pre => [some (.cells [.buf 3]), some (.cells [.buf 4]), some (.cells [.p (pI 0)]), some (AO.buf 161 b1 ((dmP l d pre).1.map De.pv)), some (AO.buf 3 b2 ((dmP l d pre).2.map pI)), some (.cells [.p (.list m1 ((usedF l d).map pB))]), none]) (dmOK l d) rfl rfl (back_seq nl l) (fun _ => rfl) ?_ ?_ ?_ ?_
    · (refine SubA.auto rfl rfl rfl rfl ?_ ?_ <;> repeat' (first | exact trivial | refine And.intro ?_ ?_ | with_reducible rfl | (refine pIEq ?_; exact ar_) | (refine bufMap ?_) | (refine bufNil ?_) | (refine bufEq ?_) | rfl))
    · exact fun p y s h => by simp at h
    · intro pre y hok hlt
      have hup := len_usedF l d
      obtain ⟨hx1, hx2⟩ := len_dmP l d pre
      have hy := y.isLt
      have hv := hl.2.2 y.val hy
      have hlv := hl.2.1 _ (List.getElem_mem hy)
      have hsn := dmP_snoc l d pre y
      have hokn := dmOK_snoc (y := y) hok
      have hfail : dmF l (usedF l d) (dmP l d pre).1 y.val = true → (∃ s, pre ++ [y] ++ s = (List.finRange l.length).reverse) → DmR l d pre y.val := fun h ⟨s, hs⟩ => ⟨hok, .inr ⟨y, s, rfl, hs, h⟩⟩
      clear hok
      unfold dmF at hokn hfail
      unfold dmS dmV dmK at hsn
      unfold dmK at hokn hfail
      simp only [getD_at hy] at hsn hokn hfail
      generalize dmP l d (pre ++ [y]) = st' at hsn hokn ⊢
      generalize hst : dmP l d pre = st at hx1 hx2 hsn hokn hfail ⊢
      obtain ⟨xs, ls⟩ := st
      obtain ⟨k, hk⟩ := y
      simp only at hx1 hx2 hy hv hlv hsn hokn hfail ⊢
      rw [getD_at (show k < xs.length by omega)] at hsn hokn hfail
      rw [getD_at (show k < (usedF l d).length by omega)] at hsn hokn hfail
      have hlk : lvK (l[k]).lv (xs[k]).vol ≤ (l[k]).lv.length := List.findIdx_le_length
      generalize hkk : lvK (l[k]).lv (xs[k]).vol = kk at hsn hokn hfail hlk
      have hasc := hv.asc
      have hlc := level_call (l[k]) (xs[k]).vol hasc hlv
      rw [hkk] at hlc
      clear hkk
      cases hus : (usedF l d)[k]'(by omega)
      · rw [hus] at hsn hokn
        rw [if_neg (by simp)] at hsn
        subst hsn
        (conv => whnf); repeat' ((first | apply CondA.plain | refine' gC | refine' gpI | refine' gpB | refine' gSuppv | refine' gDrpv | refine' gDepv | refine' gE | (refine And.intro (show noMaps _ = true from rfl) ?_)) <;> (conv => whnf))
        refine ⟨?_, hokn rfl⟩
        (refine SubA.auto rfl rfl rfl rfl ?_ ?_ <;> repeat' (first | exact trivial | refine And.intro ?_ ?_ | with_reducible rfl | (refine pIEq ?_; exact ar_) | (refine bufMap ?_) | (refine bufNil ?_) | (refine bufEq ?_) | rfl))
      rw [hus] at hsn hokn hfail
      simp only [Bool.true_and, true_and, Bool.not_eq_true', Bool.not_eq_false', decide_eq_true_eq, decide_eq_false_iff_not] at hsn hokn hfail
      rcases Nat.lt_or_ge kk (l[k]).lv.length with hkl | hkl
      · have hkv := hv.2.2.2.2.2.1 _ (List.getElem_mem hkl)
        have hdv := hv.2.2.1
        have hpv := hv.1
        rw [if_pos hkl, getD_at hkl] at hsn
        have hok' := hokn hkl
        rw [decide_eq_true hkl] at hlc
        clear hokn hfail
        by_cases hp : 0 ≤ (l[k]).par
        · rw [getD_at (show (l[k]).par.toNat < xs.length by omega)] at hsn
          (conv => whnf); repeat' ((first | apply CondA.plain | refine' gC | refine' gpI | refine' gpB | refine' gSuppv | refine' gDrpv | refine' gDepv | refine' gE | (refine And.intro (show noMaps _ = true from rfl) ?_) | ((refine DrawA.retire 11 7 [pI (l[k]).par, .list (l[k]).ln ((l[k]).lv.map pI), pI (l[k]).drop, pI (l[k]).cap, pB (l[k]).alw] rfl rfl ?_)) | (apply DrawA.orders eC (by kernel_rfl) (by kernel_rfl) (by decide +kernel)) | (refine CallA.scalar2 (hlc) ?_) | (apply DrawA.orders eE (by kernel_rfl) (by kernel_rfl) (by decide +kernel))) <;> (conv => whnf))
          · rw [if_pos ⟨hp, h0⟩] at hsn
            subst hsn
            refine ⟨?_, hok'⟩
            (refine SubA.auto rfl rfl rfl rfl ?_ ?_ <;> repeat' (first | exact trivial | refine And.intro ?_ ?_ | with_reducible rfl | (refine pIEq ?_; exact ar_) | (refine bufMap ?_) | (refine bufNil ?_) | (refine bufEq ?_) | rfl))
          · rw [if_neg (fun h => by omega)] at hsn
            subst hsn
            refine ⟨?_, hok'⟩
            (refine SubA.auto rfl rfl rfl rfl ?_ ?_ <;> repeat' (first | exact trivial | refine And.intro ?_ ?_ | with_reducible rfl | (refine pIEq ?_; exact ar_) | (refine bufMap ?_) | (refine bufNil ?_) | (refine bufEq ?_) | rfl))
        · rw [if_neg (by omega)] at hsn
          subst hsn
          (conv => whnf); repeat' ((first | apply CondA.plain | refine' gC | refine' gpI | refine' gpB | refine' gSuppv | refine' gDrpv | refine' gDepv | refine' gE | (refine And.intro (show noMaps _ = true from rfl) ?_) | ((refine DrawA.retire 11 7 [pI (l[k]).par, .list (l[k]).ln ((l[k]).lv.map pI), pI (l[k]).drop, pI (l[k]).cap, pB (l[k]).alw] rfl rfl ?_)) | (apply DrawA.orders eC (by kernel_rfl) (by kernel_rfl) (by decide +kernel)) | (refine CallA.scalar2 (hlc) ?_) | (apply DrawA.orders eE (by kernel_rfl) (by kernel_rfl) (by decide +kernel))) <;> (conv => whnf))
          refine ⟨?_, hok'⟩
          (refine SubA.auto rfl rfl rfl rfl ?_ ?_ <;> repeat' (first | exact trivial | refine And.intro ?_ ?_ | with_reducible rfl | (refine pIEq ?_; exact ar_) | (refine bufMap ?_) | (refine bufNil ?_) | (refine bufEq ?_) | rfl))
      · have hfl := hfail (by omega)
        rw [decide_eq_false (by omega)] at hlc
        clear hokn hfail
        (conv => whnf); repeat' ((first | apply CondA.plain | refine' gC | refine' gpI | refine' gpB | refine' gSuppv | refine' gDrpv | refine' gDepv | refine' gE | (refine And.intro (show noMaps _ = true from rfl) ?_) | ((refine DrawA.retire 11 7 [pI (l[k]).par, .list (l[k]).ln ((l[k]).lv.map pI), pI (l[k]).drop, pI (l[k]).cap, pB (l[k]).alw] rfl rfl ?_)) | (apply DrawA.orders eC (by kernel_rfl) (by kernel_rfl) (by decide +kernel)) | (refine CallA.scalar2 (hlc) ?_) | (apply DrawA.orders eD (by kernel_rfl) (by kernel_rfl) (by decide +kernel))) <;> (conv => whnf))
        all_goals
          refine ⟨[some (.cells [.buf 3]), some (.cells [.buf 4]), some (.cells [.p (pI k)]), some (AO.buf 161 b1 (xs.map De.pv)), some (AO.buf 3 b2 (ls.map pI)), some (.cells [.p (.list m1 ((usedF l d).map pB))]), none], ?_, rfl, fun hpf => ?_⟩
          · (refine SubA.auto rfl rfl rfl rfl ?_ ?_ <;> repeat' (first | exact trivial | refine And.intro ?_ ?_ | with_reducible rfl | (refine pIEq ?_; exact ar_) | (refine bufMap ?_) | (refine bufNil ?_) | (refine bufEq ?_) | rfl))
          · (conv => whnf); repeat' ((first | apply CondA.plain | refine' gC | refine' gpI | refine' gpB | refine' gSuppv | refine' gDrpv | refine' gDepv | refine' gE | (apply DrawA.quiet (by kernel_rfl) (by kernel_rfl); (conv => whnf); fail_if_success (show False))) <;> (conv => whnf))
            (refine RetK.frz _ _ _ [3, 4] ?_; refine' RetK.auto (.tup [.p (.list b1 (xs.map De.pv)), .p (.list b2 (ls.map pI)), .p (pI k)]) ([]) rfl rfl rfl rfl _ _ _ <;> repeat' (first | exact trivial | refine And.intro ?_ ?_ | with_reducible rfl | (refine pIEq ?_; exact ar_) | (refine bufMap ?_) | (refine bufNil ?_) | (refine bufEq ?_) | rfl))
            exact ⟨pre, k, b1, b2, by rw [hst], rfl, hfl hpf⟩
    · intro hok
      (conv => whnf); repeat' ((first | apply CondA.plain | refine' gC | refine' gpI | refine' gpB | refine' gSuppv | refine' gDrpv | refine' gDepv | refine' gE | (apply DrawA.orders eF (by kernel_rfl) (by kernel_rfl) (by kernel_rfl))) <;> (conv => whnf))
      all_goals
        (refine RetK.frz _ _ _ [3, 4] ?_; refine' RetK.auto (.tup [.p (.list b1 ((dmP l d (List.finRange l.length).reverse).1.map De.pv)), .p (.list b2 ((dmP l d (List.finRange l.length).reverse).2.map pI)), .p (pI (-1))]) ([]) rfl rfl rfl rfl _ _ _ <;> repeat' (first | exact trivial | refine And.intro ?_ ?_ | with_reducible rfl | (refine pIEq ?_; exact ar_) | (refine bufMap ?_) | (refine bufNil ?_) | (refine bufEq ?_) | rfl))
        exact ⟨_, _, b1, b2, rfl, rfl, hok, .inl ⟨rfl, rfl⟩⟩
open Go.Abs
set_option maxRecDepth 100000
theorem sbegin_call (nl n2 : Bool) (l : List Sup) (d : List Dr) : ACall Tryz.prog 40 [.p (.list nl (l.map Sup.pv)), .p (.list n2 (d.map Dr.pv))] [] fun r H => ∃ e : Int, r = .p (pI e) ∧ H = [] ∧ (e = 0 ↔ AllS l ∧ AllD l.length d) := by
  refine acall_enter Tryz.func40 rfl rfl tabOK rfl ?_
  (conv => whnf); repeat' ((first | apply CondA.plain | refine' gC | refine' gpI | refine' gpB | refine' gSuppv | refine' gDrpv | refine' gE | ((refine call_exI (sCheck_call nl l) ?_; intro e he)) | ((refine call_exB (sDraws_call nl n2 l d) ?_; intro b hb))) <;> (conv => whnf))
  · (refine RetK.p ?_ <;> repeat' (first | exact trivial | refine And.intro ?_ ?_ | with_reducible rfl | (refine pIEq ?_; exact ar_) | (refine bufMap ?_) | (refine bufNil ?_) | (refine bufEq ?_) | rfl); all_goals try first | refine pBEq ?_ | refine pIEq ?_)
    exact ⟨_, rfl, rfl, fun h => absurd h (by assumption), fun h => absurd (he.2 h.1) (by assumption)⟩
  · (refine RetK.p ?_ <;> repeat' (first | exact trivial | refine And.intro ?_ ?_ | with_reducible rfl | (refine pIEq ?_; exact ar_) | (refine bufMap ?_) | (refine bufNil ?_) | (refine bufEq ?_) | rfl); all_goals try first | refine pBEq ?_ | refine pIEq ?_)
    exact ⟨_, rfl, rfl, fun h => (by cases h), fun h => by rw [hb.2 h] at h0; cases h0⟩
  · (refine RetK.p ?_ <;> repeat' (first | exact trivial | refine And.intro ?_ ?_ | with_reducible rfl | (refine pIEq ?_; exact ar_) | (refine bufMap ?_) | (refine bufNil ?_) | (refine bufEq ?_) | rfl); all_goals try first | refine pBEq ?_ | refine pIEq ?_)
    exact ⟨_, rfl, rfl, fun _ => hb.1 h0, fun _ => rfl⟩
theorem Least_call (nl n2 : Bool) (l : List Sup) (d : List Dr) (hl : AllS l) (hd : AllD l.length d) : ACall Tryz.prog 14 [.p (.list nl (l.map Sup.pv)), .p (.list n2 (d.map Dr.pv))] [] fun r' H => ∃ (r : Rl) (n1 n3 : Bool) (e : Int) (pre : List (Fin l.length)) (f : Int), r' = .tup [.p (Rl.pv n1 n3 r), .p (pI e)] ∧ H = [] ∧ DmR l d pre f ∧ (e = 0 → f = -1 ∧ r = ⟨usedF l d, (dmP l d pre).2⟩ ∧ Meet l r d) ∧ (e ≠ 0 → e = 9 ∧ (0 ≤ f ∨ ¬ Meet l ⟨usedF l d, (dmP l d pre).2⟩ d)) := by
  refine acall_enter Tryz.func14 rfl rfl tabOK rfl ?_
  (conv => whnf); repeat' ((first | apply CondA.plain | refine' gC | refine' gpI | refine' gpB | refine' gSuppv | refine' gDrpv | refine' gE | ((refine call_exI (sbegin_call nl n2 l d) ?_; intro e he))) <;> (conv => whnf))
  · exact absurd (he.2 ⟨hl, hd⟩) (by assumption)
  refine CallA.loc [] [] rfl rfl ((demands_call nl n2 l d hl hd).mono ?_)
  rintro _ _ ⟨pre, f, b1, b2, rfl, rfl, hdm⟩
  (conv => whnf); repeat' ((first | apply CondA.plain | refine' gC | refine' gpI | refine' gpB | refine' gSuppv | refine' gDrpv | refine' gE | ((refine CallA.loc [] [] rfl rfl ((used_call nl n2 l d hl hd).mono ?_); rintro _ _ ⟨m1, rfl, rfl⟩)) | ((refine call_exB (sMeets_call nl m1 n2 b2 l ⟨usedF l d, (dmP l d pre).2⟩ d) ?_; intro b hb))) <;> (conv => whnf))
  · (refine' RetK.auto (.tup [.p (Rl.pv true true ⟨[], []⟩), .p (pI 9)]) ([]) rfl rfl rfl rfl _ _ _ <;> repeat' (first | exact trivial | refine And.intro ?_ ?_ | with_reducible rfl | (refine pIEq ?_; exact ar_) | (refine bufMap ?_) | (refine bufNil ?_) | (refine bufEq ?_) | rfl))
    exact ⟨_, true, true, 9, pre, f, rfl, rfl, hdm, fun h => (by cases h), fun _ => ⟨rfl, .inl h0⟩⟩
  · (refine' RetK.auto (.tup [.p (Rl.pv true true ⟨[], []⟩), .p (pI 9)]) ([]) rfl rfl rfl rfl _ _ _ <;> repeat' (first | exact trivial | refine And.intro ?_ ?_ | with_reducible rfl | (refine pIEq ?_; exact ar_) | (refine bufMap ?_) | (refine bufNil ?_) | (refine bufEq ?_) | rfl))
    exact ⟨_, true, true, 9, pre, f, rfl, rfl, hdm, fun h => (by cases h), fun _ => ⟨rfl, .inr fun h => by rw [hb.2 ⟨hl, h⟩] at h0; cases h0⟩⟩
  · (refine' RetK.auto (.tup [.p (Rl.pv m1 b2 ⟨usedF l d, (dmP l d pre).2⟩), .p (pI 0)]) ([]) rfl rfl rfl rfl _ _ _ <;> repeat' (first | exact trivial | refine And.intro ?_ ?_ | with_reducible rfl | (refine pIEq ?_; exact ar_) | (refine bufMap ?_) | (refine bufNil ?_) | (refine bufEq ?_) | rfl))
    refine ⟨_, m1, b2, 0, pre, f, rfl, rfl, hdm, fun _ => ⟨?_, rfl, (hb.1 h0).2⟩, fun h => absurd rfl h⟩
    rcases hdm.2 with ⟨h, _⟩ | ⟨y, s, h, _⟩
    · exact h
    · omega
open Go.Abs
/-! Ways over states -/
/-- A sequence of writes: all are right, and all states are good. -/
def Way {σ ω : Type} (ap : σ → ω → σ) (V : ω → Prop) (G : σ → Prop) (s : σ) (ws : List ω) : Prop := (∀ w ∈ ws, V w) ∧ ∀ k, k ≤ ws.length → G ((ws.take k).foldl ap s)
section
variable {σ ω : Type} {ap : σ → ω → σ} {V V' : ω → Prop} {G G' : σ → Prop} {s : σ} {ws vs : List ω} {w : ω}
theorem Way.nil (h : G s) : Way ap V G s [] := ⟨by simp, fun k hk => by simpa using h⟩
theorem Way.start (h : Way ap V G s ws) : G s := by simpa using h.2 0 (by omega)
theorem Way.last (h : Way ap V G s ws) : G (ws.foldl ap s) := by simpa using h.2 ws.length (Nat.le_refl _)
theorem Way.app (h : Way ap V G s ws) (h' : Way ap V G (ws.foldl ap s) vs) : Way ap V G s (ws ++ vs) := by
  refine ⟨fun w hw => (List.mem_append.1 hw).elim (h.1 w) (h'.1 w), fun k hk => ?_⟩
  rcases Nat.lt_or_ge ws.length k with hlt | hge
  · rw [List.take_append, List.take_of_length_le (by omega), List.foldl_append]
    exact h'.2 _ (by simp at hk; omega)
  · rw [List.take_append_of_le_length hge]
    exact h.2 k hge
theorem Way.snoc (h : Way ap V G s ws) (hv : V w) (hg : G (ap (ws.foldl ap s) w)) : Way ap V G s (ws ++ [w]) := by
  refine h.app ⟨fun x hx => by simp at hx; rw [hx]; exact hv, fun k hk => ?_⟩
  match k, hk with
  | 0, _ => simpa using h.last
  | 1, _ => simpa using hg
theorem Way.mono (h : Way ap V G s ws) (hv : ∀ w, V w → V' w) (hg : ∀ s, G s → G' s) : Way ap V' G' s ws := ⟨fun w hw => hv w (h.1 w hw), fun k hk => hg _ (h.2 k hk)⟩
/-- The same way, seen in another state. -/
theorem Way.map {τ : Type} {ap' : τ → ω → τ} {F : τ → Prop} {f : σ → τ} (h : Way ap V G s ws) (hf : ∀ s w, V w → f (ap s w) = ap' (f s) w) (hg : ∀ s, G s → F (f s)) : Way ap' V F (f s) ws ∧ ws.foldl ap' (f s) = f (ws.foldl ap s) := by
  have key : ∀ (l : List ω), (∀ w ∈ l, V w) → ∀ s, l.foldl ap' (f s) = f (l.foldl ap s) := by
    intro l
    induction l with
    | nil => exact fun _ _ => rfl
    | cons w l ih => exact fun hv s => by rw [List.foldl_cons, List.foldl_cons, ← hf s w (hv w (List.mem_cons_self ..))]; exact ih (fun x hx => hv x (List.mem_cons_of_mem _ hx)) _
  refine ⟨⟨h.1, fun k hk => ?_⟩, key ws h.1 s⟩
  rw [key _ (fun w hw => h.1 w (List.mem_of_mem_take hw))]
  exact hg _ (h.2 k hk)
end
/-! A search, breadth first -/
structure Bfs (nb : Int → Int → Prop) (ok : Int → Prop) (st : Int) (D : List (Int × Int)) (q : List Int) : Prop where
  nd : (D.map (·.1)).Nodup
  st0 : (st, 0) ∈ D
  okk : ∀ k d, (k, d) ∈ D → ok k
  pos : ∀ k d, (k, d) ∈ D → (0 ≤ d ∧ d < D.length) ∧ (k ≠ st → 1 ≤ d)
  pre : ∀ k d, (k, d) ∈ D → k ≠ st → ∃ m, (m, d - 1) ∈ D ∧ nb k m
  qk : ∀ m ∈ q, ∃ d, (m, d) ∈ D
  done : ∀ k d, (k, d) ∈ D → k ∉ q → ∀ m, nb k m → ∃ d', (m, d') ∈ D
theorem Bfs.init {nb : Int → Int → Prop} {ok : Int → Prop} {st : Int} (h : ok st) : Bfs nb ok st [(st, 0)] [st] := by
  refine ⟨by simp, by simp, ?_, ?_, ?_, by simp, ?_⟩ <;> simp_all
theorem key_unique {D : List (Int × Int)} (h : (D.map (·.1)).Nodup) {k d e : Int} (h1 : (k, d) ∈ D) (h2 : (k, e) ∈ D) : d = e := by
  induction D with
  | nil => cases h1
  | cons p D ih =>
    rw [List.map_cons, List.nodup_cons] at h
    rcases List.mem_cons.1 h1 with h1 | h1 <;> rcases List.mem_cons.1 h2 with h2 | h2
    · rw [← h1] at h2; cases h2; rfl
    · exact absurd (List.mem_map.2 ⟨_, h2, by rw [← h1]⟩) h.1
    · exact absurd (List.mem_map.2 ⟨_, h1, by rw [← h2]⟩) h.1
    · exact ih h.2 h1 h2
/-- In the middle of a round: the first of the queue is asked for its neighbours. -/
structure Mid (nb : Int → Int → Prop) (ok : Int → Prop) (st u du : Int) (q : List Int) (D : List (Int × Int)) (new : List Int) : Prop where
  nd : (D.map (·.1)).Nodup
  st0 : (st, 0) ∈ D
  okk : ∀ k d, (k, d) ∈ D → ok k
  pos : ∀ k d, (k, d) ∈ D → (0 ≤ d ∧ d < D.length) ∧ (k ≠ st → 1 ≤ d)
  pre : ∀ k d, (k, d) ∈ D → k ≠ st → ∃ m, (m, d - 1) ∈ D ∧ nb k m
  qk : ∀ m, m ∈ q ∨ m ∈ new → ∃ d, (m, d) ∈ D
  done : ∀ k d, (k, d) ∈ D → k ≠ u → k ∉ q → k ∉ new → ∀ m, nb k m → ∃ d', (m, d') ∈ D
  uu : (u, du) ∈ D
theorem Bfs.mid {nb : Int → Int → Prop} {ok : Int → Prop} {st u du : Int} {D : List (Int × Int)} {q : List Int} (h : Bfs nb ok st D (u :: q)) (hu : (u, du) ∈ D) : Mid nb ok st u du q D [] :=
  ⟨h.nd, h.st0, h.okk, h.pos, h.pre, fun m hm => h.qk m (by rcases hm with hm | hm; exact List.mem_cons_of_mem _ hm; cases hm), fun k d hk h1 h2 _ => h.done k d hk (by simp [h1, h2]), hu⟩
theorem Mid.add {nb : Int → Int → Prop} {ok : Int → Prop} {st u du : Int} {D : List (Int × Int)} {q new : List Int} (h : Mid nb ok st u du q D new) {m : Int} (hm : ok m) (hn : nb m u) (h0 : ∀ d, (m, d) ∉ D) : Mid nb ok st u du q (D ++ [(m, du + 1)]) (new ++ [m]) := by
  have hu := h.pos _ _ h.uu
  refine ⟨?_, List.mem_append_left _ h.st0, fun k d hk => ?_, fun k d hk => ?_, fun k d hk hs => ?_, fun k hk => ?_, fun k d hk h1 h2 h3 m' hm' => ?_, List.mem_append_left _ h.uu⟩
  · rw [List.map_append, List.nodup_append]
    refine ⟨h.nd, by simp, fun a ha b hb => ?_⟩
    simp at hb
    subst hb
    obtain ⟨⟨k, d⟩, h1, h2⟩ := List.mem_map.1 ha
    rintro rfl
    simp at h2
    subst h2
    exact h0 d h1
  · rcases List.mem_append.1 hk with hk | hk
    · exact h.okk k d hk
    · simp at hk; rw [hk.1]; exact hm
  · rw [List.length_append]
    rcases List.mem_append.1 hk with hk | hk
    · have := h.pos k d hk
      simp
      exact ⟨by omega, this.2⟩
    · simp at hk ⊢
      omega
  · rcases List.mem_append.1 hk with hk | hk
    · obtain ⟨m', h1, h2⟩ := h.pre k d hk hs
      exact ⟨m', List.mem_append_left _ h1, h2⟩
    · simp at hk
      obtain ⟨rfl, rfl⟩ := hk
      exact ⟨u, List.mem_append_left _ (by rw [show du + 1 - 1 = du by omega]; exact h.uu), hn⟩
  · rcases hk with hk | hk
    · obtain ⟨d, hd⟩ := h.qk k (.inl hk)
      exact ⟨d, List.mem_append_left _ hd⟩
    · rcases List.mem_append.1 hk with hk | hk
      · obtain ⟨d, hd⟩ := h.qk k (.inr hk)
        exact ⟨d, List.mem_append_left _ hd⟩
      · simp at hk
        subst hk
        exact ⟨du + 1, by simp⟩
  · rcases List.mem_append.1 hk with hk | hk
    · obtain ⟨d', hd⟩ := h.done k d hk h1 h2 (fun hm => h3 (List.mem_append_left _ hm)) m' hm'
      exact ⟨d', List.mem_append_left _ hd⟩
    · simp at hk
      exact absurd (by simp [hk.1]) h3
theorem Mid.end {nb : Int → Int → Prop} {ok : Int → Prop} {st u du : Int} {D : List (Int × Int)} {q new : List Int} (h : Mid nb ok st u du q D new) (ha : ∀ m, nb u m → ∃ d, (m, d) ∈ D) : Bfs nb ok st D (q ++ new) := by
  refine ⟨h.nd, h.st0, h.okk, h.pos, h.pre, fun m hm => h.qk m (List.mem_append.1 hm), fun k d hk hq m hm => ?_⟩
  rw [List.mem_append, not_or] at hq
  by_cases hku : k = u
  · subst hku; exact ha m hm
  · exact h.done k d hk hku hq.1 hq.2 m hm
/-! Settings as numbers -/
def prodN : List Nat → Nat
  | [] => 1
  | r :: rs => r * prodN rs
def numA : List Nat → List Int → Int → Int
  | r :: rs, k :: ks, n => numA rs ks (n * r + k)
  | _, _, n => n
def numF (rs : List Nat) (s : List Int) : Int := numA rs s 0
/-- A setting: for each clock a choice. -/
def SetV (rs : List Nat) (s : List Int) : Prop := s.length = rs.length ∧ ∀ (i : Nat) (h : i < s.length) (h' : i < rs.length), 0 ≤ s[i] ∧ s[i] < (rs[i] : Int)
theorem SetV.tail {r : Nat} {rs : List Nat} {k : Int} {ks : List Int} (h : SetV (r :: rs) (k :: ks)) : (0 ≤ k ∧ k < r) ∧ SetV rs ks := by
  refine ⟨h.2 0 (by simp) (by simp), by have := h.1; simpa using this, fun i h1 h2 => ?_⟩
  have := h.2 (i + 1) (by simp; omega) (by simp; omega)
  simpa using this
theorem numA_eq : ∀ (rs : List Nat) (s : List Int) (n : Int), s.length = rs.length → numA rs s n = n * (prodN rs : Int) + numA rs s 0
  | [], [], n, _ => by simp [numA, prodN]
  | r :: rs, k :: ks, n, h => by
    have h' : ks.length = rs.length := by simpa using h
    simp only [numA, prodN]
    rw [numA_eq rs ks (n * r + k) h', numA_eq rs ks (0 * r + k) h']
    rw [Int.natCast_mul, Int.add_mul, Int.add_mul, Int.mul_assoc]
    omega
theorem numF_range : ∀ {rs : List Nat} {s : List Int}, SetV rs s → 0 ≤ numF rs s ∧ numF rs s < (prodN rs : Int)
  | [], [], _ => by simp [numF, numA, prodN]
  | r :: rs, k :: ks, h => by
    obtain ⟨⟨h1, h2⟩, h3⟩ := h.tail
    obtain ⟨h4, h5⟩ := numF_range h3
    unfold numF at *
    simp only [numA, prodN]
    rw [numA_eq rs ks _ h3.1, Int.natCast_mul, Int.zero_mul, Int.zero_add]
    refine ⟨Int.add_nonneg (Int.mul_nonneg h1 (by omega)) h4, ?_⟩
    have : (k + 1) * (prodN rs : Int) ≤ r * (prodN rs : Int) := Int.mul_le_mul_of_nonneg_right (by omega) (by omega)
    rw [Int.add_mul] at this
    omega
  | [], _ :: _, h => by have := h.1; simp at this
  | _ :: _, [], h => by have := h.1; simp at this
theorem numA_app : ∀ (rs : List Nat) (s : List Int) (rs' : List Nat) (s' : List Int) (n : Int), s.length = rs.length → numA (rs ++ rs') (s ++ s') n = numA rs' s' (numA rs s n)
  | [], [], _, _, _, _ => rfl
  | r :: rs, k :: ks, rs', s', n, h => numA_app rs ks rs' s' _ (by simpa using h)
theorem numA_snoc {rs : List Nat} {s : List Int} {c : Nat} (h : s.length = rs.length) (hc : c < rs.length) : numA (rs.take (c + 1)) (s.take (c + 1)) 0 = numA (rs.take c) (s.take c) 0 * (rs[c] : Int) + s[c]'(by omega) := by
  rw [List.take_succ_eq_append_getElem hc, List.take_succ_eq_append_getElem (show c < s.length by omega), numA_app _ _ _ _ _ (by simp; omega)]
  rfl
theorem SetV.take {rs : List Nat} {s : List Int} (h : SetV rs s) (c : Nat) : SetV (rs.take c) (s.take c) := by
  refine ⟨by simp [h.1], fun i h1 h2 => ?_⟩
  simp at h1 h2
  have := h.2 i (by omega) (by omega)
  simpa using this
theorem SetV.drop {rs : List Nat} {s : List Int} (h : SetV rs s) (c : Nat) : SetV (rs.drop c) (s.drop c) := by
  refine ⟨by simp [h.1], fun i h1 h2 => ?_⟩
  simp at h1 h2
  have := h.2 (c + i) (by omega) (by omega)
  simpa using this
theorem prodN_app (a b : List Nat) : prodN (a ++ b) = prodN a * prodN b := by
  induction a with
  | nil => simp [prodN]
  | cons r a ih => simp [prodN, ih, Nat.mul_assoc]
/-- A number in two parts. -/
theorem numF_split {rs : List Nat} {s : List Int} (h : SetV rs s) (c : Nat) : numF rs s = numF (rs.take c) (s.take c) * (prodN (rs.drop c) : Int) + numF (rs.drop c) (s.drop c) := by
  have := numA_app (rs.take c) (s.take c) (rs.drop c) (s.drop c) 0 (h.take c).1
  rw [List.take_append_drop, List.take_append_drop] at this
  unfold numF
  rw [this, numA_eq _ _ _ (h.drop c).1]
theorem numF_div {rs : List Nat} {s : List Int} (h : SetV rs s) (c : Nat) : numF rs s / (prodN (rs.drop c) : Int) = numF (rs.take c) (s.take c) := by
  obtain ⟨h1, h2⟩ := numF_range (h.drop c)
  rw [numF_split h c, Int.add_comm, Int.add_mul_ediv_right _ _ (by omega), Int.ediv_eq_zero_of_lt h1 h2, Int.zero_add]
/-- The setting with a number. -/
def setF (rs : List Nat) (n : Int) : List Int := (List.range rs.length).map fun i => (n / (prodN (rs.drop (i + 1)) : Int)) % (rs.getD i 1 : Int)
theorem len_setF (rs : List Nat) (n : Int) : (setF rs n).length = rs.length := by simp [setF]
theorem setF_num {rs : List Nat} {s : List Int} (h : SetV rs s) : setF rs (numF rs s) = s := by
  apply List.ext_getElem
  · rw [len_setF, h.1]
  · intro i h1 h2
    rw [len_setF] at h1
    have h3 := h.2 i h2 h1
    simp only [setF, List.getElem_map, List.getElem_range]
    rw [numF_div h, numF, numA_snoc h.1 h1]
    have : rs.getD i 1 = rs[i] := by simp [List.getD, h1]
    rw [this, Int.add_comm, Int.add_mul_emod_self_right, Int.emod_eq_of_lt h3.1 h3.2]
theorem numF_inj {rs : List Nat} {s t : List Int} (hs : SetV rs s) (ht : SetV rs t) (h : numF rs s = numF rs t) : s = t := by rw [← setF_num hs, h, setF_num ht]
theorem SetV.set {rs : List Nat} {s : List Int} (h : SetV rs s) {i : Nat} (hi : i < rs.length) {k : Int} (hk : 0 ≤ k ∧ k < rs[i]) : SetV rs (s.set i k) := by
  refine ⟨by simp [h.1], fun j h1 h2 => ?_⟩
  rw [List.getElem_set]
  split
  · rename_i e; subst e; exact hk
  · exact h.2 j (by simpa using h1) h2
/-- The next setting has the next number. -/
theorem numF_max : ∀ {rs : List Nat} {s : List Int}, SetV rs s → (∀ (i : Nat) (h : i < s.length) (h' : i < rs.length), s[i] = (rs[i] : Int) - 1) → numF rs s + 1 = (prodN rs : Int)
  | [], [], _, _ => by simp [numF, numA, prodN]
  | r :: rs, k :: ks, h, hm => by
    obtain ⟨_, h3⟩ := h.tail
    have h4 := numF_max h3 fun i h1 h2 => by have := hm (i + 1) (by simp; omega) (by simp; omega); simpa using this
    have h5 := hm 0 (by simp) (by simp)
    simp only [List.getElem_cons_zero] at h5
    unfold numF at *
    simp only [numA, prodN]
    rw [numA_eq rs ks _ h3.1, Int.natCast_mul, Int.zero_mul, Int.zero_add, h5, Int.sub_mul]
    omega
  | [], _ :: _, h, _ => by have := h.1; simp at this
  | _ :: _, [], h, _ => by have := h.1; simp at this
theorem numF_zero : ∀ (rs : List Nat) (n : Nat), numF rs (List.replicate n 0) = 0
  | [], n => by unfold numF; cases n <;> rfl
  | r :: rs, 0 => rfl
  | r :: rs, n + 1 => by
    have := numF_zero rs n
    unfold numF at *
    rw [List.replicate_succ, numA, Int.zero_mul, Int.zero_add]
    exact this
/-- All counters behind a place are at their ends: the next setting. -/
def nextS (s : List Int) (a : Nat) : List Int := s.take a ++ (s.getD a 0 + 1) :: List.replicate (s.length - (a + 1)) 0
theorem len_nextS {s : List Int} {a : Nat} (h : a < s.length) : (nextS s a).length = s.length := by simp [nextS]; omega
theorem nextS_V {rs : List Nat} (hr : ∀ r ∈ rs, 1 ≤ r) {s : List Int} (h : SetV rs s) {a : Nat} (ha : a < s.length) (hk : s[a] ≠ (rs[a]'(by have := h.1; omega) : Int) - 1) : SetV rs (nextS s a) := by
  refine ⟨by rw [len_nextS ha, h.1], fun i h1 h2 => ?_⟩
  have ha' : a < rs.length := by have := h.1; omega
  have h3 := h.2 a ha ha'
  have hp := hr _ (List.getElem_mem h2)
  rw [len_nextS ha] at h1
  have h4 := h.2 i h1 h2
  have e2 : s.getD a 0 = s[a] := by simp [List.getD, ha]
  have e : (nextS s a)[i]'(by rw [len_nextS ha]; exact h1) = if i < a then s[i] else if i = a then s[a] + 1 else 0 := by
    simp only [nextS, List.getElem_append, List.getElem_cons, e2]
    split
    · rename_i hlt
      simp at hlt
      rw [if_pos (by omega)]
      simp
    · rename_i hge
      simp at hge
      rw [if_neg (by omega)]
      split
      · rename_i h0
        simp at h0
        rw [if_pos (by omega)]
      · rename_i h0
        simp at h0
        rw [if_neg (by omega)]
        simp
  rw [e]
  split
  · exact h4
  · split
    · rename_i e'; subst e'; omega
    · omega
theorem nextS_num {rs : List Nat} (hr : ∀ r ∈ rs, 1 ≤ r) {s : List Int} (h : SetV rs s) {a : Nat} (ha : a < s.length) (hk : s[a] ≠ (rs[a]'(by have := h.1; omega) : Int) - 1) (hm : ∀ (i : Nat) (h : i < s.length) (h' : i < rs.length), a < i → s[i] = (rs[i] : Int) - 1) : numF rs (nextS s a) = numF rs s + 1 := by
  have ha' : a < rs.length := by have := h.1; omega
  have hv := nextS_V hr h ha hk
  have e1 := numF_split h (a + 1)
  have e2 := numF_split hv (a + 1)
  have hd : (nextS s a).drop (a + 1) = List.replicate (s.length - (a + 1)) 0 := by
    unfold nextS
    rw [List.drop_append, List.drop_eq_nil_of_le (by simp; omega)]
    have : a + 1 - (s.take a).length = 1 := by simp; omega
    rw [this]; simp
  have ht : (nextS s a).take (a + 1) = s.take a ++ [s.getD a 0 + 1] := by
    unfold nextS
    rw [List.take_append, List.take_of_length_le (by simp; omega)]
    have : a + 1 - (s.take a).length = 1 := by simp; omega
    rw [this]; simp
  have e3 := numF_max (h.drop (a + 1)) fun i h1 h2 => by
    have := hm (a + 1 + i) (by simp at h1; omega) (by simp at h2; omega) (by omega)
    simpa using this
  have e4 : s.take (a + 1) = s.take a ++ [s.getD a 0] := by
    rw [List.take_succ_eq_append_getElem ha]
    simp [List.getD, ha]
  have e5 : numF (rs.take (a + 1)) (s.take a ++ [s.getD a 0 + 1]) = numF (rs.take (a + 1)) (s.take a ++ [s.getD a 0]) + 1 := by
    unfold numF
    rw [List.take_succ_eq_append_getElem ha', numA_app _ _ _ _ _ (by simp; omega), numA_app _ _ _ _ _ (by simp; omega)]
    simp only [numA]
    omega
  rw [hd, ht, e5] at e2
  rw [e4] at e1
  have e6 : numF (rs.drop (a + 1)) (List.replicate (s.length - (a + 1)) 0) = 0 := numF_zero _ _
  rw [e6, Int.add_mul] at e2
  omega
/-- Different numbers below a bound are not more than it. -/
theorem nodup_le : ∀ (N : Nat) (l : List Int), l.Nodup → (∀ x ∈ l, 0 ≤ x ∧ x < N) → l.length ≤ N
  | 0, [], _, _ => by simp
  | 0, x :: l, _, h => by have := h x (List.mem_cons_self ..); omega
  | N + 1, l, hn, h => by
    have h1 := nodup_le N (l.erase (N : Int)) (hn.erase _) fun x hx => by
      have := (List.Nodup.mem_erase_iff hn).1 hx
      have := h x this.2
      have h2 : x ≠ N := by simp_all
      omega
    rw [List.length_erase] at h1
    split at h1 <;> omega
open Go.Abs
set_option maxRecDepth 100000
theorem CloneI_call (nl : Bool) (xs : List Int) (h : xs.length ≤ 100000) : ACall Tryz.prog 29 [.p (.list nl (xs.map pI))] [] fun r H => ∃ nb, r = .buf 0 ∧ H = [some (AO.buf 3 nb (xs.map pI))] := by
  refine acall_enter Tryz.func29 rfl rfl tabOK rfl ?_
  (conv => whnf); repeat' ((first | apply CondA.plain | refine' gC | refine' gpI | refine' gpB | refine' gDrpv | refine' gE | (apply DrawA.quiet (by kernel_rfl) (by kernel_rfl); (conv => whnf); fail_if_success (show False)) | (refine IsL.mk (([] : List Int).map pI) (by simp) ?_)) <;> (conv => whnf))
  · rename_i hn
    obtain rfl := hn h0
    refine RetK.nil (e := 3) rfl ?_
    (refine' RetK.auto (.buf 0) ([some (AO.buf 3 true (([] : List Int).map pI))]) rfl rfl rfl rfl _ _ _ <;> repeat' (first | exact trivial | refine And.intro ?_ ?_ | with_reducible rfl | (refine pIEq ?_; exact ar_) | (refine bufMap ?_) | (refine bufNil ?_) | (refine bufEq ?_) | rfl))
    exact ⟨true, rfl, rfl⟩
  · (refine' RetK.auto (.buf 0) ([some (AO.buf 3 _ (xs.map pI))]) rfl rfl rfl rfl _ _ _ <;> repeat' (first | exact trivial | refine And.intro ?_ ?_ | with_reducible rfl | (refine pIEq ?_; exact ar_) | (refine bufMap ?_) | (refine bufNil ?_) | (refine bufEq ?_) | rfl))
    exact ⟨_, rfl, rfl⟩
theorem CloneB_call (nl : Bool) (xs : List Bool) (h : xs.length ≤ 100000) : ACall Tryz.prog 146 [.p (.list nl (xs.map pB))] [] fun r H => ∃ nb, r = .buf 0 ∧ H = [some (AO.buf 4 nb (xs.map pB))] := by
  refine acall_enter Tryz.func146 rfl rfl tabOK rfl ?_
  (conv => whnf); repeat' ((first | apply CondA.plain | refine' gC | refine' gpI | refine' gpB | refine' gDrpv | refine' gE | (apply DrawA.quiet (by kernel_rfl) (by kernel_rfl); (conv => whnf); fail_if_success (show False)) | (refine IsL.mk (([] : List Bool).map pB) (by simp) ?_)) <;> (conv => whnf))
  · rename_i hn
    obtain rfl := hn h0
    refine RetK.nil (e := 4) rfl ?_
    (refine' RetK.auto (.buf 0) ([some (AO.buf 4 true (([] : List Bool).map pB))]) rfl rfl rfl rfl _ _ _ <;> repeat' (first | exact trivial | refine And.intro ?_ ?_ | with_reducible rfl | (refine pIEq ?_; exact ar_) | (refine bufMap ?_) | (refine bufNil ?_) | (refine bufEq ?_) | rfl))
    exact ⟨true, rfl, rfl⟩
  · (refine' RetK.auto (.buf 0) ([some (AO.buf 4 _ (xs.map pB))]) rfl rfl rfl rfl _ _ _ <;> repeat' (first | exact trivial | refine And.intro ?_ ?_ | with_reducible rfl | (refine pIEq ?_; exact ar_) | (refine bufMap ?_) | (refine bufNil ?_) | (refine bufEq ?_) | rfl))
    exact ⟨_, rfl, rfl⟩
theorem CloneD_call (nl : Bool) (xs : List Dr) (h : xs.length ≤ 100000) : ACall Tryz.prog 39 [.p (.list nl (xs.map Dr.pv))] [] fun r H => ∃ nb, r = .buf 0 ∧ H = [some (AO.buf 71 nb (xs.map Dr.pv))] := by
  refine acall_enter Tryz.func39 rfl rfl tabOK rfl ?_
  (conv => whnf); repeat' ((first | apply CondA.plain | refine' gC | refine' gpI | refine' gpB | refine' gDrpv | refine' gE | (apply DrawA.quiet (by kernel_rfl) (by kernel_rfl); (conv => whnf); fail_if_success (show False)) | (refine IsL.mk (([] : List Dr).map Dr.pv) (by simp) ?_)) <;> (conv => whnf))
  · rename_i hn
    obtain rfl := hn h0
    refine RetK.nil (e := 71) rfl ?_
    (refine' RetK.auto (.buf 0) ([some (AO.buf 71 true (([] : List Dr).map Dr.pv))]) rfl rfl rfl rfl _ _ _ <;> repeat' (first | exact trivial | refine And.intro ?_ ?_ | with_reducible rfl | (refine pIEq ?_; exact ar_) | (refine bufMap ?_) | (refine bufNil ?_) | (refine bufEq ?_) | rfl))
    exact ⟨true, rfl, rfl⟩
  · (refine' RetK.auto (.buf 0) ([some (AO.buf 71 _ (xs.map Dr.pv))]) rfl rfl rfl rfl _ _ _ <;> repeat' (first | exact trivial | refine And.intro ?_ ?_ | with_reducible rfl | (refine pIEq ?_; exact ar_) | (refine bufMap ?_) | (refine bufNil ?_) | (refine bufEq ?_) | rfl))
    exact ⟨_, rfl, rfl⟩
def rlH (b1 b2 : Bool) (r : Rl) : AH := [some (AO.buf 4 b1 (r.on.map pB)), some (AO.buf 3 b2 (r.lev.map pI))]
def cpASC0 : Sc := (.one 4 (.one 5 (.take 6 (.one 7 .done))))
def cpASC1 : Sc := (.one 2 (.one 5 (.take 6 (.one 7 .done))))
def cpASC2 : Sc := (.two 2 4 cpASC0 cpASC1)
def cpASC3 : Sc := (.one 1 (.one 2 (.one 5 (.take 6 (.one 7 .done)))))
def cpA : Sc := (.take 0 (.take 3 (.two 1 4 cpASC2 cpASC3)))
theorem copied_call (n1 n3 : Bool) (r : Rl) (h1 : r.on.length ≤ 16) (h2 : r.lev.length ≤ 16) : ACall Tryz.prog 98 [.p (Rl.pv n1 n3 r)] [] fun r' H => ∃ b1 b2, r' = .agg [.buf 0, .buf 1] ∧ H = rlH b1 b2 r := by
  refine acall_enter Tryz.func98 rfl rfl tabOK rfl ?_
  (conv => whnf); repeat' ((first | apply CondA.plain | refine' gC | refine' gpI | refine' gpB | refine' gDrpv | refine' gE | (apply DrawA.orders cpA (by kernel_rfl) (by kernel_rfl) (by kernel_rfl)) | ((refine CallA.loc [] [] rfl rfl ((CloneB_call n1 r.on (by omega)).mono ?_); rintro _ _ ⟨b1, rfl, rfl⟩)) | ((refine CallA.loc [] [] rfl rfl ((CloneI_call n3 r.lev (by omega)).mono ?_); rintro _ _ ⟨b2, rfl, rfl⟩))) <;> (conv => whnf))
  all_goals
    (refine' RetK.auto (.agg [.buf 0, .buf 1]) (rlH b1 b2 r) rfl rfl rfl rfl _ _ _ <;> repeat' (first | exact trivial | refine And.intro ?_ ?_ | with_reducible rfl | (refine pIEq ?_; exact ar_) | (refine bufMap ?_) | (refine bufNil ?_) | (refine bufEq ?_) | rfl))
    exact ⟨b1, b2, rfl, rfl⟩
open Go.Abs
/-- Rails as a value. -/
structure Rq where
  n1 : Bool
  n3 : Bool
  r : Rl
def Rq.pv (q : Rq) : PV := .agg [.list q.n1 (q.r.on.map pB), .list q.n3 (q.r.lev.map pI)]
theorem gRqpv {P : Prop} (h : P := by
  (first | ((first | apply AppA.snoc (f := Rq.pv) (a := _) rfl | apply AppA.one (f := Rq.pv) (a := _) rfl | (apply AppA.snoc (f := Rq.pv) (a := ⟨_, _, _⟩); dsimp only [Rq.pv]; exact rfl) | (apply AppA.one (f := Rq.pv) (a := ⟨_, _, _⟩); dsimp only [Rq.pv]; exact rfl)); exact ar_) | apply IsL.set (f := Rq.pv) (a := _) rfl | apply IsL.rep (f := Rq.pv) (a := _) rfl | (apply IsL.set (f := Rq.pv) (a := ⟨_, _, _⟩); dsimp only [Rq.pv]; exact rfl) | (apply IsL.rep (f := Rq.pv) (a := ⟨_, _, _⟩); dsimp only [Rq.pv]; exact rfl) | apply IsL.lit (f := Rq.pv) [] rfl | apply IsL.lit (f := Rq.pv) [_] rfl | apply IsL.lit (f := Rq.pv) [_, _] rfl | apply IsL.lit (f := Rq.pv) [_, _, _] rfl | apply IsL.lit (f := Rq.pv) [] rfl | apply IsL.lit (f := Rq.pv) [⟨_, _, _⟩] rfl | apply IsL.lit (f := Rq.pv) [⟨_, _, _⟩, ⟨_, _, _⟩] rfl | apply IsL.lit (f := Rq.pv) [⟨_, _, _⟩, ⟨_, _, _⟩, ⟨_, _, _⟩] rfl) <;> (solve_by_elim (newGoals := .nonDependentOnly) (symm := false) (exfalso := false) (transparency := .reducible) only [rfl, park_])) : P := h
set_option maxRecDepth 100000
theorem badR_call (nl : Bool) (l : List Sup) (hl : AllS l) (q : Rq) : ACall Tryz.prog 145 [.p q.pv, .ptr 0 0] (supB nl l) fun r' H => ∃ b, r' = .p (pB b) ∧ H = supB nl l ∧ (b = true ↔ ¬ RlV l q.r) := by
  refine acall_enter Tryz.func145 rfl rfl tabOK rfl ?_
  (conv => whnf); repeat' ((first | apply CondA.plain | refine' gC | refine' gpI | refine' gpB | refine' gSuppv | refine' gRqpv | refine' gE | ((refine call_exB (sRails_call nl q.n1 q.n3 l q.r) ?_; intro b hb))) <;> (conv => whnf))
  (refine' RetK.auto (.p (pB _)) (supB nl l) rfl rfl rfl rfl _ _ _ <;> repeat' (first | exact trivial | refine And.intro ?_ ?_ | with_reducible rfl | (refine pIEq ?_; exact ar_) | (refine bufMap ?_) | (refine bufNil ?_) | (refine bufEq ?_) | rfl))
  refine ⟨_, rfl, rfl, ?_⟩
  rw [Bool.not_eq_true', ← Bool.not_eq_true, hb]
  exact ⟨fun h hr => h ⟨hl, hr⟩, fun h hr => h hr.2⟩
theorem badR_index (nl : Bool) (l : List Sup) (hl : AllS l) (n2 : Bool) (xs : List Rq)  : ACall Tryz.prog 173 [.p (.list n2 (xs.map Rq.pv)), .clo (.func 145) [.ptr 0 0]] [some (.cells [.p (.list nl (l.map Sup.pv))])] fun r' H' => ∃ v : Int, r' = .p (pI v) ∧ H' = [some (.cells [.p (.list nl (l.map Sup.pv))])] ∧ (0 ≤ v ↔ ∃ x ∈ xs, ¬ RlV l x.r) := by
  refine acall_enter Tryz.func173 rfl rfl tabOK rfl ?_
  (conv => whnf); repeat' ((first | apply CondA.plain | refine' gC | refine' gpI | refine' gpB | refine' gSuppv | refine' gRqpv | refine' gE | (apply DrawA.quiet (by kernel_rfl) (by kernel_rfl); (conv => whnf); fail_if_success (show False))) <;> (conv => whnf))
  refine loop_rule (fun (c : Nat) => ⟨[(0, .p (.list n2 (xs.map Rq.pv))), (1, .clo (.func 145) [.ptr 0 0]), (7, .p (pI xs.length)), (8, .p (pI c))], [some (.cells [.p (.list nl (l.map Sup.pv))])]⟩) (fun (c : Nat) => c ≤ xs.length ∧ ∀ (k : Nat) (h : k < xs.length), k < c → ¬ (fun x => ¬ RlV l x.r) xs[k]) (fun (c : Nat) => xs.length - c) 0 ?_ ?_ ?_; (refine SubA.auto rfl rfl rfl rfl ?_ ?_ <;> repeat' (first | exact trivial | refine And.intro ?_ ?_ | with_reducible rfl | (refine pIEq ?_; exact ar_) | (refine bufMap ?_) | (refine bufNil ?_) | (refine bufEq ?_) | rfl))
  · exact ⟨by omega, by omega⟩
  rintro c ⟨hc, hok⟩
  rcases Nat.lt_or_ge c xs.length with hlt | hge
  · (conv => whnf); repeat' ((first | apply CondA.plain | refine' gC | refine' gpI | refine' gpB | refine' gSuppv | refine' gRqpv | refine' gE | (apply DrawA.quiet (by kernel_rfl) (by kernel_rfl); (conv => whnf); fail_if_success (show False))) <;> (conv => whnf))
    refine CallA.loc [0] [] rfl rfl ((badR_call nl l hl xs[c]).mono ?_)
    rintro r' H' ⟨b, rfl, rfl, hb⟩
    (conv => whnf); repeat' ((first | apply CondA.plain | refine' gC | refine' gpI | refine' gpB | refine' gSuppv | refine' gRqpv | refine' gE | (apply DrawA.quiet (by kernel_rfl) (by kernel_rfl); (conv => whnf); fail_if_success (show False))) <;> (conv => whnf))
    · (refine' RetK.auto (.p (pI c)) ([some (.cells [.p (.list nl (l.map Sup.pv))])]) rfl rfl rfl rfl _ _ _ <;> repeat' (first | exact trivial | refine And.intro ?_ ?_ | with_reducible rfl | (refine pIEq ?_; exact ar_) | (refine bufMap ?_) | (refine bufNil ?_) | (refine bufEq ?_) | rfl))
      exact ⟨_, rfl, rfl, fun _ => ⟨_, List.getElem_mem hlt, hb.1 (by assumption)⟩, fun _ => by omega⟩
    · (refine' ⟨c + 1, _, _, _⟩; rotate_right; (refine SubA.auto rfl rfl rfl rfl ?_ ?_ <;> repeat' (first | exact trivial | refine And.intro ?_ ?_ | with_reducible rfl | (refine pIEq ?_; exact ar_) | (refine bufMap ?_) | (refine bufNil ?_) | (refine bufEq ?_) | rfl)); rotate_right; exact ar2_)
      refine ⟨by omega, fun k hk hkc => ?_⟩
      rcases Nat.lt_or_ge k c with h3 | h3
      · exact hok k hk h3
      · obtain rfl : k = c := by omega
        exact fun h => by have hbf : b = false := (by assumption); rw [hb.2 h] at hbf; cases hbf
  · (conv => whnf); repeat' ((first | apply CondA.plain | refine' gC | refine' gpI | refine' gpB | refine' gSuppv | refine' gRqpv | refine' gE | (apply DrawA.quiet (by kernel_rfl) (by kernel_rfl); (conv => whnf); fail_if_success (show False))) <;> (conv => whnf))
    (refine' RetK.auto (.p (pI (-1))) ([some (.cells [.p (.list nl (l.map Sup.pv))])]) rfl rfl rfl rfl _ _ _ <;> repeat' (first | exact trivial | refine And.intro ?_ ?_ | with_reducible rfl | (refine pIEq ?_; exact ar_) | (refine bufMap ?_) | (refine bufNil ?_) | (refine bufEq ?_) | rfl))
    refine ⟨_, rfl, rfl, fun h => (by omega), fun ⟨x, hx, h⟩ => ?_⟩
    obtain ⟨k, hk, rfl⟩ := List.getElem_of_mem hx
    exact absurd h (hok k hk (by omega))
theorem badR_contains (nl : Bool) (l : List Sup) (hl : AllS l) (n2 : Bool) (xs : List Rq)  : ACall Tryz.prog 144 [.p (.list n2 (xs.map Rq.pv)), .clo (.func 145) [.ptr 0 0]] [some (.cells [.p (.list nl (l.map Sup.pv))])] fun r' H' => ∃ b : Bool, r' = .p (pB b) ∧ H' = [some (.cells [.p (.list nl (l.map Sup.pv))])] ∧ (b = true ↔ ∃ x ∈ xs, ¬ RlV l x.r) := by
  refine acall_enter Tryz.func144 rfl rfl tabOK rfl ?_
  (conv => whnf); repeat' ((first | apply CondA.plain | refine' gC | refine' gpI | refine' gpB | refine' gSuppv | refine' gRqpv | refine' gE | (apply DrawA.quiet (by kernel_rfl) (by kernel_rfl); (conv => whnf); fail_if_success (show False))) <;> (conv => whnf))
  refine CallA.all ((badR_index nl l hl n2 xs ).mono ?_)
  rintro r' H' ⟨v, rfl, rfl, hv⟩
  (conv => whnf); repeat' ((first | apply CondA.plain | refine' gC | refine' gpI | refine' gpB | refine' gSuppv | refine' gRqpv | refine' gE | (apply DrawA.quiet (by kernel_rfl) (by kernel_rfl); (conv => whnf); fail_if_success (show False))) <;> (conv => whnf))
  (refine' RetK.auto (.p (pB _)) ([some (.cells [.p (.list nl (l.map Sup.pv))])]) rfl rfl rfl rfl _ _ _ <;> repeat' (first | exact trivial | refine And.intro ?_ ?_ | with_reducible rfl | (refine pIEq ?_; exact ar_) | (refine bufMap ?_) | (refine bufNil ?_) | (refine bufEq ?_) | rfl))
  exact ⟨_, rfl, rfl, by rw [decide_eq_true_eq]; exact hv⟩

theorem rbegin_call (nl n2 : Bool) (l : List Sup) (qs : List Rq) : ACall Tryz.prog 96 [.p (.list nl (l.map Sup.pv)), .p (.list n2 (qs.map Rq.pv))] [] fun r H => ∃ e : Int, r = .p (pI e) ∧ H = [] ∧ (e = 0 ↔ AllS l ∧ ∀ q ∈ qs, RlV l q.r) := by
  refine acall_enter Tryz.func96 rfl rfl tabOK rfl ?_
  (conv => whnf); repeat' ((first | apply CondA.plain | refine' gC | refine' gpI | refine' gpB | refine' gSuppv | refine' gRqpv | refine' gE | ((refine call_exI (sCheck_call nl l) ?_; intro e he))) <;> (conv => whnf))
  · (refine RetK.p ?_ <;> repeat' (first | exact trivial | refine And.intro ?_ ?_ | with_reducible rfl | (refine pIEq ?_; exact ar_) | (refine bufMap ?_) | (refine bufNil ?_) | (refine bufEq ?_) | rfl); all_goals try first | refine pBEq ?_ | refine pIEq ?_)
    exact ⟨_, rfl, rfl, fun h => absurd h (by assumption), fun h => absurd (he.2 h.1) (by assumption)⟩
  have hl : AllS l := he.1 (by assumption)
  refine CallA.loc [0] [] rfl rfl ((badR_contains nl l hl n2 qs).mono ?_)
  rintro _ _ ⟨b, rfl, rfl, hb⟩
  (conv => whnf); repeat' ((first | apply CondA.plain | refine' gC | refine' gpI | refine' gpB | refine' gSuppv | refine' gRqpv | refine' gE | (apply DrawA.quiet (by kernel_rfl) (by kernel_rfl); (conv => whnf); fail_if_success (show False))) <;> (conv => whnf))
  · (refine RetK.p ?_ <;> repeat' (first | exact trivial | refine And.intro ?_ ?_ | with_reducible rfl | (refine pIEq ?_; exact ar_) | (refine bufMap ?_) | (refine bufNil ?_) | (refine bufEq ?_) | rfl); all_goals try first | refine pBEq ?_ | refine pIEq ?_)
    exact ⟨_, rfl, rfl, fun h => (by cases h), fun h => by obtain ⟨x, h1, h2⟩ := hb.1 h0; exact absurd (h.2 x h1) h2⟩
  · (refine RetK.p ?_ <;> repeat' (first | exact trivial | refine And.intro ?_ ?_ | with_reducible rfl | (refine pIEq ?_; exact ar_) | (refine bufMap ?_) | (refine bufNil ?_) | (refine bufEq ?_) | rfl); all_goals try first | refine pBEq ?_ | refine pIEq ?_)
    refine ⟨_, rfl, rfl, fun _ => ⟨hl, fun q hq => Classical.byContradiction fun h => ?_⟩, fun _ => rfl⟩
    rw [hb.2 ⟨q, hq, h⟩] at h0
    cases h0
open Go.Abs
set_option maxRecDepth 100000
/-- The join, as far as it is done. -/
def jnP (a b : Rl) (c : Nat) : Rl := ⟨(List.range b.on.length).map fun i => if i < c then onA a i || onA b i else onA b i, (List.range b.lev.length).map fun i => if i < c then (if onA a i then (if onA b i then max (lvA a i) (lvA b i) else lvA a i) else lvA b i) else lvA b i⟩
theorem jnP_zero (a b : Rl) : jnP a b 0 = b := by
  unfold jnP onA lvA
  have h1 : ((List.range b.on.length).map fun i => if i < 0 then a.on.getD i false || b.on.getD i false else b.on.getD i false) = b.on := List.ext_getElem (by simp) fun i h1 h2 => by simp [h2]
  have h2 : ((List.range b.lev.length).map fun i => if i < 0 then (if a.on.getD i false then (if b.on.getD i false then max (a.lev.getD i 0) (b.lev.getD i 0) else a.lev.getD i 0) else b.lev.getD i 0) else b.lev.getD i 0) = b.lev := List.ext_getElem (by simp) fun i h1 h2 => by simp [h2]
  rw [h1, h2]
theorem jnP_all {a b : Rl} {n : Nat} (h1 : b.on.length = n) (h2 : b.lev.length = n) : jnP a b n = joinR a b := by
  unfold jnP joinR
  congr 1
  · refine List.map_congr_left fun i hi => ?_
    rw [List.mem_range] at hi
    rw [if_pos (by omega)]
  · refine List.map_congr_left fun i hi => ?_
    rw [List.mem_range] at hi
    rw [if_pos (by omega)]
theorem len_jnP (a b : Rl) (c : Nat) : (jnP a b c).on.length = b.on.length ∧ (jnP a b c).lev.length = b.lev.length := by simp [jnP]
theorem jnP_on (a b : Rl) (c : Nat) : (jnP a b (c + 1)).on = (jnP a b c).on.set c (onA a c || onA b c) := by
  refine List.ext_getElem (by simp [jnP]) fun i h1 h2 => ?_
  rw [List.getElem_set]
  simp only [jnP, List.getElem_map, List.getElem_range]
  by_cases e : c = i
  · subst e; rw [if_pos (by omega), if_pos rfl]
  · rw [if_neg e]
    by_cases h : i < c
    · rw [if_pos (by omega), if_pos h]
    · rw [if_neg (by omega), if_neg h]
theorem jnP_lev (a b : Rl) (c : Nat) : (jnP a b (c + 1)).lev = (jnP a b c).lev.set c (if onA a c then (if onA b c then max (lvA a c) (lvA b c) else lvA a c) else lvA b c) := by
  refine List.ext_getElem (by simp [jnP]) fun i h1 h2 => ?_
  rw [List.getElem_set]
  simp only [jnP, List.getElem_map, List.getElem_range]
  by_cases e : c = i
  · subst e; rw [if_pos (by omega), if_pos rfl]
  · rw [if_neg e]
    by_cases h : i < c
    · rw [if_pos (by omega), if_pos h]
    · rw [if_neg (by omega), if_neg h]
theorem jnP_at {a b : Rl} {c : Nat} (h1 : c < b.on.length) (h2 : c < b.lev.length) : ((jnP a b c).on.set c (onA b c) = (jnP a b c).on) ∧ ((jnP a b c).lev.set c (lvA b c) = (jnP a b c).lev) := by
  constructor
  · refine List.ext_getElem (by simp) fun i h1 h2 => ?_
    rw [List.getElem_set]
    split
    · rename_i e; subst e; simp [jnP]
    · rfl
  · refine List.ext_getElem (by simp) fun i h1 h2 => ?_
    rw [List.getElem_set]
    split
    · rename_i e; subst e; simp [jnP]
    · rfl
def jA : Sc := (.take 0 (.take 2 (.take 3 (.frz 4 (.take 5 (.take 6 (.frz 7 (.take 8 (.frz 9 (.take 10 (.take 11 (.frz 12 (.take 13 (.one 1 (.take 14 (.one 15 .done))))))))))))))))
def jBSC0 : Sc := (.one 12 (.take 13 (.one 14 .done)))
def jBSC1 : Sc := (.one 4 (.take 13 (.one 14 .done)))
def jBSC2 : Sc := (.take 11 (.two 4 12 jBSC0 jBSC1))
def jBSC3 : Sc := (.one 1 (.take 11 (.one 12 (.take 13 (.one 14 .done)))))
def jB : Sc := (.take 0 (.take 2 (.take 3 (.take 5 (.take 6 (.frz 7 (.take 8 (.take 9 (.frz 10 (.two 1 4 jBSC2 jBSC3))))))))))
set_option maxHeartbeats 2000000 in
theorem join_call (a b : Rq) (n : Nat) (hn : n ≤ 16) (ha1 : a.r.on.length = n) (ha2 : a.r.lev.length = n) (hb1 : b.r.on.length = n) (hb2 : b.r.lev.length = n) : ACall Tryz.prog 97 [.p a.pv, .p b.pv] [] fun r' H => ∃ c1 c2, r' = .agg [.buf 0, .buf 1] ∧ H = rlH c1 c2 (joinR a.r b.r) := by
  refine acall_enter Tryz.func97 rfl rfl tabOK rfl ?_
  (conv => whnf); repeat' ((first | apply CondA.plain | refine' gC | refine' gpI | refine' gpB | refine' gSuppv | refine' gRqpv | refine' gE | (apply DrawA.quiet (by kernel_rfl) (by kernel_rfl); (conv => whnf); fail_if_success (show False))) <;> (conv => whnf))
  refine CallA.loc [] [] rfl rfl ((copied_call b.n1 b.n3 b.r (by omega) (by omega)).mono ?_)
  rintro _ _ ⟨c1, c2, rfl, rfl⟩
  (conv => whnf); repeat' ((first | apply CondA.plain | refine' gC | refine' gpI | refine' gpB | refine' gSuppv | refine' gRqpv | refine' gE | (apply DrawA.quiet (by kernel_rfl) (by kernel_rfl); (conv => whnf); fail_if_success (show False))) <;> (conv => whnf))
  refine loop_rule (fun (c : Nat) => ⟨[(2, .rptr [.list a.n1 (a.r.on.map pB), .list a.n3 (a.r.lev.map pI)]), (3, .rptr [.list b.n1 (b.r.on.map pB), .list b.n3 (b.r.lev.map pI)]), (4, .ptr 2 0), (5, .ptr 3 0), (11, .p (pI n)), (12, .p (pI c))], [none, none, some (.cells [.p (.list true []), .p (.list true [])]), some (.cells [.buf 4, .buf 5]), some (AO.buf 4 c1 ((jnP a.r b.r c).on.map pB)), some (AO.buf 3 c2 ((jnP a.r b.r c).lev.map pI))]⟩) (fun (c : Nat) => c ≤ n) (fun (c : Nat) => n - c) 0 ?_ ?_ ?_; (refine SubA.ret _ 2 0 [.list a.n1 (a.r.on.map pB), .list a.n3 (a.r.lev.map pI)] rfl rfl ?_; refine SubA.ret _ 3 1 [.list b.n1 (b.r.on.map pB), .list b.n3 (b.r.lev.map pI)] rfl rfl ?_; refine SubA.auto rfl rfl rfl rfl ?_ ?_ <;> repeat' (first | exact trivial | refine And.intro ?_ ?_ | with_reducible rfl | (refine pIEq ?_; exact ar_) | (refine bufMap ?_) | (refine bufNil ?_) | (refine bufEq ?_) | rfl))
  · rw [jnP_zero]
  · rw [jnP_zero]
  · omega
  intro c hc
  replace hc : c ≤ n := hc
  rcases Nat.lt_or_ge c n with hlt | hge
  · have e1 := jnP_on a.r b.r c
    have e2 := jnP_lev a.r b.r c
    obtain ⟨e3, e4⟩ := jnP_at (a := a.r) (b := b.r) (c := c) (by omega) (by omega)
    unfold onA at e1 e2 e3
    unfold lvA at e2 e4
    rw [getD_at (show c < a.r.on.length by omega), getD_at (show c < b.r.on.length by omega)] at e1 e2
    rw [getD_at (show c < a.r.lev.length by omega), getD_at (show c < b.r.lev.length by omega)] at e2
    rw [getD_at (show c < b.r.on.length by omega)] at e3
    rw [getD_at (show c < b.r.lev.length by omega)] at e4
    obtain ⟨l1, l2⟩ := len_jnP a.r b.r c
    generalize jnP a.r b.r c = J at l1 l2 e1 e2 e3 e4 ⊢
    cases hA : a.r.on[c]'(by omega) <;> cases hB : b.r.on[c]'(by omega)
    all_goals
      rw [hA, hB] at e1 e2
      rw [hB] at e3
      simp only [Bool.or_true, Bool.or_false, if_true, if_false, Bool.false_eq_true, e3, e4] at e1 e2
    all_goals
      (conv => whnf); repeat' ((first | apply CondA.plain | refine' gC | refine' gpI | refine' gpB | refine' gSuppv | refine' gRqpv | refine' gE | (apply DrawA.orders jA (by kernel_rfl) (by kernel_rfl) (by decide +kernel)) | (apply DrawA.orders jB (by kernel_rfl) (by kernel_rfl) (by decide +kernel))) <;> (conv => whnf))
    all_goals
      (refine' ⟨c + 1, _, _, _⟩; rotate_right; (refine SubA.auto rfl rfl rfl rfl ?_ ?_ <;> repeat' (first | exact trivial | refine And.intro ?_ ?_ | with_reducible rfl | (refine pIEq ?_; exact ar_) | (refine bufMap ?_) | (refine bufNil ?_) | (refine bufEq ?_) | rfl)); rotate_right; exact ar2_)
    all_goals first
    | omega
    | exact e1.symm
    | exact e2.symm
    | (rw [e2]; congr 1; split <;> omega)
  · have hc' : c = n := by omega
    subst hc'
    (conv => whnf); repeat' ((first | apply CondA.plain | refine' gC | refine' gpI | refine' gpB | refine' gSuppv | refine' gRqpv | refine' gE | (apply DrawA.quiet (by kernel_rfl) (by kernel_rfl); (conv => whnf); fail_if_success (show False))) <;> (conv => whnf))
    (refine' RetK.auto (.agg [.buf 0, .buf 1]) (rlH c1 c2 (joinR a.r b.r)) rfl rfl rfl rfl _ _ _ <;> repeat' (first | exact trivial | refine And.intro ?_ ?_ | with_reducible rfl | (refine pIEq ?_; exact ar_) | (refine bufMap ?_) | (refine bufNil ?_) | (refine bufEq ?_) | rfl))
    · rw [jnP_all hb1 hb2]
    · rw [jnP_all hb1 hb2]
    · exact ⟨c1, c2, rfl, rfl⟩
theorem Join_call (nl : Bool) (l : List Sup) (a b : Rq) (hl : AllS l) (ha : RlV l a.r) (hb : RlV l b.r) : ACall Tryz.prog 48 [.p (.list nl (l.map Sup.pv)), .p a.pv, .p b.pv] [] fun r' H => ∃ c1 c2, r' = .tup [.p (Rq.pv ⟨c1, c2, joinR a.r b.r⟩), .p (pI 0)] ∧ H = [] := by
  refine acall_enter Tryz.func48 rfl rfl tabOK rfl ?_
  (conv => whnf); repeat' ((first | apply CondA.plain | refine' gC | refine' gpI | refine' gpB | refine' gSuppv | refine' gRqpv | refine' gE | ((apply IsL.lit (f := Rq.pv) [a, b] rfl))) <;> (conv => whnf))
  refine CallA.loc [] [3] rfl rfl ((rbegin_call nl false l [a, b]).mono ?_)
  rintro _ _ ⟨e, rfl, rfl, he⟩
  (conv => whnf); repeat' ((first | apply CondA.plain | refine' gC | refine' gpI | refine' gpB | refine' gSuppv | refine' gRqpv | refine' gE | (apply DrawA.quiet (by kernel_rfl) (by kernel_rfl); (conv => whnf); fail_if_success (show False))) <;> (conv => whnf))
  · exact absurd (he.2 ⟨hl, fun q hq => by simp at hq; rcases hq with rfl | rfl; exact ha; exact hb⟩) (by assumption)
  refine CallA.loc [] [] rfl rfl ((join_call a b l.length hl.1 ha.1 ha.2.1 hb.1 hb.2.1).mono ?_)
  rintro _ _ ⟨c1, c2, rfl, rfl⟩
  (conv => whnf); repeat' ((first | apply CondA.plain | refine' gC | refine' gpI | refine' gpB | refine' gSuppv | refine' gRqpv | refine' gE | (apply DrawA.quiet (by kernel_rfl) (by kernel_rfl); (conv => whnf); fail_if_success (show False))) <;> (conv => whnf))
  (refine RetK.frz _ _ _ [4, 5] ?_; refine' RetK.auto (.tup [.p (Rq.pv ⟨c1, c2, joinR a.r b.r⟩), .p (pI 0)]) ([]) rfl rfl rfl rfl _ _ _ <;> repeat' (first | exact trivial | refine And.intro ?_ ?_ | with_reducible rfl | (refine pIEq ?_; exact ar_) | (refine bufMap ?_) | (refine bufNil ?_) | (refine bufEq ?_) | rfl))
  exact ⟨c1, c2, rfl, rfl⟩
open Go.Abs
structure Wr where
  kind : Int
  unit : Int
  value : Int
def Wr.pv (w : Wr) : PV := .agg [pI w.kind, pI w.unit, pI w.value]
/-- Rails after a write. -/
def applyR (r : Rl) (w : Wr) : Rl := if w.kind = 2 then ⟨r.on, r.lev.set w.unit.toNat w.value⟩ else ⟨r.on.set w.unit.toNat (decide (w.value = 1)), r.lev⟩
def WrV (l : List Sup) (w : Wr) : Prop := (0 ≤ w.unit ∧ w.unit < l.length) ∧ ((w.kind = 2 ∧ 0 ≤ w.value ∧ w.value < (l.getD w.unit.toNat default).lv.length) ∨ (w.kind = 3 ∧ (w.value = 0 ∨ w.value = 1)))
def GoodR (l : List Sup) (d : List Dr) (a b r : Rl) : Prop := Meet l r d ∧ Between l a b r
abbrev RWay (l : List Sup) (d : List Dr) (a b : Rl) (ws : List Wr) : Prop := Way applyR (WrV l) (GoodR l d a b) a ws
def extL (r : Rl) (i : Nat) (v : Int) : List Wr := if lvA r i = v then [] else [⟨2, i, v⟩]
def extS (r : Rl) (i : Nat) (v : Bool) : List Wr := if onA r i = v then [] else [⟨3, i, if v then 1 else 0⟩]
theorem set_same {α : Type} {xs : List α} {i : Nat} {v d : α} (h : xs.getD i d = v) : xs.set i v = xs := by
  refine List.ext_getElem (by simp) fun j h1 h2 => ?_
  rw [List.getElem_set]
  split
  · rename_i e; subst e; rw [← h, getD_at h2]
  · rfl
theorem way_level {l : List Sup} {d : List Dr} {a b r : Rl} {ws : List Wr} (h : RWay l d a b ws) (hr : ws.foldl applyR a = r) {i : Nat} (hi : i < l.length) {v : Int} (hv : 0 ≤ v ∧ v < (l[i]).lv.length) (hg : GoodR l d a b ⟨r.on, r.lev.set i v⟩) :
    RWay l d a b (ws ++ extL r i v) ∧ (ws ++ extL r i v).foldl applyR a = ⟨r.on, r.lev.set i v⟩ := by
  unfold extL
  split
  · rename_i e
    rw [List.append_nil, set_same e]
    exact ⟨h, hr⟩
  · have he : applyR r ⟨2, i, v⟩ = ⟨r.on, r.lev.set i v⟩ := by simp [applyR]
    refine ⟨h.snoc ⟨⟨by simp, by simpa using hi⟩, .inl ⟨rfl, hv.1, ?_⟩⟩ ?_, ?_⟩
    · simp only [Int.toNat_natCast, getD_at hi]; exact hv.2
    · rw [hr, he]; exact hg
    · rw [List.foldl_append, hr]; exact he
theorem way_supply {l : List Sup} {d : List Dr} {a b r : Rl} {ws : List Wr} (h : RWay l d a b ws) (hr : ws.foldl applyR a = r) {i : Nat} (hi : i < l.length) {v : Bool} (hg : GoodR l d a b ⟨r.on.set i v, r.lev⟩) :
    RWay l d a b (ws ++ extS r i v) ∧ (ws ++ extS r i v).foldl applyR a = ⟨r.on.set i v, r.lev⟩ := by
  unfold extS
  split
  · rename_i e
    rw [List.append_nil, set_same e]
    exact ⟨h, hr⟩
  · have he : applyR r ⟨3, i, if v then 1 else 0⟩ = ⟨r.on.set i v, r.lev⟩ := by cases v <;> simp [applyR]
    refine ⟨h.snoc ⟨⟨by simp, by simpa using hi⟩, .inr ⟨rfl, ?_⟩⟩ ?_, ?_⟩
    · cases v <;> simp
    · rw [hr, he]; exact hg
    · rw [List.foldl_append, hr]; exact he
/-- On the way up. -/
def upR (a b : Rl) (c : Nat) : Rl := ⟨(List.range b.on.length).map fun i => if i < c then onA (joinR a b) i else onA a i, (List.range b.lev.length).map fun i => if i < c ∧ onA (joinR a b) i = true then lvA (joinR a b) i else lvA a i⟩
/-- On the way down. -/
def dnR (a b : Rl) (c : Nat) : Rl := ⟨(List.range b.on.length).map fun i => if i < c then onA (joinR a b) i else onA b i, (List.range b.lev.length).map fun i => if i < c then (if onA (joinR a b) i = true then lvA (joinR a b) i else lvA a i) else lvA b i⟩
theorem upR_on {a b : Rl} {c i : Nat} (h : i < b.on.length) : onA (upR a b c) i = if i < c then onA (joinR a b) i else onA a i := by
  rw [onA, upR]; simp only; rw [getD_at (by simpa using h)]; simp
theorem upR_lv {a b : Rl} {c i : Nat} (h : i < b.lev.length) : lvA (upR a b c) i = if i < c ∧ onA (joinR a b) i = true then lvA (joinR a b) i else lvA a i := by
  rw [lvA, upR]; simp only; rw [getD_at (by simpa using h)]; simp
theorem dnR_on {a b : Rl} {c i : Nat} (h : i < b.on.length) : onA (dnR a b c) i = if i < c then onA (joinR a b) i else onA b i := by
  rw [onA, dnR]; simp only; rw [getD_at (by simpa using h)]; simp
theorem dnR_lv {a b : Rl} {c i : Nat} (h : i < b.lev.length) : lvA (dnR a b c) i = if i < c then (if onA (joinR a b) i = true then lvA (joinR a b) i else lvA a i) else lvA b i := by
  rw [lvA, dnR]; simp only; rw [getD_at (by simpa using h)]; simp
theorem Rl.ext2 {a b : Rl} (h1 : a.on.length = b.on.length) (h2 : a.lev.length = b.lev.length) (h3 : ∀ i, i < b.on.length → onA a i = onA b i) (h4 : ∀ i, i < b.lev.length → lvA a i = lvA b i) : a = b := by
  obtain ⟨a1, a2⟩ := a
  obtain ⟨b1, b2⟩ := b
  congr 1
  · refine List.ext_getElem h1 fun i k1 k2 => ?_
    have := h3 i k2
    unfold onA at this
    rwa [getD_at k1, getD_at k2] at this
  · refine List.ext_getElem h2 fun i k1 k2 => ?_
    have := h4 i k2
    unfold lvA at this
    rwa [getD_at k1, getD_at k2] at this
theorem on_set {r : Rl} {i j : Nat} {v : Bool} : onA ⟨r.on.set i v, r.lev⟩ j = if i = j ∧ j < r.on.length then v else onA r j := getD_setB _ _ _ _
theorem lv_set {r : Rl} {i j : Nat} {v : Int} : lvA ⟨r.on, r.lev.set i v⟩ j = if i = j ∧ j < r.lev.length then v else lvA r j := getD_set _ _ _ _
section
variable {l : List Sup} {d : List Dr} {a b : Rl}
theorem jon_ (hb : Meet l b d) {i : Nat} (hi : i < l.length) : onA (joinR a b) i = (onA a i || onA b i) := on_join (by rw [hb.rv.1]; exact hi)
theorem jlv_rng (hl : AllS l) (ha : Meet l a d) (hb : Meet l b d) {i : Nat} (hi : i < l.length) : 0 ≤ lvA (joinR a b) i ∧ lvA (joinR a b) i < (l[i]).lv.length := (rv_join ha.rv hb.rv).at_ hi
theorem len_upR (hb : Meet l b d) (c : Nat) : (upR a b c).on.length = l.length ∧ (upR a b c).lev.length = l.length := by simp [upR, hb.rv.1, hb.rv.2.1]
theorem len_dnR (hb : Meet l b d) (c : Nat) : (dnR a b c).on.length = l.length ∧ (dnR a b c).lev.length = l.length := by simp [dnR, hb.rv.1, hb.rv.2.1]
theorem upR_zero (ha : Meet l a d) (hb : Meet l b d) : upR a b 0 = a := by
  have e1 := len_upR (a := a) hb 0
  refine Rl.ext2 (by rw [e1.1, ha.rv.1]) (by rw [e1.2, ha.rv.2.1]) (fun i hi => ?_) fun i hi => ?_
  · rw [upR_on (by rw [hb.rv.1]; rw [ha.rv.1] at hi; exact hi), if_neg (by omega)]
  · rw [upR_lv (by rw [hb.rv.2.1]; rw [ha.rv.2.1] at hi; exact hi), if_neg (by omega)]
theorem upR_all (ha : Meet l a d) (hb : Meet l b d) : upR a b l.length = dnR a b l.length := by
  have e1 := len_upR (a := a) hb l.length
  have e2 := len_dnR (a := a) hb l.length
  refine Rl.ext2 (by rw [e1.1, e2.1]) (by rw [e1.2, e2.2]) (fun i hi => ?_) fun i hi => ?_
  · rw [e2.1] at hi
    rw [upR_on (by rw [hb.rv.1]; exact hi), dnR_on (by rw [hb.rv.1]; exact hi), if_pos hi, if_pos hi]
  · rw [e2.2] at hi
    rw [upR_lv (by rw [hb.rv.2.1]; exact hi), dnR_lv (by rw [hb.rv.2.1]; exact hi), if_pos hi]
    simp [hi]
theorem dnR_zero (hb : Meet l b d) : dnR a b 0 = b := by
  have e1 := len_dnR (a := a) hb 0
  refine Rl.ext2 (by rw [e1.1, hb.rv.1]) (by rw [e1.2, hb.rv.2.1]) (fun i hi => ?_) fun i hi => ?_
  · rw [dnR_on hi, if_neg (by omega)]
  · rw [dnR_lv hi, if_neg (by omega)]
theorem up_good (hl : AllS l) (ha : Meet l a d) (hb : Meet l b d) {r : Rl} (c : Nat) (e1 : r.on.length = l.length) (e2 : r.lev.length = l.length)
    (hon : ∀ i, i < l.length → onA r i = onA (upR a b c) i) (hlv : ∀ i, i < l.length → lvA r i = lvA (upR a b c) i ∨ (i = c ∧ onA (joinR a b) c = true ∧ lvA r c = lvA (joinR a b) c)) : GoodR l d a b r := by
  have b1 := hb.rv.1
  have b2 := hb.rv.2.1
  have hlv' : ∀ i, i < l.length → i ≠ c → lvA r i = if i < c ∧ onA (joinR a b) i = true then lvA (joinR a b) i else lvA a i := fun i hi hne => by
    rcases hlv i hi with h | ⟨h, _⟩
    · rw [h, upR_lv (by omega)]
    · exact absurd h hne
  refine up_meet hl ha hb (.of e1 e2 fun i hi => ?_) c (fun i hi hc ho => ?_) (fun i hi hc ho => ?_) (fun i hi hc => ?_) (fun i hi hc => ?_) fun hc => ?_
  · have h1 := ha.rv.at_ hi
    have h2 := jlv_rng hl ha hb hi
    rcases hlv i hi with h | ⟨rfl, _, h⟩
    · rw [h, upR_lv (by omega)]
      split
      · exact h2
      · exact h1
    · rw [h]; exact h2
  · rw [hon i hi, upR_on (by omega), if_pos hc, hlv' i hi (by omega), if_pos ⟨hc, ho⟩]
    exact ⟨ho, rfl⟩
  · rw [hon i hi, upR_on (by omega), if_pos hc]; exact ho
  · rw [hon i hi, upR_on (by omega), if_neg (by omega)]
  · rw [hlv' i hi (by omega), if_neg (by omega)]
  · rcases hlv c hc with h | ⟨_, h1, h2⟩
    · left
      rw [h, upR_lv (by omega), if_neg (by omega)]
    · exact .inr ⟨h1, h2⟩
theorem down_good (hl : AllS l) (ha : Meet l a d) (hb : Meet l b d) {r : Rl} (c : Nat) (e1 : r.on.length = l.length) (e2 : r.lev.length = l.length)
    (hon : ∀ i, i < l.length → onA r i = onA (dnR a b c) i ∨ (i + 1 = c ∧ onA b i = false ∧ onA r i = false)) (hlv : ∀ i, i < l.length → lvA r i = lvA (dnR a b c) i) : GoodR l d a b r := by
  have b1 := hb.rv.1
  have b2 := hb.rv.2.1
  have key : ∀ i, i < l.length → i < c → onA r i = onA (joinR a b) i → onA r i = onA (joinR a b) i ∧ (onA r i = true → lvA r i = lvA (joinR a b) i) := fun i hi hc h => by
    refine ⟨h, fun ho => ?_⟩
    rw [hlv i hi, dnR_lv (by omega), if_pos hc, if_pos (by rw [← h]; exact ho)]
  refine down_meet hl ha hb (.of e1 e2 fun i hi => ?_) c (fun i hi hc => ?_) (fun i hi hc => ?_) fun i hi hc => ?_
  · have h1 := ha.rv.at_ hi
    have h2 := jlv_rng hl ha hb hi
    have h3 := hb.rv.at_ hi
    rw [hlv i hi, dnR_lv (by omega)]
    split
    · split
      · exact h2
      · exact h1
    · exact h3
  · rcases hon i hi with h | ⟨h, _⟩
    · rw [h, hlv i hi, dnR_on (by omega), dnR_lv (by omega), if_neg (by omega), if_neg (by omega)]
      exact ⟨rfl, rfl⟩
    · omega
  · rcases hon i hi with h | ⟨h, _⟩
    · rw [dnR_on (by omega), if_pos (by omega)] at h
      exact key i hi (by omega) h
    · omega
  · rcases hon i hi with h | ⟨_, h1, h2⟩
    · rw [dnR_on (by omega), if_pos (by omega)] at h
      exact .inl (key i hi (by omega) h)
    · exact .inr ⟨by rw [h1, h2], fun h => by rw [h1] at h; cases h⟩
/-- One supply on the way up. -/
theorem up_step (hl : AllS l) (ha : Meet l a d) (hb : Meet l b d) {c : Nat} (hc : c < l.length) (ho : onA (joinR a b) c = true) {ws : List Wr} (h : RWay l d a b ws) (hr : ws.foldl applyR a = upR a b c) :
    RWay l d a b (ws ++ extL (upR a b c) c (lvA (joinR a b) c) ++ extS ⟨(upR a b c).on, (upR a b c).lev.set c (lvA (joinR a b) c)⟩ c true) ∧ (ws ++ extL (upR a b c) c (lvA (joinR a b) c) ++ extS ⟨(upR a b c).on, (upR a b c).lev.set c (lvA (joinR a b) c)⟩ c true).foldl applyR a = upR a b (c + 1) ∧
    (⟨(upR a b c).on.set c true, (upR a b c).lev.set c (lvA (joinR a b) c)⟩ : Rl) = upR a b (c + 1) := by
  have e1 := len_upR (a := a) hb c
  have e3 := len_upR (a := a) hb (c + 1)
  have b1 := hb.rv.1
  have b2 := hb.rv.2.1
  have heq : (⟨(upR a b c).on.set c true, (upR a b c).lev.set c (lvA (joinR a b) c)⟩ : Rl) = upR a b (c + 1) := by
    refine Rl.ext2 (by simp [e1.1, e3.1]) (by simp [e1.2, e3.2]) (fun i hi => ?_) fun i hi => ?_
    · rw [e3.1] at hi
      have := on_set (r := ⟨(upR a b c).on, (upR a b c).lev.set c (lvA (joinR a b) c)⟩) (i := c) (j := i) (v := true)
      rw [this, upR_on (by omega)]
      show (if c = i ∧ i < (upR a b c).on.length then true else onA (upR a b c) i) = _
      rw [upR_on (by omega)]
      by_cases hci : c = i
      · subst hci; rw [if_pos ⟨rfl, by omega⟩, if_pos (by omega), ho]
      · rw [if_neg (fun h => hci h.1)]
        by_cases hlt : i < c
        · rw [if_pos hlt, if_pos (by omega)]
        · rw [if_neg hlt, if_neg (by omega)]
    · rw [e3.2] at hi
      have := lv_set (r := upR a b c) (i := c) (j := i) (v := lvA (joinR a b) c)
      show lvA ⟨(upR a b c).on, (upR a b c).lev.set c (lvA (joinR a b) c)⟩ i = _
      rw [this, upR_lv (by omega), upR_lv (by omega)]
      by_cases hci : c = i
      · subst hci; rw [if_pos ⟨rfl, by omega⟩, if_pos ⟨by omega, ho⟩]
      · rw [if_neg (fun h => hci h.1)]
        by_cases hlt : i < c
        · simp [hlt, show i < c + 1 by omega]
        · simp [hlt, show ¬ i < c + 1 by omega]
  have g1 : GoodR l d a b ⟨(upR a b c).on, (upR a b c).lev.set c (lvA (joinR a b) c)⟩ := by
    refine up_good hl ha hb c e1.1 (by simp [e1.2]) (fun i hi => rfl) fun i hi => ?_
    rw [lv_set]
    by_cases hci : c = i
    · subst hci; exact .inr ⟨rfl, ho, by rw [lv_set, if_pos ⟨rfl, by omega⟩]⟩
    · left; rw [if_neg (fun h => hci h.1)]
  have g2 : GoodR l d a b (upR a b (c + 1)) := up_good hl ha hb (c + 1) e3.1 e3.2 (fun i hi => rfl) fun i hi => .inl rfl
  obtain ⟨w1, w2⟩ := way_level h hr hc (jlv_rng hl ha hb hc) g1
  obtain ⟨w3, w4⟩ := way_supply (v := true) w1 w2 hc (by rw [← heq] at g2; exact g2)
  exact ⟨w3, w4.trans heq, heq⟩
theorem up_skip (hb : Meet l b d) {c : Nat} (hc : c < l.length) (ho : onA (joinR a b) c = false) : upR a b (c + 1) = upR a b c := by
  have e1 := len_upR (a := a) hb c
  have e3 := len_upR (a := a) hb (c + 1)
  have b1 := hb.rv.1
  have b2 := hb.rv.2.1
  have hao : onA a c = false := by
    have := jon_ (a := a) hb hc
    rw [ho] at this
    cases h : onA a c
    · rfl
    · rw [h] at this; cases this
  refine Rl.ext2 (by rw [e1.1, e3.1]) (by rw [e1.2, e3.2]) (fun i hi => ?_) fun i hi => ?_
  · rw [e1.1] at hi
    rw [upR_on (by omega), upR_on (by omega)]
    by_cases hci : i = c
    · subst hci; rw [if_pos (by omega), if_neg (by omega), ho, hao]
    · by_cases hlt : i < c
      · rw [if_pos hlt, if_pos (by omega)]
      · rw [if_neg hlt, if_neg (by omega)]
  · rw [e1.2] at hi
    rw [upR_lv (by omega), upR_lv (by omega)]
    by_cases hci : i = c
    · subst hci; simp [ho]
    · by_cases hlt : i < c
      · simp [hlt, show i < c + 1 by omega]
      · simp [hlt, show ¬ i < c + 1 by omega]
/-- One supply on the way down. -/
theorem down_step (hl : AllS l) (ha : Meet l a d) (hb : Meet l b d) {c : Nat} (hc : c < l.length) {ws : List Wr} (h : RWay l d a b ws) (hr : ws.foldl applyR a = dnR a b (c + 1)) :
    (onA b c = false → RWay l d a b (ws ++ extS (dnR a b (c + 1)) c false ++ extL ⟨(dnR a b (c + 1)).on.set c false, (dnR a b (c + 1)).lev⟩ c (lvA b c)) ∧ (ws ++ extS (dnR a b (c + 1)) c false ++ extL ⟨(dnR a b (c + 1)).on.set c false, (dnR a b (c + 1)).lev⟩ c (lvA b c)).foldl applyR a = dnR a b c ∧ (⟨(dnR a b (c + 1)).on.set c false, (dnR a b (c + 1)).lev.set c (lvA b c)⟩ : Rl) = dnR a b c) ∧
    (onA b c = true → RWay l d a b (ws ++ extL (dnR a b (c + 1)) c (lvA b c)) ∧ (ws ++ extL (dnR a b (c + 1)) c (lvA b c)).foldl applyR a = dnR a b c ∧ (⟨(dnR a b (c + 1)).on, (dnR a b (c + 1)).lev.set c (lvA b c)⟩ : Rl) = dnR a b c) := by
  have e1 := len_dnR (a := a) hb c
  have e3 := len_dnR (a := a) hb (c + 1)
  have b1 := hb.rv.1
  have b2 := hb.rv.2.1
  have hlvs : ∀ i, i < l.length → (if c = i ∧ i < (dnR a b (c + 1)).lev.length then lvA b c else lvA (dnR a b (c + 1)) i) = lvA (dnR a b c) i := fun i hi => by
    rw [dnR_lv (by omega), dnR_lv (by omega)]
    by_cases hci : c = i
    · subst hci; rw [if_pos ⟨rfl, by omega⟩, if_neg (by omega)]
    · rw [if_neg (fun h => hci h.1)]
      by_cases hlt : i < c
      · rw [if_pos (by omega), if_pos hlt]
      · rw [if_neg (by omega), if_neg hlt]
  have g2 : GoodR l d a b (dnR a b c) := down_good hl ha hb c e1.1 e1.2 (fun i hi => .inl rfl) fun i hi => rfl
  constructor
  · intro ho
    have heq : (⟨(dnR a b (c + 1)).on.set c false, (dnR a b (c + 1)).lev.set c (lvA b c)⟩ : Rl) = dnR a b c := by
      refine Rl.ext2 (by simp [e1.1, e3.1]) (by simp [e1.2, e3.2]) (fun i hi => ?_) fun i hi => ?_
      · rw [e1.1] at hi
        have := on_set (r := ⟨(dnR a b (c + 1)).on, (dnR a b (c + 1)).lev.set c (lvA b c)⟩) (i := c) (j := i) (v := false)
        rw [this]
        show (if c = i ∧ i < (dnR a b (c + 1)).on.length then false else onA (dnR a b (c + 1)) i) = _
        rw [dnR_on (by omega), dnR_on (by omega)]
        by_cases hci : c = i
        · subst hci; rw [if_pos ⟨rfl, by omega⟩, if_neg (by omega), ho]
        · rw [if_neg (fun h => hci h.1)]
          by_cases hlt : i < c
          · rw [if_pos (by omega), if_pos hlt]
          · rw [if_neg (by omega), if_neg hlt]
      · rw [e1.2] at hi
        have := lv_set (r := ⟨(dnR a b (c + 1)).on.set c false, (dnR a b (c + 1)).lev⟩) (i := c) (j := i) (v := lvA b c)
        rw [this]
        exact hlvs i hi
    have g1 : GoodR l d a b ⟨(dnR a b (c + 1)).on.set c false, (dnR a b (c + 1)).lev⟩ := by
      refine down_good hl ha hb (c + 1) (by simp [e3.1]) e3.2 (fun i hi => ?_) fun i hi => rfl
      rw [on_set]
      by_cases hci : c = i
      · subst hci; exact .inr ⟨rfl, ho, by rw [if_pos ⟨rfl, by omega⟩]⟩
      · left; rw [if_neg (fun h => hci h.1)]
    obtain ⟨w1, w2⟩ := way_supply (v := false) h hr hc g1
    obtain ⟨w3, w4⟩ := way_level w1 w2 hc (hb.rv.at_ hc) (by rw [← heq] at g2; exact g2)
    exact ⟨w3, w4.trans heq, heq⟩
  · intro ho
    have heq : (⟨(dnR a b (c + 1)).on, (dnR a b (c + 1)).lev.set c (lvA b c)⟩ : Rl) = dnR a b c := by
      refine Rl.ext2 (by rw [e1.1]; exact e3.1) (by simp [e1.2, e3.2]) (fun i hi => ?_) fun i hi => ?_
      · rw [e1.1] at hi
        show onA (dnR a b (c + 1)) i = _
        rw [dnR_on (by omega), dnR_on (by omega)]
        by_cases hci : i = c
        · subst hci
          rw [if_pos (by omega), if_neg (by omega), jon_ hb hc, ho, Bool.or_true]
        · by_cases hlt : i < c
          · rw [if_pos (by omega), if_pos hlt]
          · rw [if_neg (by omega), if_neg hlt]
      · rw [e1.2] at hi
        rw [lv_set]
        exact hlvs i hi
    obtain ⟨w3, w4⟩ := way_level h hr hc (hb.rv.at_ hc) (by rw [← heq] at g2; exact g2)
    exact ⟨w3, w4.trans heq, heq⟩
theorem way_start (hl : AllS l) (ha : Meet l a d) (hb : Meet l b d) : RWay l d a b [] := by
  refine Way.nil ?_
  have := up_good hl ha hb 0 (r := a) ha.rv.1 ha.rv.2.1 (fun i hi => by rw [upR_zero ha hb]) fun i hi => .inl (by rw [upR_zero ha hb])
  exact this
end
open Go.Abs
theorem gWrpv {P : Prop} (h : P := by
  (first | ((first | apply AppA.snoc (f := Wr.pv) (a := _) rfl | apply AppA.one (f := Wr.pv) (a := _) rfl | (apply AppA.snoc (f := Wr.pv) (a := ⟨_, _, _⟩); dsimp only [Wr.pv]; exact rfl) | (apply AppA.one (f := Wr.pv) (a := ⟨_, _, _⟩); dsimp only [Wr.pv]; exact rfl)); exact ar_) | apply IsL.set (f := Wr.pv) (a := _) rfl | apply IsL.rep (f := Wr.pv) (a := _) rfl | (apply IsL.set (f := Wr.pv) (a := ⟨_, _, _⟩); dsimp only [Wr.pv]; exact rfl) | (apply IsL.rep (f := Wr.pv) (a := ⟨_, _, _⟩); dsimp only [Wr.pv]; exact rfl) | apply IsL.lit (f := Wr.pv) [] rfl | apply IsL.lit (f := Wr.pv) [_] rfl | apply IsL.lit (f := Wr.pv) [_, _] rfl | apply IsL.lit (f := Wr.pv) [_, _, _] rfl | apply IsL.lit (f := Wr.pv) [] rfl | apply IsL.lit (f := Wr.pv) [⟨_, _, _⟩] rfl | apply IsL.lit (f := Wr.pv) [⟨_, _, _⟩, ⟨_, _, _⟩] rfl | apply IsL.lit (f := Wr.pv) [⟨_, _, _⟩, ⟨_, _, _⟩, ⟨_, _, _⟩] rfl) <;> (solve_by_elim (newGoals := .nonDependentOnly) (symm := false) (exfalso := false) (transparency := .reducible) only [rfl, park_])) : P := h
set_option maxRecDepth 100000
/-- The writer: rails as they are, and the writes so far. -/
def wH (c1 c2 c3 : Bool) (r : Rl) (ws : List Wr) : AH := [some (.cells [.buf 1, .buf 2, .buf 3]), some (AO.buf 4 c1 (r.on.map pB)), some (AO.buf 3 c2 (r.lev.map pI)), some (AO.buf 124 c3 (ws.map Wr.pv))]
/-- Behind a write: the list of writes may lie elsewhere. -/
def wP (c1 c2 c3 : Bool) (r : Rl) (ws : List Wr) : AH := [some (.cells [.buf 1, .buf 2, .buf 4]), some (AO.buf 4 c1 (r.on.map pB)), some (AO.buf 3 c2 (r.lev.map pI)), none, some (AO.buf 124 c3 (ws.map Wr.pv))]
theorem wlevel_call (c1 c2 c3 : Bool) (r : Rl) (ws : List Wr) (i : Nat) (v : Int) (hi : i < r.lev.length) (hw : ws.length ≤ 1000) : ACall Tryz.prog 99 [.ptr 0 0, .p (pI i), .p (pI v)] (wH c1 c2 c3 r ws) fun r' H => r' = .tup [] ∧ (H = wH c1 c2 c3 ⟨r.on, r.lev.set i v⟩ (ws ++ extL r i v) ∨ H = wP c1 c2 false ⟨r.on, r.lev.set i v⟩ (ws ++ extL r i v)) := by
  refine acall_enter Tryz.func99 rfl rfl tabOK rfl ?_
  have e : lvA r i = r.lev[i] := getD_at hi
  (conv => whnf); repeat' ((first | apply CondA.plain | refine' gC | refine' gpI | refine' gpB | refine' gSuppv | refine' gRqpv | refine' gWrpv | refine' gE | (apply DrawA.quiet (by kernel_rfl) (by kernel_rfl); (conv => whnf); fail_if_success (show False))) <;> (conv => whnf))
  · have hne : ¬ lvA r i = v := by rw [e]; assumption
    (refine RetK.mk _ _ _ [5] (.tup []) (wP c1 c2 false ⟨r.on, r.lev.set i v⟩ (ws ++ [⟨2, i, v⟩])) rfl rfl ?_ rfl rfl ?_ <;> (repeat' (first | exact trivial | refine And.intro ?_ ?_ | with_reducible rfl | (refine pIEq ?_; exact ar_) | (refine bufMap ?_) | (refine bufNil ?_) | (refine bufEq ?_) | rfl)))
    refine .inr ?_
    rw [extL, if_neg hne]
  · have he : lvA r i = v := by rw [e]; assumption
    (refine' RetK.auto (.tup []) (wH c1 c2 c3 r ws) rfl rfl rfl rfl _ _ _ <;> repeat' (first | exact trivial | refine And.intro ?_ ?_ | with_reducible rfl | (refine pIEq ?_; exact ar_) | (refine bufMap ?_) | (refine bufNil ?_) | (refine bufEq ?_) | rfl))
    refine .inl ?_
    rw [extL, if_pos he, List.append_nil, set_same he]
theorem wsupply_call (c1 c2 c3 : Bool) (r : Rl) (ws : List Wr) (i : Nat) (v : Bool) (hi : i < r.on.length) (hw : ws.length ≤ 1000) : ACall Tryz.prog 100 [.ptr 0 0, .p (pI i), .p (pB v)] (wH c1 c2 c3 r ws) fun r' H => r' = .tup [] ∧ (H = wH c1 c2 c3 ⟨r.on.set i v, r.lev⟩ (ws ++ extS r i v) ∨ H = wP c1 c2 false ⟨r.on.set i v, r.lev⟩ (ws ++ extS r i v)) := by
  refine acall_enter Tryz.func100 rfl rfl tabOK rfl ?_
  have e : onA r i = r.on[i] := getD_at hi
  cases v
  · (conv => whnf); repeat' ((first | apply CondA.plain | refine' gC | refine' gpI | refine' gpB | refine' gSuppv | refine' gRqpv | refine' gWrpv | refine' gE | (apply DrawA.quiet (by kernel_rfl) (by kernel_rfl); (conv => whnf); fail_if_success (show False))) <;> (conv => whnf))
    · have he : onA r i = false := by rw [e]; assumption
      (refine' RetK.auto (.tup []) (wH c1 c2 c3 r ws) rfl rfl rfl rfl _ _ _ <;> repeat' (first | exact trivial | refine And.intro ?_ ?_ | with_reducible rfl | (refine pIEq ?_; exact ar_) | (refine bufMap ?_) | (refine bufNil ?_) | (refine bufEq ?_) | rfl))
      refine .inl ?_
      rw [extS, if_pos he, List.append_nil, set_same he]
    · have hne : ¬ onA r i = false := by rw [e]; assumption
      (refine RetK.mk _ _ _ [5] (.tup []) (wP c1 c2 false ⟨r.on.set i false, r.lev⟩ (ws ++ [⟨3, i, 0⟩])) rfl rfl ?_ rfl rfl ?_ <;> (repeat' (first | exact trivial | refine And.intro ?_ ?_ | with_reducible rfl | (refine pIEq ?_; exact ar_) | (refine bufMap ?_) | (refine bufNil ?_) | (refine bufEq ?_) | rfl)))
      refine .inr ?_
      rw [extS, if_neg hne]
      rfl
  · (conv => whnf); repeat' ((first | apply CondA.plain | refine' gC | refine' gpI | refine' gpB | refine' gSuppv | refine' gRqpv | refine' gWrpv | refine' gE | (apply DrawA.quiet (by kernel_rfl) (by kernel_rfl); (conv => whnf); fail_if_success (show False))) <;> (conv => whnf))
    · have he : onA r i = true := by rw [e]; assumption
      (refine' RetK.auto (.tup []) (wH c1 c2 c3 r ws) rfl rfl rfl rfl _ _ _ <;> repeat' (first | exact trivial | refine And.intro ?_ ?_ | with_reducible rfl | (refine pIEq ?_; exact ar_) | (refine bufMap ?_) | (refine bufNil ?_) | (refine bufEq ?_) | rfl))
      refine .inl ?_
      rw [extS, if_pos he, List.append_nil, set_same he]
    · have hne : ¬ onA r i = true := by rw [e]; assumption
      (refine RetK.mk _ _ _ [5] (.tup []) (wP c1 c2 false ⟨r.on.set i true, r.lev⟩ (ws ++ [⟨3, i, 1⟩])) rfl rfl ?_ rfl rfl ?_ <;> (repeat' (first | exact trivial | refine And.intro ?_ ?_ | with_reducible rfl | (refine pIEq ?_; exact ar_) | (refine bufMap ?_) | (refine bufNil ?_) | (refine bufEq ?_) | rfl)))
      refine .inr ?_
      rw [extS, if_neg hne]
      rfl
theorem len_extL (r : Rl) (i : Nat) (v : Int) : (extL r i v).length ≤ 1 := by
  unfold extL
  split <;> simp
theorem len_extS (r : Rl) (i : Nat) (v : Bool) : (extS r i v).length ≤ 1 := by
  unfold extS
  split <;> simp
set_option maxHeartbeats 2000000 in
theorem Plan_call (nl n2 : Bool) (l : List Sup) (d : List Dr) (a b : Rq) (hl : AllS l) (ha : Meet l a.r d) (hb : Meet l b.r d) : ACall Tryz.prog 49 [.p (.list nl (l.map Sup.pv)), .p a.pv, .p b.pv, .p (.list n2 (d.map Dr.pv))] [] fun r' H => ∃ (ws : List Wr) (c : Bool), r' = .tup [.p (.list c (ws.map Wr.pv)), .p (pI 0)] ∧ H = [] ∧ RWay l d a.r b.r ws ∧ ws.foldl applyR a.r = b.r ∧ ws.length ≤ 64 := by
  refine acall_enter Tryz.func49 rfl rfl tabOK rfl ?_
  (conv => whnf); repeat' ((first | apply CondA.plain | refine' gC | refine' gpI | refine' gpB | refine' gSuppv | refine' gRqpv | refine' gWrpv | refine' gE | ((apply IsL.lit (f := Rq.pv) [a, b] rfl))) <;> (conv => whnf))
  refine CallA.loc [] [2] rfl rfl ((rbegin_call nl false l [a, b]).mono ?_)
  rintro _ _ ⟨e, rfl, rfl, he⟩
  have he0 : e = 0 := he.2 ⟨hl, fun q hq => by simp at hq; rcases hq with rfl | rfl; exact ha.rv; exact hb.rv⟩
  subst he0
  (conv => whnf); repeat' ((first | apply CondA.plain | refine' gC | refine' gpI | refine' gpB | refine' gSuppv | refine' gRqpv | refine' gWrpv | refine' gE | ((refine call_exB (sDraws_call nl n2 l d) ?_; intro b1 hb1)) | ((refine call_exB (sMeets_call nl a.n1 n2 a.n3 l a.r d) ?_; intro b2 hb2)) | ((refine call_exB (sMeets_call nl b.n1 n2 b.n3 l b.r d) ?_; intro b3 hb3))) <;> (conv => whnf))
  · rw [hb1.2 ⟨hl, ha.dv⟩] at h0; cases h0
  · rw [hb2.2 ⟨hl, ha⟩] at h0; cases h0
  · rw [hb3.2 ⟨hl, hb⟩] at h0; cases h0
  refine CallA.loc [] [] rfl rfl ((join_call a b l.length hl.1 ha.rv.1 ha.rv.2.1 hb.rv.1 hb.rv.2.1).mono ?_)
  rintro _ _ ⟨c1, c2, rfl, rfl⟩
  (conv => whnf); repeat' ((first | apply CondA.plain | refine' gC | refine' gpI | refine' gpB | refine' gSuppv | refine' gRqpv | refine' gWrpv | refine' gE | (apply DrawA.quiet (by kernel_rfl) (by kernel_rfl); (conv => whnf); fail_if_success (show False))) <;> (conv => whnf))
  refine CallA.loc [] [] rfl rfl ((copied_call a.n1 a.n3 a.r (by have := ha.rv.1; have := hl.1; omega) (by have := ha.rv.2.1; have := hl.1; omega)).mono ?_)
  rintro _ _ ⟨c4, c5, rfl, rfl⟩
  (conv => whnf); repeat' ((first | apply CondA.plain | refine' gC | refine' gpI | refine' gpB | refine' gSuppv | refine' gRqpv | refine' gWrpv | refine' gE | (apply DrawA.quiet (by kernel_rfl) (by kernel_rfl); (conv => whnf); fail_if_success (show False))) <;> (conv => whnf))
  have hJ1 : (joinR a.r b.r).on.length = l.length := (rv_join ha.rv hb.rv).1
  have hJ2 : (joinR a.r b.r).lev.length = l.length := (rv_join ha.rv hb.rv).2.1
  have h16 := hl.1
  refine' loop_rule (fun (⟨c, ws, c3⟩ : Nat × List Wr × Bool) => ⟨[(0, .p (.list nl (l.map Sup.pv))), (6, .rptr [.list b.n1 (b.r.on.map pB), .list b.n3 (b.r.lev.map pI)]), (11, .rptr [.list c1 ((joinR a.r b.r).on.map pB), .list c2 ((joinR a.r b.r).lev.map pI)]), (12, .ptr 0 0), (49, .p (pI l.length)), (50, .p (pI c))], wH c4 c5 c3 (upR a.r b.r c) ws⟩) (fun (⟨c, ws, c3⟩ : Nat × List Wr × Bool) => c ≤ l.length ∧ RWay l d a.r b.r ws ∧ ws.foldl applyR a.r = upR a.r b.r c ∧ ws.length ≤ 2 * c) (fun (⟨c, ws, c3⟩ : Nat × List Wr × Bool) => l.length - c) (0, [], _) _ _ _; rotate_right; rotate_right; rotate_right; (refine SubA.thawed _ [3, 4] [] ?_; refine SubA.cells _ [5] ?_; refine SubA.cell _ 8 2 124 _ _ _ _ _ rfl rfl rfl ?_; refine SubA.ret _ 6 1 [.list b.n1 (b.r.on.map pB), .list b.n3 (b.r.lev.map pI)] rfl rfl ?_; refine SubA.ret _ 11 5 [.list c1 ((joinR a.r b.r).on.map pB), .list c2 ((joinR a.r b.r).lev.map pI)] rfl rfl ?_; refine SubA.auto rfl rfl rfl rfl ?_ ?_ <;> repeat' (first | exact trivial | refine And.intro ?_ ?_ | with_reducible rfl | (refine pIEq ?_; exact ar_) | (refine bufMap ?_) | (refine bufNil ?_) | (refine bufEq ?_) | rfl))
  · rw [upR_zero ha hb]
  · rw [upR_zero ha hb]
  · exact ⟨by omega, way_start hl ha hb, (upR_zero ha hb).symm, by simp⟩
  · rintro ⟨c, ws, c3⟩ ⟨hc, hway, hrun, hlen⟩
    try simp only at hc hway hrun hlen
    clear he hb1 hb2 hb3
    rcases Nat.lt_or_ge c l.length with hcl | hcl
    · have hu := len_upR (a := a.r) hb c
      have e1 : onA (joinR a.r b.r) c = (joinR a.r b.r).on[c]'(by omega) := getD_at _
      have e2 : lvA (joinR a.r b.r) c = (joinR a.r b.r).lev[c]'(by omega) := getD_at _
      cases hon : onA (joinR a.r b.r) c
      · have hsk := up_skip hb hcl hon
        rw [hon] at e1
        replace e1 := e1.symm
        (conv => whnf); repeat' ((first | apply CondA.plain | refine' gC | refine' gpI | refine' gpB | refine' gSuppv | refine' gRqpv | refine' gWrpv | refine' gE | (apply DrawA.quiet (by kernel_rfl) (by kernel_rfl); (conv => whnf); fail_if_success (show False))) <;> (conv => whnf))
        (refine' ⟨(c + 1, ws, c3), _, _, _⟩; rotate_right; (refine SubA.auto rfl rfl rfl rfl ?_ ?_ <;> repeat' (first | exact trivial | refine And.intro ?_ ?_ | with_reducible rfl | (refine pIEq ?_; exact ar_) | (refine bufMap ?_) | (refine bufNil ?_) | (refine bufEq ?_) | rfl)); rotate_right; exact ar2_)
        · rw [hsk]
        · rw [hsk]
        · exact ⟨by omega, hway, by rw [hsk]; exact hrun, by omega⟩
      · have hst := up_step hl ha hb hcl hon hway hrun
        rw [hon] at e1
        replace e1 := e1.symm
        rw [e2] at hst
        (conv => whnf); repeat' ((first | apply CondA.plain | refine' gC | refine' gpI | refine' gpB | refine' gSuppv | refine' gRqpv | refine' gWrpv | refine' gE | (apply DrawA.quiet (by kernel_rfl) (by kernel_rfl); (conv => whnf); fail_if_success (show False))) <;> (conv => whnf))
        have hl1 := len_extL (upR a.r b.r c) c ((joinR a.r b.r).lev[c]'(by omega))
        have hl2 := len_extS ⟨(upR a.r b.r c).on, (upR a.r b.r c).lev.set c ((joinR a.r b.r).lev[c]'(by omega))⟩ c true
        refine CallA.loc [0, 1, 2, 3] [] rfl rfl ((wlevel_call c4 c5 c3 (upR a.r b.r c) ws c _ (by omega) (by omega)).mono ?_)
        rintro _ _ ⟨rfl, rfl | rfl⟩
        · (conv => whnf); repeat' ((first | apply CondA.plain | refine' gC | refine' gpI | refine' gpB | refine' gSuppv | refine' gRqpv | refine' gWrpv | refine' gE | (apply DrawA.quiet (by kernel_rfl) (by kernel_rfl); (conv => whnf); fail_if_success (show False))) <;> (conv => whnf))
          refine CallA.loc [0, 1, 2, 3] [] rfl rfl ((wsupply_call c4 c5 c3 ⟨(upR a.r b.r c).on, (upR a.r b.r c).lev.set c ((joinR a.r b.r).lev[c]'(by omega))⟩ (ws ++ extL (upR a.r b.r c) c ((joinR a.r b.r).lev[c]'(by omega))) c true (by simp only; omega) (by rw [List.length_append]; omega)).mono ?_)
          rintro _ _ ⟨rfl, rfl | rfl⟩
          · (conv => whnf); repeat' ((first | apply CondA.plain | refine' gC | refine' gpI | refine' gpB | refine' gSuppv | refine' gRqpv | refine' gWrpv | refine' gE | (apply DrawA.quiet (by kernel_rfl) (by kernel_rfl); (conv => whnf); fail_if_success (show False))) <;> (conv => whnf))
            (refine' ⟨(c + 1, (ws ++ extL (upR a.r b.r c) c ((joinR a.r b.r).lev[c]'(by omega))) ++ extS ⟨(upR a.r b.r c).on, (upR a.r b.r c).lev.set c ((joinR a.r b.r).lev[c]'(by omega))⟩ c true, c3), _, _, _⟩; rotate_right; (refine SubA.auto rfl rfl rfl rfl ?_ ?_ <;> repeat' (first | exact trivial | refine And.intro ?_ ?_ | with_reducible rfl | (refine pIEq ?_; exact ar_) | (refine bufMap ?_) | (refine bufNil ?_) | (refine bufEq ?_) | rfl)); rotate_right; exact ar2_)
            · rw [← hst.2.2]
            · rw [← hst.2.2]
            · exact ⟨by omega, hst.1, hst.2.1, by rw [List.length_append, List.length_append]; omega⟩
          · (conv => whnf); repeat' ((first | apply CondA.plain | refine' gC | refine' gpI | refine' gpB | refine' gSuppv | refine' gRqpv | refine' gWrpv | refine' gE | (apply DrawA.quiet (by kernel_rfl) (by kernel_rfl); (conv => whnf); fail_if_success (show False))) <;> (conv => whnf))
            (refine' ⟨(c + 1, (ws ++ extL (upR a.r b.r c) c ((joinR a.r b.r).lev[c]'(by omega))) ++ extS ⟨(upR a.r b.r c).on, (upR a.r b.r c).lev.set c ((joinR a.r b.r).lev[c]'(by omega))⟩ c true, false), _, _, _⟩; rotate_right; (refine SubA.auto rfl rfl rfl rfl ?_ ?_ <;> repeat' (first | exact trivial | refine And.intro ?_ ?_ | with_reducible rfl | (refine pIEq ?_; exact ar_) | (refine bufMap ?_) | (refine bufNil ?_) | (refine bufEq ?_) | rfl)); rotate_right; exact ar2_)
            · rw [← hst.2.2]
            · rw [← hst.2.2]
            · exact ⟨by omega, hst.1, hst.2.1, by rw [List.length_append, List.length_append]; omega⟩
        · (conv => whnf); repeat' ((first | apply CondA.plain | refine' gC | refine' gpI | refine' gpB | refine' gSuppv | refine' gRqpv | refine' gWrpv | refine' gE | (apply DrawA.quiet (by kernel_rfl) (by kernel_rfl); (conv => whnf); fail_if_success (show False))) <;> (conv => whnf))
          refine CallA.loc [0, 1, 2, 4] [] rfl rfl ((wsupply_call c4 c5 false ⟨(upR a.r b.r c).on, (upR a.r b.r c).lev.set c ((joinR a.r b.r).lev[c]'(by omega))⟩ (ws ++ extL (upR a.r b.r c) c ((joinR a.r b.r).lev[c]'(by omega))) c true (by simp only; omega) (by rw [List.length_append]; omega)).mono ?_)
          rintro _ _ ⟨rfl, rfl | rfl⟩
          · (conv => whnf); repeat' ((first | apply CondA.plain | refine' gC | refine' gpI | refine' gpB | refine' gSuppv | refine' gRqpv | refine' gWrpv | refine' gE | (apply DrawA.quiet (by kernel_rfl) (by kernel_rfl); (conv => whnf); fail_if_success (show False))) <;> (conv => whnf))
            (refine' ⟨(c + 1, (ws ++ extL (upR a.r b.r c) c ((joinR a.r b.r).lev[c]'(by omega))) ++ extS ⟨(upR a.r b.r c).on, (upR a.r b.r c).lev.set c ((joinR a.r b.r).lev[c]'(by omega))⟩ c true, false), _, _, _⟩; rotate_right; (refine SubA.auto rfl rfl rfl rfl ?_ ?_ <;> repeat' (first | exact trivial | refine And.intro ?_ ?_ | with_reducible rfl | (refine pIEq ?_; exact ar_) | (refine bufMap ?_) | (refine bufNil ?_) | (refine bufEq ?_) | rfl)); rotate_right; exact ar2_)
            · rw [← hst.2.2]
            · rw [← hst.2.2]
            · exact ⟨by omega, hst.1, hst.2.1, by rw [List.length_append, List.length_append]; omega⟩
          · (conv => whnf); repeat' ((first | apply CondA.plain | refine' gC | refine' gpI | refine' gpB | refine' gSuppv | refine' gRqpv | refine' gWrpv | refine' gE | (apply DrawA.quiet (by kernel_rfl) (by kernel_rfl); (conv => whnf); fail_if_success (show False))) <;> (conv => whnf))
            (refine' ⟨(c + 1, (ws ++ extL (upR a.r b.r c) c ((joinR a.r b.r).lev[c]'(by omega))) ++ extS ⟨(upR a.r b.r c).on, (upR a.r b.r c).lev.set c ((joinR a.r b.r).lev[c]'(by omega))⟩ c true, false), _, _, _⟩; rotate_right; (refine SubA.auto rfl rfl rfl rfl ?_ ?_ <;> repeat' (first | exact trivial | refine And.intro ?_ ?_ | with_reducible rfl | (refine pIEq ?_; exact ar_) | (refine bufMap ?_) | (refine bufNil ?_) | (refine bufEq ?_) | rfl)); rotate_right; exact ar2_)
            · rw [← hst.2.2]
            · rw [← hst.2.2]
            · exact ⟨by omega, hst.1, hst.2.1, by rw [List.length_append, List.length_append]; omega⟩
    · have hcn : c = l.length := by omega
      subst hcn
      replace hrun := hrun.trans (upR_all ha hb)
      (conv => whnf); repeat' ((first | apply CondA.plain | refine' gC | refine' gpI | refine' gpB | refine' gSuppv | refine' gRqpv | refine' gWrpv | refine' gE | (apply DrawA.quiet (by kernel_rfl) (by kernel_rfl); (conv => whnf); fail_if_success (show False))) <;> (conv => whnf))
      refine loop_rule (fun (⟨c, ws, c3⟩ : Nat × List Wr × Bool) => ⟨[(6, .rptr [.list b.n1 (b.r.on.map pB), .list b.n3 (b.r.lev.map pI)]), (12, .ptr 0 0), (14, .p (pI ((c : Int) - 1)))], wH c4 c5 c3 (dnR a.r b.r c) ws⟩) (fun (⟨c, ws, c3⟩ : Nat × List Wr × Bool) => c ≤ l.length ∧ RWay l d a.r b.r ws ∧ ws.foldl applyR a.r = dnR a.r b.r c ∧ ws.length ≤ 2 * l.length + 2 * (l.length - c)) (fun (⟨c, ws, c3⟩ : Nat × List Wr × Bool) => c) (l.length, ws, c3) ?_ ?_ ?_; (refine SubA.auto rfl rfl rfl rfl ?_ ?_ <;> repeat' (first | exact trivial | refine And.intro ?_ ?_ | with_reducible rfl | (refine pIEq ?_; exact ar_) | (refine bufMap ?_) | (refine bufNil ?_) | (refine bufEq ?_) | rfl))
      · rw [upR_all ha hb]
      · rw [upR_all ha hb]
      · exact ⟨by omega, hway, hrun, by omega⟩
      · rintro ⟨c, ws, c3⟩ ⟨hc, hway, hrun, hlen⟩
        try simp only at hc hway hrun hlen
        rcases c with _ | c
        · (conv => whnf); repeat' ((first | apply CondA.plain | refine' gC | refine' gpI | refine' gpB | refine' gSuppv | refine' gRqpv | refine' gWrpv | refine' gE | (apply DrawA.quiet (by kernel_rfl) (by kernel_rfl); (conv => whnf); fail_if_success (show False))) <;> (conv => whnf))
          (refine RetK.frz _ _ _ [3] ?_; refine' RetK.auto (.tup [.p (.list c3 (ws.map Wr.pv)), .p (pI 0)]) ([]) rfl rfl rfl rfl _ _ _ <;> repeat' (first | exact trivial | refine And.intro ?_ ?_ | with_reducible rfl | (refine pIEq ?_; exact ar_) | (refine bufMap ?_) | (refine bufNil ?_) | (refine bufEq ?_) | rfl))
          exact ⟨ws, c3, rfl, rfl, hway, hrun.trans (dnR_zero hb), by omega⟩
        · have hu := len_dnR (a := a.r) hb (c + 1)
          have hb1 := hb.rv.1
          have hb2 := hb.rv.2.1
          have e1 : onA b.r c = b.r.on[c]'(by omega) := getD_at _
          have e2 : lvA b.r c = b.r.lev[c]'(by omega) := getD_at _
          have hz : (((c + 1 : Nat)) : Int) - 1 = (c : Nat) := by omega
          dsimp only
          rw [hz]
          cases hon : onA b.r c
          · have hst := (down_step hl ha hb (by omega) hway hrun).1 hon
            rw [hon] at e1
            replace e1 := e1.symm
            rw [e2] at hst
            have hl1 := len_extL ⟨(dnR a.r b.r (c + 1)).on.set c false, (dnR a.r b.r (c + 1)).lev⟩ c (b.r.lev[c]'(by omega))
            have hl2 := len_extS (dnR a.r b.r (c + 1)) c false
            (conv => whnf); repeat' ((first | apply CondA.plain | refine' gC | refine' gpI | refine' gpB | refine' gSuppv | refine' gRqpv | refine' gWrpv | refine' gE | (apply DrawA.quiet (by kernel_rfl) (by kernel_rfl); (conv => whnf); fail_if_success (show False))) <;> (conv => whnf))
            refine CallA.loc [0, 1, 2, 3] [] rfl rfl ((wsupply_call c4 c5 c3 (dnR a.r b.r (c + 1)) ws c false (by omega) (by omega)).mono ?_)
            rintro _ _ ⟨rfl, rfl | rfl⟩
            · (conv => whnf); repeat' ((first | apply CondA.plain | refine' gC | refine' gpI | refine' gpB | refine' gSuppv | refine' gRqpv | refine' gWrpv | refine' gE | (apply DrawA.quiet (by kernel_rfl) (by kernel_rfl); (conv => whnf); fail_if_success (show False))) <;> (conv => whnf))
              refine CallA.loc [0, 1, 2, 3] [] rfl rfl ((wlevel_call c4 c5 c3 ⟨(dnR a.r b.r (c + 1)).on.set c false, (dnR a.r b.r (c + 1)).lev⟩ (ws ++ extS (dnR a.r b.r (c + 1)) c false) c (b.r.lev[c]'(by omega)) (by simp only [List.length_set]; omega) (by rw [List.length_append]; omega)).mono ?_)
              rintro _ _ ⟨rfl, rfl | rfl⟩
              · (conv => whnf); repeat' ((first | apply CondA.plain | refine' gC | refine' gpI | refine' gpB | refine' gSuppv | refine' gRqpv | refine' gWrpv | refine' gE | (apply DrawA.quiet (by kernel_rfl) (by kernel_rfl); (conv => whnf); fail_if_success (show False))) <;> (conv => whnf))
                (refine' ⟨(c, (ws ++ extS (dnR a.r b.r (c + 1)) c false) ++ extL ⟨(dnR a.r b.r (c + 1)).on.set c false, (dnR a.r b.r (c + 1)).lev⟩ c (b.r.lev[c]'(by omega)), c3), _, _, _⟩; rotate_right; (refine SubA.auto rfl rfl rfl rfl ?_ ?_ <;> repeat' (first | exact trivial | refine And.intro ?_ ?_ | with_reducible rfl | (refine pIEq ?_; exact ar_) | (refine bufMap ?_) | (refine bufNil ?_) | (refine bufEq ?_) | rfl)); rotate_right; exact ar2_)
                · rw [← hst.2.2]
                · rw [← hst.2.2]
                · exact ⟨by omega, hst.1, hst.2.1, by rw [List.length_append, List.length_append]; omega⟩
              · (conv => whnf); repeat' ((first | apply CondA.plain | refine' gC | refine' gpI | refine' gpB | refine' gSuppv | refine' gRqpv | refine' gWrpv | refine' gE | (apply DrawA.quiet (by kernel_rfl) (by kernel_rfl); (conv => whnf); fail_if_success (show False))) <;> (conv => whnf))
                (refine' ⟨(c, (ws ++ extS (dnR a.r b.r (c + 1)) c false) ++ extL ⟨(dnR a.r b.r (c + 1)).on.set c false, (dnR a.r b.r (c + 1)).lev⟩ c (b.r.lev[c]'(by omega)), false), _, _, _⟩; rotate_right; (refine SubA.auto rfl rfl rfl rfl ?_ ?_ <;> repeat' (first | exact trivial | refine And.intro ?_ ?_ | with_reducible rfl | (refine pIEq ?_; exact ar_) | (refine bufMap ?_) | (refine bufNil ?_) | (refine bufEq ?_) | rfl)); rotate_right; exact ar2_)
                · rw [← hst.2.2]
                · rw [← hst.2.2]
                · exact ⟨by omega, hst.1, hst.2.1, by rw [List.length_append, List.length_append]; omega⟩
            · (conv => whnf); repeat' ((first | apply CondA.plain | refine' gC | refine' gpI | refine' gpB | refine' gSuppv | refine' gRqpv | refine' gWrpv | refine' gE | (apply DrawA.quiet (by kernel_rfl) (by kernel_rfl); (conv => whnf); fail_if_success (show False))) <;> (conv => whnf))
              refine CallA.loc [0, 1, 2, 4] [] rfl rfl ((wlevel_call c4 c5 false ⟨(dnR a.r b.r (c + 1)).on.set c false, (dnR a.r b.r (c + 1)).lev⟩ (ws ++ extS (dnR a.r b.r (c + 1)) c false) c (b.r.lev[c]'(by omega)) (by simp only [List.length_set]; omega) (by rw [List.length_append]; omega)).mono ?_)
              rintro _ _ ⟨rfl, rfl | rfl⟩
              · (conv => whnf); repeat' ((first | apply CondA.plain | refine' gC | refine' gpI | refine' gpB | refine' gSuppv | refine' gRqpv | refine' gWrpv | refine' gE | (apply DrawA.quiet (by kernel_rfl) (by kernel_rfl); (conv => whnf); fail_if_success (show False))) <;> (conv => whnf))
                (refine' ⟨(c, (ws ++ extS (dnR a.r b.r (c + 1)) c false) ++ extL ⟨(dnR a.r b.r (c + 1)).on.set c false, (dnR a.r b.r (c + 1)).lev⟩ c (b.r.lev[c]'(by omega)), false), _, _, _⟩; rotate_right; (refine SubA.auto rfl rfl rfl rfl ?_ ?_ <;> repeat' (first | exact trivial | refine And.intro ?_ ?_ | with_reducible rfl | (refine pIEq ?_; exact ar_) | (refine bufMap ?_) | (refine bufNil ?_) | (refine bufEq ?_) | rfl)); rotate_right; exact ar2_)
                · rw [← hst.2.2]
                · rw [← hst.2.2]
                · exact ⟨by omega, hst.1, hst.2.1, by rw [List.length_append, List.length_append]; omega⟩
              · (conv => whnf); repeat' ((first | apply CondA.plain | refine' gC | refine' gpI | refine' gpB | refine' gSuppv | refine' gRqpv | refine' gWrpv | refine' gE | (apply DrawA.quiet (by kernel_rfl) (by kernel_rfl); (conv => whnf); fail_if_success (show False))) <;> (conv => whnf))
                (refine' ⟨(c, (ws ++ extS (dnR a.r b.r (c + 1)) c false) ++ extL ⟨(dnR a.r b.r (c + 1)).on.set c false, (dnR a.r b.r (c + 1)).lev⟩ c (b.r.lev[c]'(by omega)), false), _, _, _⟩; rotate_right; (refine SubA.auto rfl rfl rfl rfl ?_ ?_ <;> repeat' (first | exact trivial | refine And.intro ?_ ?_ | with_reducible rfl | (refine pIEq ?_; exact ar_) | (refine bufMap ?_) | (refine bufNil ?_) | (refine bufEq ?_) | rfl)); rotate_right; exact ar2_)
                · rw [← hst.2.2]
                · rw [← hst.2.2]
                · exact ⟨by omega, hst.1, hst.2.1, by rw [List.length_append, List.length_append]; omega⟩
          · have hst := (down_step hl ha hb (by omega) hway hrun).2 hon
            rw [hon] at e1
            replace e1 := e1.symm
            rw [e2] at hst
            have hl1 := len_extL (dnR a.r b.r (c + 1)) c (b.r.lev[c]'(by omega))
            (conv => whnf); repeat' ((first | apply CondA.plain | refine' gC | refine' gpI | refine' gpB | refine' gSuppv | refine' gRqpv | refine' gWrpv | refine' gE | (apply DrawA.quiet (by kernel_rfl) (by kernel_rfl); (conv => whnf); fail_if_success (show False))) <;> (conv => whnf))
            refine CallA.loc [0, 1, 2, 3] [] rfl rfl ((wlevel_call c4 c5 c3 (dnR a.r b.r (c + 1)) ws c (b.r.lev[c]'(by omega)) (by omega) (by omega)).mono ?_)
            rintro _ _ ⟨rfl, rfl | rfl⟩
            · (conv => whnf); repeat' ((first | apply CondA.plain | refine' gC | refine' gpI | refine' gpB | refine' gSuppv | refine' gRqpv | refine' gWrpv | refine' gE | (apply DrawA.quiet (by kernel_rfl) (by kernel_rfl); (conv => whnf); fail_if_success (show False))) <;> (conv => whnf))
              (refine' ⟨(c, ws ++ extL (dnR a.r b.r (c + 1)) c (b.r.lev[c]'(by omega)), c3), _, _, _⟩; rotate_right; (refine SubA.auto rfl rfl rfl rfl ?_ ?_ <;> repeat' (first | exact trivial | refine And.intro ?_ ?_ | with_reducible rfl | (refine pIEq ?_; exact ar_) | (refine bufMap ?_) | (refine bufNil ?_) | (refine bufEq ?_) | rfl)); rotate_right; exact ar2_)
              · rw [← hst.2.2]
              · rw [← hst.2.2]
              · exact ⟨by omega, hst.1, hst.2.1, by rw [List.length_append]; omega⟩
            · (conv => whnf); repeat' ((first | apply CondA.plain | refine' gC | refine' gpI | refine' gpB | refine' gSuppv | refine' gRqpv | refine' gWrpv | refine' gE | (apply DrawA.quiet (by kernel_rfl) (by kernel_rfl); (conv => whnf); fail_if_success (show False))) <;> (conv => whnf))
              (refine' ⟨(c, ws ++ extL (dnR a.r b.r (c + 1)) c (b.r.lev[c]'(by omega)), false), _, _, _⟩; rotate_right; (refine SubA.auto rfl rfl rfl rfl ?_ ?_ <;> repeat' (first | exact trivial | refine And.intro ?_ ?_ | with_reducible rfl | (refine pIEq ?_; exact ar_) | (refine bufMap ?_) | (refine bufNil ?_) | (refine bufEq ?_) | rfl)); rotate_right; exact ar2_)
              · rw [← hst.2.2]
              · rw [← hst.2.2]
              · exact ⟨by omega, hst.1, hst.2.1, by rw [List.length_append]; omega⟩
open Go.Abs
set_option maxRecDepth 100000
/-- Levels so far, and the next. -/
def LvS (xs : List Int) (v : Int) : Prop := 1 ≤ v ∧ v ≤ 5700 ∧ (∀ x ∈ xs, 1 ≤ x ∧ x ≤ 5000 ∧ x < v) ∧ ∀ (k : Nat) (h : k + 1 < xs.length), xs[k] < xs[k + 1]
theorem LvS.snoc {xs : List Int} {v w : Int} (h : LvS xs v) (hv : v ≤ 5000) (hw : 1 ≤ w ∧ w ≤ 700) : LvS (xs ++ [v]) (v + w) := by
  obtain ⟨h1, h2, h3, h4⟩ := h
  refine ⟨by omega, by omega, fun x hx => ?_, fun k hk => ?_⟩
  · rcases List.mem_append.1 hx with hx | hx
    · have := h3 x hx; omega
    · simp at hx; subst hx; omega
  · simp only [List.length_append, List.length_cons, List.length_nil] at hk
    rcases Nat.lt_or_ge (k + 1) xs.length with hlt | hge
    · rw [List.getElem_append_left (by omega), List.getElem_append_left hlt]; exact h4 k hlt
    · rw [List.getElem_append_left (by omega), List.getElem_append_right hge]
      have := h3 xs[k] (List.getElem_mem _)
      simp; omega
theorem AllS.snoc {l : List Sup} (h : AllS l) (hl : l.length < 16) {s : Sup} (hs : SupV s l.length) (h16 : s.lv.length ≤ 16) : AllS (l ++ [s]) := by
  refine ⟨by simp; omega, fun x hx => ?_, fun i hi => ?_⟩
  · rcases List.mem_append.1 hx with hx | hx
    · exact h.2.1 x hx
    · simp at hx; subst hx; exact h16
  · simp only [List.length_append, List.length_cons, List.length_nil] at hi
    rcases Nat.lt_or_ge i l.length with hlt | hge
    · rw [List.getElem_append_left hlt]; exact h.2.2 i hlt
    · have : i = l.length := by omega
      subst this
      simpa using hs
theorem AllS.nil : AllS [] := ⟨by simp, by simp, fun i h => absurd h (by simp)⟩
set_option maxHeartbeats 4000000 in
theorem Supplies_call (nl : Bool) (ts : List Int) (i : Nat) (h : i ≤ ts.length) (n : Nat) (hn : 1 ≤ n ∧ n ≤ 15) :
    ACall Tryz.prog 6 [.ptr 0 0, .p (pI n)] (src nl ts i) fun r H => ∃ (l : List Sup) (nb : Bool) (i' : Nat), AllS l ∧ 1 ≤ l.length ∧ l.length ≤ n ∧ i' ≤ ts.length ∧ r = .buf 1 ∧ H = src nl ts i' ++ [some (AO.buf 34 nb (l.map Sup.pv))] := by
  refine acall_enter Tryz.func6 rfl rfl tabOK rfl ?_
  (conv => whnf); repeat' ((first | apply CondA.plain | refine' gC | refine' gpI | refine' gpB | refine' gSuppv | refine' gE | (apply DrawA.quiet (by kernel_rfl) (by kernel_rfl); (conv => whnf); fail_if_success (show False))) <;> (conv => whnf))
  refine CallA.loc [0] [] rfl rfl ((Range_call nl ts i h 1 n (by omega) (by omega)).mono ?_)
  rintro r H ⟨j0, i2, hj0, hj2, hi2, rfl, rfl⟩
  (conv => whnf); repeat' ((first | apply CondA.plain | refine' gC | refine' gpI | refine' gpB | refine' gSuppv | refine' gE | (apply DrawA.quiet (by kernel_rfl) (by kernel_rfl); (conv => whnf); fail_if_success (show False))) <;> (conv => whnf))
  refine loop_rule (fun (⟨j, l, nb, i⟩ : Int × List Sup × Bool × Nat) => ⟨[(0, .ptr 0 0), (5, .buf 1), (6, .p (pI j))], src nl ts i ++ [some (AO.buf 34 nb (l.map Sup.pv))]⟩) (fun (⟨j, l, nb, i⟩ : Int × List Sup × Bool × Nat) => 0 ≤ j ∧ AllS l ∧ (l.length : Int) + j ≤ n ∧ 1 ≤ (l.length : Int) + j ∧ i ≤ ts.length) (fun (⟨j, l, nb, i⟩ : Int × List Sup × Bool × Nat) => j.toNat) (j0, [], true, i2) ?_ ?_ ?_; (refine SubA.auto1 (34, 5) rfl rfl rfl rfl rfl ?_ ?_ <;> repeat' (first | exact trivial | refine And.intro ?_ ?_ | with_reducible rfl | (refine pIEq ?_; exact ar_) | (refine bufMap ?_) | (refine bufNil ?_) | (refine bufEq ?_) | rfl))
  · exact ⟨by omega, .nil, by simp; omega, by simp; omega, hi2⟩
  rintro ⟨j, l, nb, i3⟩ ⟨hj, hv, hl1, hl, hi3⟩
  try simp only at hj hv hl1 hl hi3
  (conv => whnf); repeat' ((first | apply CondA.plain | refine' gC | refine' gpI | refine' gpB | refine' gSuppv | refine' gE | (apply DrawA.quiet (by kernel_rfl) (by kernel_rfl); (conv => whnf); fail_if_success (show False))) <;> (conv => whnf))
  · refine CallA.loc [0] [] rfl rfl ((Range_call nl ts i3 hi3 (-1) (l.length - 1) (by omega) (by omega)).mono ?_)
    rintro r H ⟨par, i4, hp0, hp1, hi4, rfl, rfl⟩
    (conv => whnf); repeat' ((first | apply CondA.plain | refine' gC | refine' gpI | refine' gpB | refine' gSuppv | refine' gE | (apply DrawA.quiet (by kernel_rfl) (by kernel_rfl); (conv => whnf); fail_if_success (show False)) | (apply IsL.lit (f := pI) [0, 100, 500, 1000, 10000] rfl)) <;> (conv => whnf))
    refine CallA.loc [0] [2] rfl rfl ((Pick_call nl false ts i4 hi4 [0, 100, 500, 1000, 10000] (by simp) (by simp)).mono ?_)
    rintro r H ⟨cap, i5, hcap, hi5, rfl, rfl⟩
    have hcp : 0 ≤ cap ∧ cap ≤ 10000 := by simp at hcap; omega
    (conv => whnf); repeat' ((first | apply CondA.plain | refine' gC | refine' gpI | refine' gpB | refine' gSuppv | refine' gE | (apply DrawA.quiet (by kernel_rfl) (by kernel_rfl); (conv => whnf); fail_if_success (show False))) <;> (conv => whnf))
    refine CallA.loc [0] [] rfl rfl ((N_call nl ts i5 hi5 6 (by omega)).mono ?_)
    rintro r H ⟨al, i6, hal0, hal1, hi6, rfl, rfl⟩
    (conv => whnf); repeat' ((first | apply CondA.plain | refine' gC | refine' gpI | refine' gpB | refine' gSuppv | refine' gE | (apply DrawA.quiet (by kernel_rfl) (by kernel_rfl); (conv => whnf); fail_if_success (show False)) | (apply IsL.lit (f := pI) [600, 800, 1100, 1800, 3000] rfl)) <;> (conv => whnf))
    refine CallA.loc [0] [4] rfl rfl ((Pick_call nl false ts i6 hi6 [600, 800, 1100, 1800, 3000] (by simp) (by simp)).mono ?_)
    rintro r H ⟨v, i7, hvv, hi7, rfl, rfl⟩
    have hvr : 1 ≤ v ∧ v ≤ 3000 := by simp at hvv; omega
    (conv => whnf); repeat' ((first | apply CondA.plain | refine' gC | refine' gpI | refine' gpB | refine' gSuppv | refine' gE | (apply DrawA.quiet (by kernel_rfl) (by kernel_rfl); (conv => whnf); fail_if_success (show False))) <;> (conv => whnf))
    refine CallA.loc [0] [] rfl rfl ((Range_call nl ts i7 hi7 1 5 (by omega) (by omega)).mono ?_)
    rintro r H ⟨k0, i8, hk0, hk1, hi8, rfl, rfl⟩
    (conv => whnf); repeat' ((first | apply CondA.plain | refine' gC | refine' gpI | refine' gpB | refine' gSuppv | refine' gE | (apply DrawA.quiet (by kernel_rfl) (by kernel_rfl); (conv => whnf); fail_if_success (show False))) <;> (conv => whnf))
    refine loop_rule (fun (⟨k, xs, nx, v, i⟩ : Int × List Int × Bool × Int × Nat) => ⟨[(0, .ptr 0 0), (5, .buf 1), (6, .p (pI j)), (7, .ptr 2 0), (8, .p (pI v)), (9, .p (pI k))], src nl ts i ++ [some (AO.buf 34 nb (l.map Sup.pv)), some (.cells [.p (pI par), .buf 3, .p (pI 0), .p (pI cap), .p (pB (al == 0))]), some (AO.buf 3 nx (xs.map pI))]⟩) (fun (⟨k, xs, nx, v, i⟩ : Int × List Int × Bool × Int × Nat) => 0 ≤ k ∧ (xs.length : Int) + k ≤ 5 ∧ LvS xs v ∧ (xs.length = 0 → 1 ≤ k ∧ v ≤ 3000) ∧ i ≤ ts.length) (fun (⟨k, xs, nx, v, i⟩ : Int × List Int × Bool × Int × Nat) => k.toNat) (k0, [], true, v, i8) ?_ ?_ ?_; (refine SubA.cell _ 3 1 3 _ _ _ _ _ rfl rfl rfl ?_; refine SubA.auto rfl rfl rfl rfl ?_ ?_ <;> repeat' (first | exact trivial | refine And.intro ?_ ?_ | with_reducible rfl | (refine pIEq ?_; exact ar_) | (refine bufMap ?_) | (refine bufNil ?_) | (refine bufEq ?_) | rfl))
    · exact ⟨by omega, by simp; omega, ⟨by omega, by omega, by simp, by simp⟩, fun _ => ⟨by omega, by omega⟩, hi8⟩
    rintro ⟨k, xs, nx, v, i9⟩ ⟨hk, hxk, hlv, hx0, hi9⟩
    try simp only at hk hxk hlv hx0 hi9
    (conv => whnf); repeat' ((first | refine' gC | refine' gpI | refine' gpB | refine' gSuppv | refine' gE | (apply DrawA.quiet (by kernel_rfl) (by kernel_rfl); (conv => whnf); fail_if_success (show False))) <;> (conv => whnf))
    apply CondA.plain
    (conv => whnf); repeat' ((first | refine' gC | refine' gpI | refine' gpB | refine' gSuppv | refine' gE | (apply DrawA.quiet (by kernel_rfl) (by kernel_rfl); (conv => whnf); fail_if_success (show False)) | (apply IsL.lit (f := pI) [50, 100, 300, 700] rfl)) <;> (conv => whnf))
    · refine CallA.loc [0] [6] rfl rfl ((Pick_call nl false ts i9 hi9 [50, 100, 300, 700] (by simp) (by simp)).mono ?_)
      rintro r H ⟨w, i10, hw, hi10, rfl, rfl⟩
      have hwr : 1 ≤ w ∧ w ≤ 700 := by simp at hw; omega
      have hv0 := hlv.1
      have hv1 := hlv.2.1
      (conv => whnf); repeat' ((first | apply CondA.plain | refine' gC | refine' gpI | refine' gpB | refine' gSuppv | refine' gE | (apply DrawA.quiet (by kernel_rfl) (by kernel_rfl); (conv => whnf); fail_if_success (show False))) <;> (conv => whnf))
      (refine' ⟨(k - 1, xs ++ [v], _, v + w, i10), _, _, _⟩; rotate_right; (refine SubA.auto rfl rfl rfl rfl ?_ ?_ <;> repeat' (first | exact trivial | refine And.intro ?_ ?_ | with_reducible rfl | (refine pIEq ?_; exact ar_) | (refine bufMap ?_) | (refine bufNil ?_) | (refine bufEq ?_) | rfl)); rotate_right; exact ar2_)
      exact ⟨by omega, by simp; omega, hlv.snoc (by omega) hwr, fun h => absurd h (by simp), hi10⟩
    · refine CondA.meet (fun (⟨dr, i⟩ : Int × Nat) => ⟨[(0, .ptr 0 0), (5, .buf 1), (6, .p (pI j)), (7, .ptr 2 0)], src nl ts i ++ [some (AO.buf 34 nb (l.map Sup.pv)), some (.cells [.p (pI par), .p (.list nx (xs.map pI)), .p (pI dr), .p (pI cap), .p (pB (al == 0))])]⟩) (fun (⟨dr, i⟩ : Int × Nat) => 0 ≤ dr ∧ dr ≤ 300 ∧ (par < 0 → dr = 0) ∧ i ≤ ts.length) ?_ ?_
      · (conv => whnf); repeat' ((first | apply CondA.plain | refine' gC | refine' gpI | refine' gpB | refine' gSuppv | refine' gE | (apply DrawA.quiet (by kernel_rfl) (by kernel_rfl); (conv => whnf); fail_if_success (show False)) | (apply IsL.lit (f := pI) [0, 0, 100, 300] rfl)) <;> (conv => whnf))
        · refine CallA.loc [0] [4] rfl rfl ((Pick_call nl false ts i9 hi9 [0, 0, 100, 300] (by simp) (by simp)).mono ?_)
          rintro r H ⟨dr, i10, hdr, hi10, rfl, rfl⟩
          have hdd : 0 ≤ dr ∧ dr ≤ 300 := by simp at hdr; omega
          (conv => whnf); repeat' ((first | apply CondA.plain | refine' gC | refine' gpI | refine' gpB | refine' gSuppv | refine' gE | (apply DrawA.quiet (by kernel_rfl) (by kernel_rfl); (conv => whnf); fail_if_success (show False))) <;> (conv => whnf))
          (refine' ⟨(dr, i10), _, _⟩; rotate_right; (refine SubA.thawed _ [3] [] ?_; refine SubA.cells _ [2] ?_; refine SubA.auto rfl rfl rfl rfl ?_ ?_ <;> repeat' (first | exact trivial | refine And.intro ?_ ?_ | with_reducible rfl | (refine pIEq ?_; exact ar_) | (refine bufMap ?_) | (refine bufNil ?_) | (refine bufEq ?_) | rfl)); rotate_right; exact ar2_)
        · (refine' ⟨(0, i9), _, _⟩; rotate_right; (refine SubA.thawed _ [3] [] ?_; refine SubA.cells _ [2] ?_; refine SubA.auto rfl rfl rfl rfl ?_ ?_ <;> repeat' (first | exact trivial | refine And.intro ?_ ?_ | with_reducible rfl | (refine pIEq ?_; exact ar_) | (refine bufMap ?_) | (refine bufNil ?_) | (refine bufEq ?_) | rfl)); rotate_right; exact ar2_)
      rintro ⟨dr, i10⟩ ⟨hd0, hd1, hd2, hi10⟩
      try simp only at hd0 hd1 hd2 hi10
      (conv => whnf); repeat' ((first | apply CondA.plain | refine' gC | refine' gpI | refine' gpB | refine' gSuppv | refine' gE | (apply DrawA.quiet (by kernel_rfl) (by kernel_rfl); (conv => whnf); fail_if_success (show False)) | (apply IsL.lit (f := Sup.pv) [⟨par, nx, xs, dr, cap, al == 0⟩] rfl)) <;> (conv => whnf))
      (refine' ⟨(j - 1, l ++ [⟨par, nx, xs, dr, cap, al == 0⟩], false, i10), _, _, _⟩; rotate_right; (refine SubA.auto rfl rfl rfl rfl ?_ ?_ <;> repeat' (first | exact trivial | refine And.intro ?_ ?_ | with_reducible rfl | (refine pIEq ?_; exact ar_) | (refine bufMap ?_) | (refine bufNil ?_) | (refine bufEq ?_) | rfl)); rotate_right; exact ar2_)
      refine ⟨by omega, hv.snoc (by omega) ⟨⟨by omega, by show par < _; omega⟩, ?_, ⟨hd0, by show dr ≤ _; omega⟩, hd2, hcp, fun x hx => ⟨(hlv.2.2.1 x hx).1, (hlv.2.2.1 x hx).2.1⟩, hlv.2.2.2⟩ (by show xs.length ≤ 16; omega), by simp; omega, by simp; omega, hi10⟩
      rcases Nat.eq_zero_or_pos xs.length with h00 | h00
      · have := hx0 h00
        omega
      · exact h00
    · apply CondA.plain
      (conv => whnf); repeat' ((first | refine' gC | refine' gpI | refine' gpB | refine' gSuppv | refine' gE | (apply DrawA.quiet (by kernel_rfl) (by kernel_rfl); (conv => whnf); fail_if_success (show False))) <;> (conv => whnf))
      refine CondA.meet (fun (⟨dr, i⟩ : Int × Nat) => ⟨[(0, .ptr 0 0), (5, .buf 1), (6, .p (pI j)), (7, .ptr 2 0)], src nl ts i ++ [some (AO.buf 34 nb (l.map Sup.pv)), some (.cells [.p (pI par), .p (.list nx (xs.map pI)), .p (pI dr), .p (pI cap), .p (pB (al == 0))])]⟩) (fun (⟨dr, i⟩ : Int × Nat) => 0 ≤ dr ∧ dr ≤ 300 ∧ (par < 0 → dr = 0) ∧ i ≤ ts.length) ?_ ?_
      · (conv => whnf); repeat' ((first | apply CondA.plain | refine' gC | refine' gpI | refine' gpB | refine' gSuppv | refine' gE | (apply DrawA.quiet (by kernel_rfl) (by kernel_rfl); (conv => whnf); fail_if_success (show False)) | (apply IsL.lit (f := pI) [0, 0, 100, 300] rfl)) <;> (conv => whnf))
        · refine CallA.loc [0] [4] rfl rfl ((Pick_call nl false ts i9 hi9 [0, 0, 100, 300] (by simp) (by simp)).mono ?_)
          rintro r H ⟨dr, i10, hdr, hi10, rfl, rfl⟩
          have hdd : 0 ≤ dr ∧ dr ≤ 300 := by simp at hdr; omega
          (conv => whnf); repeat' ((first | apply CondA.plain | refine' gC | refine' gpI | refine' gpB | refine' gSuppv | refine' gE | (apply DrawA.quiet (by kernel_rfl) (by kernel_rfl); (conv => whnf); fail_if_success (show False))) <;> (conv => whnf))
          (refine' ⟨(dr, i10), _, _⟩; rotate_right; (refine SubA.thawed _ [3] [] ?_; refine SubA.cells _ [2] ?_; refine SubA.auto rfl rfl rfl rfl ?_ ?_ <;> repeat' (first | exact trivial | refine And.intro ?_ ?_ | with_reducible rfl | (refine pIEq ?_; exact ar_) | (refine bufMap ?_) | (refine bufNil ?_) | (refine bufEq ?_) | rfl)); rotate_right; exact ar2_)
        · (refine' ⟨(0, i9), _, _⟩; rotate_right; (refine SubA.thawed _ [3] [] ?_; refine SubA.cells _ [2] ?_; refine SubA.auto rfl rfl rfl rfl ?_ ?_ <;> repeat' (first | exact trivial | refine And.intro ?_ ?_ | with_reducible rfl | (refine pIEq ?_; exact ar_) | (refine bufMap ?_) | (refine bufNil ?_) | (refine bufEq ?_) | rfl)); rotate_right; exact ar2_)
      rintro ⟨dr, i10⟩ ⟨hd0, hd1, hd2, hi10⟩
      try simp only at hd0 hd1 hd2 hi10
      (conv => whnf); repeat' ((first | apply CondA.plain | refine' gC | refine' gpI | refine' gpB | refine' gSuppv | refine' gE | (apply DrawA.quiet (by kernel_rfl) (by kernel_rfl); (conv => whnf); fail_if_success (show False)) | (apply IsL.lit (f := Sup.pv) [⟨par, nx, xs, dr, cap, al == 0⟩] rfl)) <;> (conv => whnf))
      (refine' ⟨(j - 1, l ++ [⟨par, nx, xs, dr, cap, al == 0⟩], false, i10), _, _, _⟩; rotate_right; (refine SubA.auto rfl rfl rfl rfl ?_ ?_ <;> repeat' (first | exact trivial | refine And.intro ?_ ?_ | with_reducible rfl | (refine pIEq ?_; exact ar_) | (refine bufMap ?_) | (refine bufNil ?_) | (refine bufEq ?_) | rfl)); rotate_right; exact ar2_)
      refine ⟨by omega, hv.snoc (by omega) ⟨⟨by omega, by show par < _; omega⟩, ?_, ⟨hd0, by show dr ≤ _; omega⟩, hd2, hcp, fun x hx => ⟨(hlv.2.2.1 x hx).1, (hlv.2.2.1 x hx).2.1⟩, hlv.2.2.2⟩ (by show xs.length ≤ 16; omega), by simp; omega, by simp; omega, hi10⟩
      rcases Nat.eq_zero_or_pos xs.length with h00 | h00
      · have := hx0 h00
        omega
      · exact h00
  · (refine' RetK.auto (.buf 1) (src nl ts i3 ++ [some (AO.buf 34 nb (l.map Sup.pv))]) rfl rfl rfl rfl _ _ _ <;> repeat' (first | exact trivial | refine And.intro ?_ ?_ | with_reducible rfl | (refine pIEq ?_; exact ar_) | (refine bufMap ?_) | (refine bufNil ?_) | (refine bufEq ?_) | rfl))
    exact ⟨l, nb, i3, hv, by omega, by omega, hi3, rfl, rfl⟩
open Go.Abs
set_option maxRecDepth 100000
def rdASC0 : Sc := (.one 10 (.take 11 (.one 12 (.take 13 (.load 14 (.take 15 .done))))))
def rdASC1 : Sc := (.one 12 (.take 13 (.load 14 (.take 15 .done))))
def rdASC2 : Sc := (.one 4 (.take 13 (.load 14 (.take 15 .done))))
def rdASC3 : Sc := (.take 11 (.two 4 12 rdASC1 rdASC2))
def rdA : Sc := (.take 0 (.take 1 (.take 2 (.take 3 (.take 5 (.take 6 (.take 7 (.take 8 (.take 9 (.two 4 10 rdASC0 rdASC3))))))))))
theorem AllD.snoc {n : Nat} {d : List Dr} (h : AllD n d) (hl : d.length < 32) {x : Dr} (hx : DrV n x) : AllD n (d ++ [x]) := by
  refine ⟨by simp; omega, fun y hy => ?_⟩
  rcases List.mem_append.1 hy with hy | hy
  · exact h.2 y hy
  · simp at hy; subst hy; exact hx
set_option maxHeartbeats 4000000 in
theorem Draws_call (nl : Bool) (ts : List Int) (i : Nat) (h : i ≤ ts.length) (nq : Bool) (l : List Sup) (hl : AllS l) (h1 : 1 ≤ l.length) (n : Nat) (hn : n ≤ 8) :
    ACall Tryz.prog 7 [.ptr 0 0, .p (.list nq (l.map Sup.pv)), .p (pI n)] (src nl ts i) fun r H => ∃ (d : List Dr) (nb : Bool) (i' : Nat), AllD l.length d ∧ d.length ≤ n ∧ i' ≤ ts.length ∧ r = .buf 1 ∧ H = src nl ts i' ++ [some (AO.buf 71 nb (d.map Dr.pv))] := by
  refine acall_enter Tryz.func7 rfl rfl tabOK rfl ?_
  (conv => whnf); repeat' ((first | apply CondA.plain | refine' gC | refine' gpI | refine' gpB | refine' gDrpv | refine' gSuppv | refine' gE | (apply DrawA.quiet (by kernel_rfl) (by kernel_rfl); (conv => whnf); fail_if_success (show False))) <;> (conv => whnf))
  refine CallA.loc [0] [] rfl rfl ((N_call nl ts i h (n + 1) (by omega)).mono ?_)
  rintro r H ⟨j0, i2, hj0, hj2, hi2, rfl, rfl⟩
  (conv => whnf); repeat' ((first | apply CondA.plain | refine' gC | refine' gpI | refine' gpB | refine' gDrpv | refine' gSuppv | refine' gE | (apply DrawA.quiet (by kernel_rfl) (by kernel_rfl); (conv => whnf); fail_if_success (show False))) <;> (conv => whnf))
  refine loop_rule (fun (⟨j, d, nb, i⟩ : Int × List Dr × Bool × Nat) => ⟨[(0, .ptr 0 0), (1, .p (.list nq (l.map Sup.pv))), (7, .buf 1), (8, .p (pI j))], src nl ts i ++ [some (AO.buf 71 nb (d.map Dr.pv))]⟩) (fun (⟨j, d, nb, i⟩ : Int × List Dr × Bool × Nat) => 0 ≤ j ∧ AllD l.length d ∧ (d.length : Int) + j ≤ n ∧ i ≤ ts.length) (fun (⟨j, d, nb, i⟩ : Int × List Dr × Bool × Nat) => j.toNat) (j0, [], true, i2) ?_ ?_ ?_; (refine SubA.auto1 (71, 7) rfl rfl rfl rfl rfl ?_ ?_ <;> repeat' (first | exact trivial | refine And.intro ?_ ?_ | with_reducible rfl | (refine pIEq ?_; exact ar_) | (refine bufMap ?_) | (refine bufNil ?_) | (refine bufEq ?_) | rfl))
  · exact ⟨by omega, ⟨by simp, by simp⟩, by simp; omega, hi2⟩
  rintro ⟨j, d, nb, i3⟩ ⟨hj, hv, hl1, hi3⟩
  try simp only at hj hv hl1 hi3
  have h16 := hl.1
  (conv => whnf); repeat' ((first | apply CondA.plain | refine' gC | refine' gpI | refine' gpB | refine' gDrpv | refine' gSuppv | refine' gE | fail) <;> (conv => whnf))
  · refine CallA.loc [0] [] rfl rfl ((N_call nl ts i3 hi3 l.length (by omega)).mono ?_)
    rintro r H ⟨k, i4, hk0, hk1, hi4, rfl, rfl⟩
    obtain ⟨k, rfl⟩ := Int.eq_ofNat_of_zero_le hk0
    have hkl : k < l.length := by omega
    have hsv := hl.2.2 k hkl
    have hlv := hsv.2.1
    have hlw := hsv.2.2.2.2.2.1
    have hlx := hl.2.1 _ (List.getElem_mem hkl)
    (conv => whnf); repeat' ((first | apply CondA.plain | refine' gC | refine' gpI | refine' gpB | refine' gDrpv | refine' gSuppv | refine' gE | fail) <;> (conv => whnf))
    refine DrawA.meet (fun (⟨v, i⟩ : Int × Nat) => ⟨[(0, .ptr 0 0), (1, .p (.list nq (l.map Sup.pv))), (7, .buf 1), (8, .p (pI j)), (9, .p (pI k)), (10, .p (pI v))], src nl ts i ++ [some (AO.buf 71 nb (d.map Dr.pv))]⟩) (fun (⟨v, i⟩ : Int × Nat) => 1 ≤ v ∧ v ≤ 5000 ∧ i ≤ ts.length) (DrawB.orders rdA (by kernel_rfl) (by kernel_rfl) (by kernel_rfl) ?_) ?_
    · (conv => whnf); repeat' ((first | apply CondA.plain | refine' gC | refine' gpI | refine' gpB | refine' gDrpv | refine' gSuppv | refine' gE | fail) <;> (conv => whnf))
      all_goals
        refine CallA.loc [0] [] rfl rfl ((N_call nl ts i4 hi4 (l[k]).lv.length (by omega)).mono ?_)
        rintro r H ⟨q, i5, hq0, hq1, hi5, rfl, rfl⟩
        obtain ⟨q, rfl⟩ := Int.eq_ofNat_of_zero_le hq0
        have hql : q < (l[k]).lv.length := by omega
        have hqv := hlw _ (List.getElem_mem hql)
        (conv => whnf); repeat' ((first | apply CondA.plain | refine' gC | refine' gpI | refine' gpB | refine' gDrpv | refine' gSuppv | refine' gE | fail) <;> (conv => whnf))
        all_goals (refine' ⟨((l[k]).lv[q], i5), _, _⟩; rotate_right; (refine SubA.auto rfl rfl rfl rfl ?_ ?_ <;> repeat' (first | exact trivial | refine And.intro ?_ ?_ | with_reducible rfl | (refine pIEq ?_; exact ar_) | (refine bufMap ?_) | (refine bufNil ?_) | (refine bufEq ?_) | rfl)); rotate_right; exact ar2_)
    rintro ⟨v, i5⟩ ⟨hv0, hv1, hi5⟩
    try simp only at hv0 hv1 hi5
    (conv => whnf); repeat' ((first | apply CondA.plain | refine' gC | refine' gpI | refine' gpB | refine' gDrpv | refine' gSuppv | refine' gE | (apply DrawA.quiet (by kernel_rfl) (by kernel_rfl); (conv => whnf); fail_if_success (show False)) | (apply IsL.lit (f := pI) [0, 10, 100, 1000] rfl)) <;> (conv => whnf))
    refine CallA.loc [0] [2] rfl rfl ((Pick_call nl false ts i5 hi5 [0, 10, 100, 1000] (by simp) (by simp)).mono ?_)
    rintro r H ⟨w1, i6, hw1, hi6, rfl, rfl⟩
    have hr1 : 0 ≤ w1 ∧ w1 ≤ 1000 := by simp at hw1; omega
    (conv => whnf); repeat' ((first | apply CondA.plain | refine' gC | refine' gpI | refine' gpB | refine' gDrpv | refine' gSuppv | refine' gE | (apply DrawA.quiet (by kernel_rfl) (by kernel_rfl); (conv => whnf); fail_if_success (show False)) | (apply IsL.lit (f := pI) [0, 50, 500, 2000] rfl)) <;> (conv => whnf))
    refine CallA.loc [0] [3] rfl rfl ((Pick_call nl false ts i6 hi6 [0, 50, 500, 2000] (by simp) (by simp)).mono ?_)
    rintro r H ⟨w2, i7, hw2, hi7, rfl, rfl⟩
    have hr2 : 0 ≤ w2 ∧ w2 ≤ 2000 := by simp at hw2; omega
    (conv => whnf); repeat' ((first | apply CondA.plain | refine' gC | refine' gpI | refine' gpB | refine' gDrpv | refine' gSuppv | refine' gE | (apply DrawA.quiet (by kernel_rfl) (by kernel_rfl); (conv => whnf); fail_if_success (show False)) | (apply IsL.lit (f := pI) [0, 10, 100, 300] rfl)) <;> (conv => whnf))
    refine CallA.loc [0] [4] rfl rfl ((Pick_call nl false ts i7 hi7 [0, 10, 100, 300] (by simp) (by simp)).mono ?_)
    rintro r H ⟨w3, i8, hw3, hi8, rfl, rfl⟩
    have hr3 : 0 ≤ w3 ∧ w3 ≤ 300 := by simp at hw3; omega
    (conv => whnf); repeat' ((first | apply CondA.plain | refine' gC | refine' gpI | refine' gpB | refine' gDrpv | refine' gSuppv | refine' gE | (apply DrawA.quiet (by kernel_rfl) (by kernel_rfl); (conv => whnf); fail_if_success (show False))) <;> (conv => whnf))
    (refine' ⟨(j - 1, d ++ [⟨k, if 0 < v - w1 then v - w1 else 0, if v + w2 < 5000 then v + w2 else 5000, w3⟩], _, i8), _, _, _⟩; rotate_right; (refine SubA.auto rfl rfl rfl rfl ?_ ?_ <;> repeat' (first | exact trivial | refine And.intro ?_ ?_ | with_reducible rfl | (refine pIEq ?_; exact ar_) | (refine bufMap ?_) | (refine bufNil ?_) | (refine bufEq ?_) | rfl)); rotate_right; exact ar2_)
    have e1 : 0 ≤ (if 0 < v - w1 then v - w1 else 0) ∧ (if 0 < v - w1 then v - w1 else 0) ≤ v := by split <;> omega
    have e2 : v ≤ (if v + w2 < 5000 then v + w2 else 5000) ∧ (if v + w2 < 5000 then v + w2 else 5000) ≤ 5000 := by split <;> omega
    exact ⟨by omega, hv.snoc (by omega) ⟨⟨by show (0 : Int) ≤ k; omega, by show (k : Int) < l.length; omega⟩, ⟨by show 0 ≤ ite _ _ _; omega, e2.2⟩, ⟨e1.1, Int.le_trans e1.2 e2.1⟩, hr3.1, by show w3 ≤ _; omega⟩, by simp; omega, hi8⟩
  · (refine' RetK.auto (.buf 1) (src nl ts i3 ++ [some (AO.buf 71 nb (d.map Dr.pv))]) rfl rfl rfl rfl _ _ _ <;> repeat' (first | exact trivial | refine And.intro ?_ ?_ | with_reducible rfl | (refine pIEq ?_; exact ar_) | (refine bufMap ?_) | (refine bufNil ?_) | (refine bufEq ?_) | rfl))
    exact ⟨d, nb, i3, hv, by omega, hi3, rfl, rfl⟩
open Go.Abs
set_option maxRecDepth 100000
theorem call_exR {P : Program} {f : FuncId} {args : List AV} {H : AH} {K : AV → AH → Prop} (h : ACall P f (toLocL H [] true args) [] fun r H' => ∃ (a : Int × Int) (e : Int), r = .tup [.p (pR a), .p (pI e)] ∧ H' = []) (hk : ∀ a e, K (.tup [.p (pR a), .p (pI e)]) H) : CallA P f args H K :=
  .lend (h.mono fun r H' ⟨a, e, h1, h2⟩ => by subst h1; subst h2; exact ⟨⟨pR_flat a, pI_flat e, trivial⟩, trivial, by simpa [renH, AV.ren, renL] using hk a e⟩)
def stA : Sc := (.frz 0 (.take 1 (.take 2 (.take 3 (.load 4 (.one 5 (.take 6 .done)))))))
def stB : Sc := (.take 0 (.take 1 (.take 2 (.load 3 (.take 4 (.take 5 (.take 6 (.load 7 (.one 8 (.take 9 .done))))))))))
def stC : Sc := (.take 0 (.frz 1 (.take 2 (.take 3 (.take 4 (.load 5 (.take 6 (.load 7 (.take 8 .done)))))))))
set_option maxHeartbeats 4000000 in
theorem rStates_call (nl n2 : Bool) (l : List Ck) (s : List Int) (hv : AllV l) (h16 : l.length ≤ 16) (hs : SetOK l s) :
    ACall Tryz.prog 24 [.p (.list nl (l.map Ck.pv)), .p (.list n2 (s.map pI))] [] fun r H => ∃ (xs : List (Int × Int)) (bs : List Bool) (nx nb : Bool), xs.length = l.length ∧ r = .tup [.buf 0, .buf 1] ∧ H = [some (AO.buf 79 nx (xs.map pR)), some (AO.buf 4 nb (bs.map pB))] := by
  refine acall_enter Tryz.func24 rfl rfl tabOK rfl ?_
  have hsl := hs.1
  (conv => whnf); repeat' ((first | apply CondA.plain | refine' gC | refine' gpI | refine' gpB | refine' gCkpv | refine' gpR | refine' gE | (apply DrawA.quiet (by kernel_rfl) (by kernel_rfl); (conv => whnf); fail_if_success (show False))) <;> (conv => whnf))
  refine loop_rule (fun (⟨c, xs, bs, nx, nb⟩ : Nat × List (Int × Int) × List Bool × Bool × Bool) => ⟨[(1, .p (.list n2 (s.map pI))), (6, .buf 0), (7, .buf 1), (14, .p (.list nl (l.map Ck.pv))), (15, .p (pI l.length)), (16, .p (pI c))], [some (AO.buf 79 nx (xs.map pR)), some (AO.buf 4 nb (bs.map pB))]⟩) (fun (⟨c, xs, bs, nx, nb⟩ : Nat × List (Int × Int) × List Bool × Bool × Bool) => c ≤ l.length ∧ xs.length = c ∧ bs.length = c) (fun (⟨c, xs, bs, nx, nb⟩ : Nat × List (Int × Int) × List Bool × Bool × Bool) => l.length - c) (0, [], [], true, true) ?_ ?_ ?_; (refine SubA.auto2 (79, 6) (4, 7) rfl rfl rfl rfl rfl rfl ?_ ?_ <;> repeat' (first | exact trivial | refine And.intro ?_ ?_ | with_reducible rfl | (refine pIEq ?_; exact ar_) | (refine bufMap ?_) | (refine bufNil ?_) | (refine bufEq ?_) | rfl))
  · exact ⟨by omega, rfl, rfl⟩
  rintro ⟨c, xs, bs, nx, nb⟩ ⟨hc, hxl, hbl⟩
  try simp only at hc hxl hbl
  (conv => whnf); repeat' ((first | apply CondA.plain | refine' gC | refine' gpI | refine' gpB | refine' gCkpv | refine' gpR | refine' gE | fail) <;> (conv => whnf))
  · have hcl : c < l.length := by omega
    have hck := hs.2 c (by omega) hcl
    have hpr := parF_range (hv c hcl) hck
    have hcs := (hv c hcl).2.2.2
    refine DrawA.retire 9 2 [pI l[c].kind, .list l[c].pn (l[c].ps.map pI), .list l[c].cn (l[c].cs.map pI), pI l[c].lo, pI l[c].hi] rfl rfl ?_
    (conv => whnf); repeat' ((first | refine' gC | refine' gpI | refine' gpB | refine' gCkpv | refine' gpR | refine' gE | (apply DrawA.orders stA (by kernel_rfl) (by kernel_rfl) (by decide +kernel)) | (refine CallA.scalar (rParent_call _ c (hv c hcl) _ hck) ?_)) <;> (conv => whnf))
    refine CondA.meet (fun (⟨r, b⟩ : (Int × Int) × Bool) => ⟨[(1, .p (.list n2 (s.map pI))), (6, .buf 0), (7, .buf 1), (8, .p (pI c)), (9, .rptr [pI l[c].kind, .list l[c].pn (l[c].ps.map pI), .list l[c].cn (l[c].cs.map pI), pI l[c].lo, pI l[c].hi]), (10, .ptr 2 0), (11, .p (pB b)), (14, .p (.list nl (l.map Ck.pv))), (15, .p (pI l.length)), (16, .p (pI c))], [some (AO.buf 79 nx (xs.map pR)), some (AO.buf 4 nb (bs.map pB)), some (.cells [.p (pI r.1), .p (pI r.2)])]⟩) (fun (⟨r, b⟩ : (Int × Int) × Bool) => True) ?_ ?_
    · (conv => whnf); repeat' ((first | apply CondA.plain | refine' gC | refine' gpI | refine' gpB | refine' gCkpv | refine' gpR | refine' gE | fail) <;> (conv => whnf))
      · apply DrawA.orders stB (by kernel_rfl) (by kernel_rfl) (by decide +kernel)
        (conv => whnf); repeat' ((first | apply CondA.plain | refine' gC | refine' gpI | refine' gpB | refine' gCkpv | refine' gpR | refine' gE | fail) <;> (conv => whnf))
        all_goals (refine' ⟨(xs[(parF l[c] s[c]).toNat]'(by omega), bs[(parF l[c] s[c]).toNat]'(by omega)), _, _⟩; rotate_right; (refine SubA.auto rfl rfl rfl rfl ?_ ?_ <;> repeat' (first | exact trivial | refine And.intro ?_ ?_ | with_reducible rfl | (refine pIEq ?_; exact ar_) | (refine bufMap ?_) | (refine bufNil ?_) | (refine bufEq ?_) | rfl)); rotate_right; exact ar2_)
      · (refine' ⟨((0, 1), true), _, _⟩; rotate_right; (refine SubA.auto rfl rfl rfl rfl ?_ ?_ <;> repeat' (first | exact trivial | refine And.intro ?_ ?_ | with_reducible rfl | (refine pIEq ?_; exact ar_) | (refine bufMap ?_) | (refine bufNil ?_) | (refine bufEq ?_) | rfl)); rotate_right; exact ar2_)
    rintro ⟨r, b⟩ -
    try simp only
    (conv => whnf); repeat' ((first | apply CondA.plain | refine' gC | refine' gpI | refine' gpB | refine' gCkpv | refine' gpR | refine' gE | (apply DrawA.orders stC (by kernel_rfl) (by kernel_rfl) (by decide +kernel)) | (refine call_exR (rOver_call _ _ _) ?_) | (intro a e) | (refine call_exR (rTimes_call _ _ _) ?_) | (intro a e)) <;> (conv => whnf))
    all_goals
      (refine' ⟨(c + 1, xs ++ [(_, _)], bs ++ [_], _, _), _, _, _⟩; rotate_right; (refine SubA.auto rfl rfl rfl rfl ?_ ?_ <;> repeat' (first | exact trivial | refine And.intro ?_ ?_ | with_reducible rfl | (refine pIEq ?_; exact ar_) | (refine bufMap ?_) | (refine bufNil ?_) | (refine bufEq ?_) | rfl)); rotate_right; exact ar2_)
      exact ⟨by omega, by simp; omega, by simp; omega⟩
  · (refine' RetK.auto (.tup [.buf 0, .buf 1]) ([some (AO.buf 79 nx (xs.map pR)), some (AO.buf 4 nb (bs.map pB))]) rfl rfl rfl rfl _ _ _ <;> repeat' (first | exact trivial | refine And.intro ?_ ?_ | with_reducible rfl | (refine pIEq ?_; exact ar_) | (refine bufMap ?_) | (refine bufNil ?_) | (refine bufEq ?_) | rfl))
    exact ⟨xs, bs, nx, nb, by omega, rfl, rfl⟩
open Go.Abs
set_option maxRecDepth 100000
structure Lm where
  clk : Int
  lo : Int
  hi : Int
def Lm.pv (m : Lm) : PV := .agg [pI m.clk, pI m.lo, pI m.hi]
theorem gLmpv {P : Prop} (h : P := by
  (first | ((first | apply AppA.snoc (f := Lm.pv) (a := _) rfl | apply AppA.one (f := Lm.pv) (a := _) rfl | (apply AppA.snoc (f := Lm.pv) (a := ⟨_, _, _⟩); dsimp only [Lm.pv]; exact rfl) | (apply AppA.one (f := Lm.pv) (a := ⟨_, _, _⟩); dsimp only [Lm.pv]; exact rfl)); exact ar_) | apply IsL.set (f := Lm.pv) (a := _) rfl | apply IsL.rep (f := Lm.pv) (a := _) rfl | (apply IsL.set (f := Lm.pv) (a := ⟨_, _, _⟩); dsimp only [Lm.pv]; exact rfl) | (apply IsL.rep (f := Lm.pv) (a := ⟨_, _, _⟩); dsimp only [Lm.pv]; exact rfl) | apply IsL.lit (f := Lm.pv) [] rfl | apply IsL.lit (f := Lm.pv) [_] rfl | apply IsL.lit (f := Lm.pv) [_, _] rfl | apply IsL.lit (f := Lm.pv) [_, _, _] rfl | apply IsL.lit (f := Lm.pv) [] rfl | apply IsL.lit (f := Lm.pv) [⟨_, _, _⟩] rfl | apply IsL.lit (f := Lm.pv) [⟨_, _, _⟩, ⟨_, _, _⟩] rfl | apply IsL.lit (f := Lm.pv) [⟨_, _, _⟩, ⟨_, _, _⟩, ⟨_, _, _⟩] rfl) <;> (solve_by_elim (newGoals := .nonDependentOnly) (symm := false) (exfalso := false) (transparency := .reducible) only [rfl, park_])) : P := h
def LmV (n : Nat) (m : Lm) : Prop := (0 ≤ m.clk ∧ m.clk < n) ∧ 0 ≤ m.lo ∧ m.lo ≤ m.hi ∧ m.hi ≤ 4000000000
theorem rFloor0_call (n d : Int) : ACall Tryz.prog 25 [.p (.agg [pI n, pI d])] [] fun r H => ∃ v, r = .p (pI v) ∧ H = [] ∧ 0 ≤ v ∧ v ≤ 144115188075855872 := by
  refine acall_enter Tryz.func25 rfl rfl tabOK rfl ?_
  have h1 : rV n d = true → 0 < d ∧ 0 ≤ n.tdiv d ∧ n.tdiv d ≤ n ∧ n ≤ 144115188075855872 := fun h => by
    have := rV_spec h
    have := tdiv_le (a := n) (b := d) (by omega) (by omega)
    omega
  (conv => whnf); repeat' ((first | apply CondA.plain | refine' gC | refine' gpI | refine' gpB | refine' gCkpv | refine' gpR | refine' gLmpv | refine' gE | (apply DrawA.quiet (by kernel_rfl) (by kernel_rfl); (conv => whnf); fail_if_success (show False)) | (refine CallA.scalar (rV_call _ _) ?_)) <;> (conv => whnf))
  · (refine RetK.p ?_ <;> repeat' (first | exact trivial | refine And.intro ?_ ?_ | with_reducible rfl | (refine pIEq ?_; exact ar_) | (refine bufMap ?_) | (refine bufNil ?_) | (refine bufEq ?_) | rfl); all_goals try first | refine pBEq ?_ | refine pIEq ?_)
    exact ⟨_, rfl, rfl, by omega, by omega⟩
  · have := h1 (by assumption)
    (refine RetK.p ?_ <;> repeat' (first | exact trivial | refine And.intro ?_ ?_ | with_reducible rfl | (refine pIEq ?_; exact ar_) | (refine bufMap ?_) | (refine bufNil ?_) | (refine bufEq ?_) | rfl); all_goals try first | refine pBEq ?_ | refine pIEq ?_)
    exact ⟨_, rfl, rfl, by omega, by omega⟩
set_option maxHeartbeats 4000000 in
theorem Limits_call (ns : Bool) (ts : List Int) (i : Nat) (h : i ≤ ts.length) (nl : Bool) (l : List Ck) (hv : AllV l) (h16 : l.length ≤ 16) (h1 : 1 ≤ l.length) (n : Nat) (hn : n ≤ 8) :
    ACall Tryz.prog 10 [.ptr 0 0, .p (.list nl (l.map Ck.pv)), .p (pI n)] (src ns ts i) fun r H => ∃ (m : List Lm) (nb : Bool) (i' : Nat), (∀ x ∈ m, LmV l.length x) ∧ m.length ≤ n ∧ i' ≤ ts.length ∧ r = .buf 1 ∧ H = src ns ts i' ++ [some (AO.buf 81 nb (m.map Lm.pv))] := by
  refine acall_enter Tryz.func10 rfl rfl tabOK rfl ?_
  (conv => whnf); repeat' ((first | apply CondA.plain | refine' gC | refine' gpI | refine' gpB | refine' gCkpv | refine' gpR | refine' gLmpv | refine' gE | (apply DrawA.quiet (by kernel_rfl) (by kernel_rfl); (conv => whnf); fail_if_success (show False))) <;> (conv => whnf))
  refine CallA.loc [0] [] rfl rfl ((Setting_call ns nl ts i h l hv h16).mono ?_)
  rintro r H ⟨s, n2, i2, hs, hi2, rfl, rfl⟩
  (conv => whnf); repeat' ((first | apply CondA.plain | refine' gC | refine' gpI | refine' gpB | refine' gCkpv | refine' gpR | refine' gLmpv | refine' gE | (apply DrawA.quiet (by kernel_rfl) (by kernel_rfl); (conv => whnf); fail_if_success (show False))) <;> (conv => whnf))
  refine CallA.loc [] [1] rfl rfl ((rStates_call nl n2 l s hv h16 hs).mono ?_)
  rintro r H ⟨xs, bs, nx, nb, hxl, rfl, rfl⟩
  (conv => whnf); repeat' ((first | apply CondA.plain | refine' gC | refine' gpI | refine' gpB | refine' gCkpv | refine' gpR | refine' gLmpv | refine' gE | (apply DrawA.quiet (by kernel_rfl) (by kernel_rfl); (conv => whnf); fail_if_success (show False))) <;> (conv => whnf))
  refine CallA.loc [0] [] rfl rfl ((N_call ns ts i2 hi2 (n + 1) (by omega)).mono ?_)
  rintro r H ⟨j0, i3, hj0, hj2, hi3, rfl, rfl⟩
  (conv => whnf); repeat' ((first | apply CondA.plain | refine' gC | refine' gpI | refine' gpB | refine' gCkpv | refine' gpR | refine' gLmpv | refine' gE | (apply DrawA.quiet (by kernel_rfl) (by kernel_rfl); (conv => whnf); fail_if_success (show False))) <;> (conv => whnf))
  refine loop_rule (fun (⟨j, m, nb, i⟩ : Int × List Lm × Bool × Nat) => ⟨[(0, .ptr 0 0), (1, .p (.list nl (l.map Ck.pv))), (8, .p (.list nx (xs.map pR))), (10, .buf 1), (11, .p (pI j))], src ns ts i ++ [some (AO.buf 81 nb (m.map Lm.pv))]⟩) (fun (⟨j, m, nb, i⟩ : Int × List Lm × Bool × Nat) => 0 ≤ j ∧ (∀ x ∈ m, LmV l.length x) ∧ (m.length : Int) + j ≤ n ∧ i ≤ ts.length) (fun (⟨j, m, nb, i⟩ : Int × List Lm × Bool × Nat) => j.toNat) (j0, [], true, i3) ?_ ?_ ?_; (refine SubA.thawed _ [2] [8] ?_; refine SubA.auto1 (81, 10) rfl rfl rfl rfl rfl ?_ ?_ <;> repeat' (first | exact trivial | refine And.intro ?_ ?_ | with_reducible rfl | (refine pIEq ?_; exact ar_) | (refine bufMap ?_) | (refine bufNil ?_) | (refine bufEq ?_) | rfl))
  · exact ⟨by omega, by simp, by simp; omega, hi3⟩
  rintro ⟨j, m, nb, i4⟩ ⟨hj, hm, hl, hi4⟩
  try simp only at hj hm hl hi4
  (conv => whnf); repeat' ((first | apply CondA.plain | refine' gC | refine' gpI | refine' gpB | refine' gCkpv | refine' gpR | refine' gLmpv | refine' gE | (apply DrawA.quiet (by kernel_rfl) (by kernel_rfl); (conv => whnf); fail_if_success (show False))) <;> (conv => whnf))
  · refine CallA.loc [0] [] rfl rfl ((N_call ns ts i4 hi4 l.length (by omega)).mono ?_)
    rintro r H ⟨k, i5, hk0, hk1, hi5, rfl, rfl⟩
    have hkl : k < l.length := by omega
    (conv => whnf); repeat' ((first | apply CondA.plain | refine' gC | refine' gpI | refine' gpB | refine' gCkpv | refine' gpR | refine' gLmpv | refine' gE | (apply DrawA.quiet (by kernel_rfl) (by kernel_rfl); (conv => whnf); fail_if_success (show False)) | (refine call_exI (rFloor0_call _ _) ?_) | (intro v hv)) <;> (conv => whnf))
    have hf : 0 ≤ (if (4000000000 : Int) < v then 4000000000 else v) ∧ (if (4000000000 : Int) < v then 4000000000 else v) ≤ 4000000000 := by split <;> omega
    generalize (if (4000000000 : Int) < v then 4000000000 else v) = f at hf ⊢
    (conv => whnf); repeat' ((first | apply CondA.plain | refine' gC | refine' gpI | refine' gpB | refine' gCkpv | refine' gpR | refine' gLmpv | refine' gE | (apply DrawA.quiet (by kernel_rfl) (by kernel_rfl); (conv => whnf); fail_if_success (show False)) | (apply IsL.lit (f := pI) [0, 1, 10, f] rfl)) <;> (conv => whnf))
    refine CallA.loc [0] [2] rfl rfl ((Pick_call ns false ts i5 hi5 [0, 1, 10, f] (by simp) (by simp)).mono ?_)
    rintro r H ⟨w1, i6, hw1, hi6, rfl, rfl⟩
    have hr1 : 0 ≤ w1 ∧ w1 ≤ 4000000000 := by simp at hw1; omega
    (conv => whnf); repeat' ((first | apply CondA.plain | refine' gC | refine' gpI | refine' gpB | refine' gCkpv | refine' gpR | refine' gLmpv | refine' gE | (apply DrawA.quiet (by kernel_rfl) (by kernel_rfl); (conv => whnf); fail_if_success (show False)) | (apply IsL.lit (f := pI) [0, 1, 5, 100] rfl)) <;> (conv => whnf))
    refine CallA.loc [0] [3] rfl rfl ((Pick_call ns false ts i6 hi6 [0, 1, 5, 100] (by simp) (by simp)).mono ?_)
    rintro r H ⟨w2, i7, hw2, hi7, rfl, rfl⟩
    have hr2 : 0 ≤ w2 ∧ w2 ≤ 100 := by simp at hw2; omega
    (conv => whnf); repeat' ((first | apply CondA.plain | refine' gC | refine' gpI | refine' gpB | refine' gCkpv | refine' gpR | refine' gLmpv | refine' gE | (apply DrawA.quiet (by kernel_rfl) (by kernel_rfl); (conv => whnf); fail_if_success (show False))) <;> (conv => whnf))
    (refine' ⟨(j - 1, m ++ [⟨k, if 0 < f - w1 then f - w1 else 0, if f + w2 < 4000000000 then f + w2 else 4000000000⟩], _, i7), _, _, _⟩; rotate_right; (refine SubA.auto rfl rfl rfl rfl ?_ ?_ <;> repeat' (first | exact trivial | refine And.intro ?_ ?_ | with_reducible rfl | (refine pIEq ?_; exact ar_) | (refine bufMap ?_) | (refine bufNil ?_) | (refine bufEq ?_) | rfl)); rotate_right; exact ar2_)
    have e1 : 0 ≤ (if 0 < f - w1 then f - w1 else 0) ∧ (if 0 < f - w1 then f - w1 else 0) ≤ f := by split <;> omega
    have e2 : f ≤ (if f + w2 < 4000000000 then f + w2 else 4000000000) ∧ (if f + w2 < 4000000000 then f + w2 else 4000000000) ≤ 4000000000 := by split <;> omega
    refine ⟨by omega, fun x hx => ?_, by simp; omega, hi7⟩
    rcases List.mem_append.1 hx with hx | hx
    · exact hm x hx
    · simp only [List.mem_singleton] at hx
      subst hx
      exact ⟨⟨hk0, by show k < l.length; omega⟩, e1.1, Int.le_trans e1.2 e2.1, e2.2⟩
  · (refine' RetK.auto (.buf 1) (src ns ts i4 ++ [some (AO.buf 81 nb (m.map Lm.pv))]) rfl rfl rfl rfl _ _ _ <;> repeat' (first | exact trivial | refine And.intro ?_ ?_ | with_reducible rfl | (refine pIEq ?_; exact ar_) | (refine bufMap ?_) | (refine bufNil ?_) | (refine bufEq ?_) | rfl))
    exact ⟨m, nb, i4, hm, by omega, hi4, rfl, rfl⟩
open Go.Abs
set_option maxRecDepth 100000
def raA : Sc := (.take 0 (.frz 1 (.take 2 (.take 3 (.take 4 (.take 5 (.take 6 (.frz 7 (.take 8 (.take 9 (.frz 10 (.take 11 (.take 12 (.one 13 (.take 14 (.take 15 (.take 16 (.take 17 (.take 18 (.take 19 (.take 20 (.take 21 (.take 22 (.frz 23 (.take 24 (.take 25 (.take 26 (.take 27 .done))))))))))))))))))))))))))))
theorem applied_call (a : Rq) (w : Wr) (n : Nat) (hn : n ≤ 16) (h1 : a.r.on.length = n) (h2 : a.r.lev.length = n) (hu : 0 ≤ w.unit ∧ w.unit < n) : ACall Tryz.prog 147 [.p a.pv, .p w.pv] [] fun r' H => ∃ c1 c2, r' = .agg [.buf 0, .buf 1] ∧ H = rlH c1 c2 (applyR a.r w) := by
  refine acall_enter Tryz.func147 rfl rfl tabOK rfl ?_
  (conv => whnf); repeat' ((first | apply CondA.plain | refine' gC | refine' gpI | refine' gpB | refine' gSuppv | refine' gRqpv | refine' gWrpv | refine' gE | (apply DrawA.quiet (by kernel_rfl) (by kernel_rfl); (conv => whnf); fail_if_success (show False))) <;> (conv => whnf))
  refine CallA.loc [] [] rfl rfl ((copied_call a.n1 a.n3 a.r (by omega) (by omega)).mono ?_)
  rintro _ _ ⟨c1, c2, rfl, rfl⟩
  (conv => whnf); repeat' ((first | apply CondA.plain | refine' gC | refine' gpI | refine' gpB | refine' gSuppv | refine' gRqpv | refine' gWrpv | refine' gE | (apply DrawA.quiet (by kernel_rfl) (by kernel_rfl); (conv => whnf); fail_if_success (show False))) <;> (conv => whnf))
  · (refine' RetK.auto (.agg [.buf 0, .buf 1]) (rlH c1 c2 (applyR a.r w)) rfl rfl rfl rfl _ _ _ <;> repeat' (first | exact trivial | refine And.intro ?_ ?_ | with_reducible rfl | (refine pIEq ?_; exact ar_) | (refine bufMap ?_) | (refine bufNil ?_) | (refine bufEq ?_) | rfl))
    · rw [applyR, if_pos (by assumption)]
    · rw [applyR, if_pos (by assumption)]
    · exact ⟨c1, c2, rfl, rfl⟩
  · (refine' RetK.auto (.agg [.buf 0, .buf 1]) (rlH c1 c2 (applyR a.r w)) rfl rfl rfl rfl _ _ _ <;> repeat' (first | exact trivial | refine And.intro ?_ ?_ | with_reducible rfl | (refine pIEq ?_; exact ar_) | (refine bufMap ?_) | (refine bufNil ?_) | (refine bufEq ?_) | rfl))
    · rw [applyR, if_neg (by assumption)]
      rfl
    · rw [applyR, if_neg (by assumption)]
    · exact ⟨c1, c2, rfl, rfl⟩
theorem Apply_call (nl : Bool) (l : List Sup) (a : Rq) (w : Wr) (hl : AllS l) (ha : RlV l a.r) (hw : WrV l w) : ACall Tryz.prog 102 [.p (.list nl (l.map Sup.pv)), .p a.pv, .p w.pv] [] fun r' H => ∃ c1 c2, r' = .tup [.p (Rq.pv ⟨c1, c2, applyR a.r w⟩), .p (pI 0)] ∧ H = [] := by
  refine acall_enter Tryz.func102 rfl rfl tabOK rfl ?_
  (conv => whnf); repeat' ((first | apply CondA.plain | refine' gC | refine' gpI | refine' gpB | refine' gSuppv | refine' gRqpv | refine' gWrpv | refine' gE | ((apply IsL.lit (f := Rq.pv) [a] rfl))) <;> (conv => whnf))
  refine CallA.loc [] [3] rfl rfl ((rbegin_call nl false l [a]).mono ?_)
  rintro _ _ ⟨e, rfl, rfl, he⟩
  have he0 : e = 0 := he.2 ⟨hl, fun q hq => by simp at hq; rcases hq with rfl; exact ha⟩
  subst he0
  obtain ⟨hu, hk⟩ := hw
  have h16 := hl.1
  obtain ⟨u, hu'⟩ := Int.eq_ofNat_of_zero_le hu.1
  have eu : l.getD w.unit.toNat default = l[w.unit.toNat]'(by omega) := getD_at _
  rw [eu] at hk
  have hlv := hl.2.1 _ (List.getElem_mem (show w.unit.toNat < l.length by omega))
  rcases hk with ⟨hk, hk2⟩ | ⟨hk, hk2⟩
  · (conv => whnf); repeat' ((first | apply CondA.plain | refine' gC | refine' gpI | refine' gpB | refine' gSuppv | refine' gRqpv | refine' gWrpv | refine' gE | fail) <;> (conv => whnf))
    refine DrawA.retire 5 1 [pI w.kind, pI w.unit, pI w.value] rfl rfl ?_
    (conv => whnf); repeat' ((first | apply CondA.plain | refine' gC | refine' gpI | refine' gpB | refine' gSuppv | refine' gRqpv | refine' gWrpv | refine' gE | (apply DrawA.orders raA (by kernel_rfl) (by kernel_rfl) (by decide +kernel))) <;> (conv => whnf))
    refine CallA.loc [] [] rfl rfl ((applied_call a w l.length hl.1 ha.1 ha.2.1 hu).mono ?_)
    rintro _ _ ⟨c1, c2, rfl, rfl⟩
    (conv => whnf); repeat' ((first | apply CondA.plain | refine' gC | refine' gpI | refine' gpB | refine' gSuppv | refine' gRqpv | refine' gWrpv | refine' gE | (apply DrawA.quiet (by kernel_rfl) (by kernel_rfl); (conv => whnf); fail_if_success (show False))) <;> (conv => whnf))
    (refine RetK.frz _ _ _ [4, 5] ?_; refine' RetK.auto (.tup [.p (Rq.pv ⟨c1, c2, applyR a.r w⟩), .p (pI 0)]) ([]) rfl rfl rfl rfl _ _ _ <;> repeat' (first | exact trivial | refine And.intro ?_ ?_ | with_reducible rfl | (refine pIEq ?_; exact ar_) | (refine bufMap ?_) | (refine bufNil ?_) | (refine bufEq ?_) | rfl))
    exact ⟨c1, c2, rfl, rfl⟩
  · (conv => whnf); repeat' ((first | apply CondA.plain | refine' gC | refine' gpI | refine' gpB | refine' gSuppv | refine' gRqpv | refine' gWrpv | refine' gE | fail) <;> (conv => whnf))
    refine DrawA.retire 5 1 [pI w.kind, pI w.unit, pI w.value] rfl rfl ?_
    (conv => whnf); repeat' ((first | apply CondA.plain | refine' gC | refine' gpI | refine' gpB | refine' gSuppv | refine' gRqpv | refine' gWrpv | refine' gE | (apply DrawA.orders raA (by kernel_rfl) (by kernel_rfl) (by decide +kernel))) <;> (conv => whnf))
    refine CallA.loc [] [] rfl rfl ((applied_call a w l.length hl.1 ha.1 ha.2.1 hu).mono ?_)
    rintro _ _ ⟨c1, c2, rfl, rfl⟩
    (conv => whnf); repeat' ((first | apply CondA.plain | refine' gC | refine' gpI | refine' gpB | refine' gSuppv | refine' gRqpv | refine' gWrpv | refine' gE | (apply DrawA.quiet (by kernel_rfl) (by kernel_rfl); (conv => whnf); fail_if_success (show False))) <;> (conv => whnf))
    (refine RetK.frz _ _ _ [4, 5] ?_; refine' RetK.auto (.tup [.p (Rq.pv ⟨c1, c2, applyR a.r w⟩), .p (pI 0)]) ([]) rfl rfl rfl rfl _ _ _ <;> repeat' (first | exact trivial | refine And.intro ?_ ?_ | with_reducible rfl | (refine pIEq ?_; exact ar_) | (refine bufMap ?_) | (refine bufNil ?_) | (refine bufEq ?_) | rfl))
    exact ⟨c1, c2, rfl, rfl⟩
open Go.Abs
set_option maxRecDepth 100000
theorem cwithin_call (n lo hi : Int) : ACall Tryz.prog 113 [.p (pI n), .p (pI lo), .p (pI hi)] [] fun r H => r = .p (pB (decide (lo ≤ n ∧ n ≤ hi))) ∧ H = [] := by
  refine acall_enter Tryz.func113 rfl rfl tabOK rfl ?_
  (conv => whnf); repeat' ((first | apply CondA.plain | refine' gC | refine' gpI | refine' gpB | refine' gCkpv | refine' gE | (apply DrawA.quiet (by kernel_rfl) (by kernel_rfl); (conv => whnf); fail_if_success (show False))) <;> (conv => whnf))
  all_goals
    (refine RetK.p ?_ <;> repeat' (first | exact trivial | refine And.intro ?_ ?_ | with_reducible rfl | (refine pIEq ?_; exact ar_) | (refine bufMap ?_) | (refine bufNil ?_) | (refine bufEq ?_) | rfl); all_goals try first | refine pBEq ?_ | refine pIEq ?_)
  · by_cases h : n ≤ hi <;> simp [h] <;> omega
  · simp; omega
theorem cIndex_call (nl : Bool) (xs : List Int) (x : Int) : ACall Tryz.prog 191 [.p (.list nl (xs.map pI)), .p (pI x)] [] fun r H => ∃ v : Int, r = .p (pI v) ∧ H = [] ∧ (0 ≤ v ↔ x ∈ xs) := by
  refine acall_enter Tryz.func191 rfl rfl tabOK rfl ?_
  (conv => whnf); repeat' ((first | apply CondA.plain | refine' gC | refine' gpI | refine' gpB | refine' gCkpv | refine' gE | (apply DrawA.quiet (by kernel_rfl) (by kernel_rfl); (conv => whnf); fail_if_success (show False))) <;> (conv => whnf))
  refine loop_rule (fun (c : Nat) => ⟨[(0, .p (.list nl (xs.map pI))), (1, .p (pI x)), (7, .p (pI xs.length)), (8, .p (pI c))], []⟩) (fun (c : Nat) => c ≤ xs.length ∧ x ∉ xs.take c) (fun (c : Nat) => xs.length - c) 0 ?_ ?_ ?_; (refine SubA.auto rfl rfl rfl rfl ?_ ?_ <;> repeat' (first | exact trivial | refine And.intro ?_ ?_ | with_reducible rfl | (refine pIEq ?_; exact ar_) | (refine bufMap ?_) | (refine bufNil ?_) | (refine bufEq ?_) | rfl))
  · simp
  rintro c ⟨hc, hn⟩
  have ht := fun h => mem_take_succ (xs := xs) (c := c) h x
  (conv => whnf); repeat' ((first | apply CondA.plain | refine' gC | refine' gpI | refine' gpB | refine' gCkpv | refine' gE | (apply DrawA.quiet (by kernel_rfl) (by kernel_rfl); (conv => whnf); fail_if_success (show False))) <;> (conv => whnf))
  · (refine RetK.p ?_ <;> repeat' (first | exact trivial | refine And.intro ?_ ?_ | with_reducible rfl | (refine pIEq ?_; exact ar_) | (refine bufMap ?_) | (refine bufNil ?_) | (refine bufEq ?_) | rfl); all_goals try first | refine pBEq ?_ | refine pIEq ?_)
    exact ⟨_, rfl, rfl, fun _ => by subst_vars; first | exact List.getElem_mem _ | (rename_i h; rw [← h]; exact List.getElem_mem _), fun _ => by omega⟩
  · (refine' ⟨c + 1, _, _, _⟩; rotate_right; (refine SubA.auto rfl rfl rfl rfl ?_ ?_ <;> repeat' (first | exact trivial | refine And.intro ?_ ?_ | with_reducible rfl | (refine pIEq ?_; exact ar_) | (refine bufMap ?_) | (refine bufNil ?_) | (refine bufEq ?_) | rfl)); rotate_right; exact ar2_)
    grind
  · (refine RetK.p ?_ <;> repeat' (first | exact trivial | refine And.intro ?_ ?_ | with_reducible rfl | (refine pIEq ?_; exact ar_) | (refine bufMap ?_) | (refine bufNil ?_) | (refine bufEq ?_) | rfl); all_goals try first | refine pBEq ?_ | refine pIEq ?_)
    have hc' : c = xs.length := by omega
    rw [hc', List.take_length] at hn
    exact ⟨_, rfl, rfl, fun h => by omega, fun h => absurd h hn⟩
theorem cContains_call (nl : Bool) (xs : List Int) (x : Int) : ACall Tryz.prog 174 [.p (.list nl (xs.map pI)), .p (pI x)] [] fun r H => ∃ b : Bool, r = .p (pB b) ∧ H = [] ∧ (b = true ↔ x ∈ xs) := by
  refine acall_enter Tryz.func174 rfl rfl tabOK rfl ?_
  (conv => whnf); repeat' ((first | apply CondA.plain | refine' gC | refine' gpI | refine' gpB | refine' gCkpv | refine' gE | (apply DrawA.quiet (by kernel_rfl) (by kernel_rfl); (conv => whnf); fail_if_success (show False))) <;> (conv => whnf))
  refine CallA.all ((cIndex_call nl xs x).mono ?_)
  rintro r' H' ⟨v, rfl, rfl, hv⟩
  (conv => whnf); repeat' ((first | apply CondA.plain | refine' gC | refine' gpI | refine' gpB | refine' gCkpv | refine' gE | (apply DrawA.quiet (by kernel_rfl) (by kernel_rfl); (conv => whnf); fail_if_success (show False))) <;> (conv => whnf))
  (refine RetK.p ?_ <;> repeat' (first | exact trivial | refine And.intro ?_ ?_ | with_reducible rfl | (refine pIEq ?_; exact ar_) | (refine bufMap ?_) | (refine bufNil ?_) | (refine bufEq ?_) | rfl); all_goals try first | refine pBEq ?_ | refine pIEq ?_)
  exact ⟨_, rfl, rfl, by rw [decide_eq_true_eq]; exact hv⟩
/-- Different numbers in a range. -/
def Diff (xs : List Int) (lo hi : Int) : Prop := ∀ (i : Nat) (h : i < xs.length), (lo ≤ xs[i] ∧ xs[i] ≤ hi) ∧ xs[i] ∉ xs.take i
theorem cdifferent_call (nl : Bool) (xs : List Int) (lo hi : Int) : ACall Tryz.prog 150 [.p (.list nl (xs.map pI)), .p (pI lo), .p (pI hi)] [] fun r H => ∃ b : Bool, r = .p (pB b) ∧ H = [] ∧ (b = true ↔ Diff xs lo hi) := by
  refine acall_enter Tryz.func150 rfl rfl tabOK rfl ?_
  (conv => whnf); repeat' ((first | apply CondA.plain | refine' gC | refine' gpI | refine' gpB | refine' gCkpv | refine' gE | (apply DrawA.quiet (by kernel_rfl) (by kernel_rfl); (conv => whnf); fail_if_success (show False))) <;> (conv => whnf))
  refine loop_rule (fun (c : Nat) => ⟨[(0, .p (.list nl (xs.map pI))), (1, .p (pI lo)), (2, .p (pI hi)), (9, .p (.list nl (xs.map pI))), (10, .p (pI xs.length)), (11, .p (pI c))], []⟩) (fun (c : Nat) => c ≤ xs.length ∧ ∀ (i : Nat) (h : i < xs.length), i < c → (lo ≤ xs[i] ∧ xs[i] ≤ hi) ∧ xs[i] ∉ xs.take i) (fun (c : Nat) => xs.length - c) 0 ?_ ?_ ?_; (refine SubA.auto rfl rfl rfl rfl ?_ ?_ <;> repeat' (first | exact trivial | refine And.intro ?_ ?_ | with_reducible rfl | (refine pIEq ?_; exact ar_) | (refine bufMap ?_) | (refine bufNil ?_) | (refine bufEq ?_) | rfl))
  · exact ⟨by omega, by omega⟩
  rintro c ⟨hc, hok⟩
  rcases Nat.lt_or_ge c xs.length with hlt | hge
  · (conv => whnf); repeat' ((first | apply CondA.plain | refine' gC | refine' gpI | refine' gpB | refine' gCkpv | refine' gE | (apply DrawA.quiet (by kernel_rfl) (by kernel_rfl); (conv => whnf); fail_if_success (show False)) | (refine CallA.scalar (cwithin_call _ _ _) ?_) | ((refine call_exB (cContains_call _ (xs.take c) _) ?_; intro b hb))) <;> (conv => whnf))
    · (refine RetK.p ?_ <;> repeat' (first | exact trivial | refine And.intro ?_ ?_ | with_reducible rfl | (refine pIEq ?_; exact ar_) | (refine bufMap ?_) | (refine bufNil ?_) | (refine bufEq ?_) | rfl); all_goals try first | refine pBEq ?_ | refine pIEq ?_)
      refine ⟨_, rfl, rfl, fun h => (by cases h), fun h => ?_⟩
      exact absurd (h c hlt).1 (of_decide_eq_false h0)
    · (refine RetK.p ?_ <;> repeat' (first | exact trivial | refine And.intro ?_ ?_ | with_reducible rfl | (refine pIEq ?_; exact ar_) | (refine bufMap ?_) | (refine bufNil ?_) | (refine bufEq ?_) | rfl); all_goals try first | refine pBEq ?_ | refine pIEq ?_)
      refine ⟨_, rfl, rfl, fun h => (by cases h), fun h => ?_⟩
      exact absurd (hb.1 h0) (h c hlt).2
    · rename_i hx
      have hb2 := h0
      (refine' ⟨c + 1, _, _, _⟩; rotate_right; (refine SubA.auto rfl rfl rfl rfl ?_ ?_ <;> repeat' (first | exact trivial | refine And.intro ?_ ?_ | with_reducible rfl | (refine pIEq ?_; exact ar_) | (refine bufMap ?_) | (refine bufNil ?_) | (refine bufEq ?_) | rfl)); rotate_right; exact ar2_)
      refine ⟨by omega, fun i h hic => ?_⟩
      rcases Nat.lt_or_ge i c with h1 | h1
      · exact hok i h h1
      · obtain rfl : i = c := by omega
        exact ⟨of_decide_eq_true hx, fun h => by have := hb.2 h; rw [hb2] at this; cases this⟩
  · (conv => whnf); repeat' ((first | apply CondA.plain | refine' gC | refine' gpI | refine' gpB | refine' gCkpv | refine' gE | (apply DrawA.quiet (by kernel_rfl) (by kernel_rfl); (conv => whnf); fail_if_success (show False))) <;> (conv => whnf))
    (refine RetK.p ?_ <;> repeat' (first | exact trivial | refine And.intro ?_ ?_ | with_reducible rfl | (refine pIEq ?_; exact ar_) | (refine bufMap ?_) | (refine bufNil ?_) | (refine bufEq ?_) | rfl); all_goals try first | refine pBEq ?_ | refine pIEq ?_)
    exact ⟨_, rfl, rfl, fun _ i h => hok i h (by omega), fun _ => rfl⟩
def eqA : Sc := (.take 0 (.take 1 (.take 2 (.load 3 (.take 4 (.take 5 (.take 6 (.load 7 (.take 8 .done)))))))))
theorem cEqual_call (nl n2 : Bool) (xs ys : List Int) : ACall Tryz.prog 151 [.p (.list nl (xs.map pI)), .p (.list n2 (ys.map pI))] [] fun r H => ∃ b : Bool, r = .p (pB b) ∧ H = [] ∧ (b = true ↔ xs = ys) := by
  refine acall_enter Tryz.func151 rfl rfl tabOK rfl ?_
  (conv => whnf); repeat' ((first | apply CondA.plain | refine' gC | refine' gpI | refine' gpB | refine' gCkpv | refine' gE | (apply DrawA.quiet (by kernel_rfl) (by kernel_rfl); (conv => whnf); fail_if_success (show False))) <;> (conv => whnf))
  · (refine RetK.p ?_ <;> repeat' (first | exact trivial | refine And.intro ?_ ?_ | with_reducible rfl | (refine pIEq ?_; exact ar_) | (refine bufMap ?_) | (refine bufNil ?_) | (refine bufEq ?_) | rfl); all_goals try first | refine pBEq ?_ | refine pIEq ?_)
    exact ⟨_, rfl, rfl, fun h => (by cases h), fun h => by subst h; omega⟩
  refine loop_rule (fun (c : Nat) => ⟨[(0, .p (.list nl (xs.map pI))), (1, .p (.list n2 (ys.map pI))), (12, .p (pI xs.length)), (13, .p (pI c))], []⟩) (fun (c : Nat) => c ≤ xs.length ∧ xs.take c = ys.take c) (fun (c : Nat) => xs.length - c) 0 ?_ ?_ ?_; (refine SubA.auto rfl rfl rfl rfl ?_ ?_ <;> repeat' (first | exact trivial | refine And.intro ?_ ?_ | with_reducible rfl | (refine pIEq ?_; exact ar_) | (refine bufMap ?_) | (refine bufNil ?_) | (refine bufEq ?_) | rfl))
  · simp
  rintro c ⟨hc, hok⟩
  have hl : xs.length = ys.length := by omega
  rcases Nat.lt_or_ge c xs.length with hlt | hge
  · (conv => whnf); repeat' ((first | apply CondA.plain | refine' gC | refine' gpI | refine' gpB | refine' gCkpv | refine' gE | (apply DrawA.orders eqA (by kernel_rfl) (by kernel_rfl) (by decide +kernel))) <;> (conv => whnf))
    · have hx := h0
      (refine RetK.p ?_ <;> repeat' (first | exact trivial | refine And.intro ?_ ?_ | with_reducible rfl | (refine pIEq ?_; exact ar_) | (refine bufMap ?_) | (refine bufNil ?_) | (refine bufEq ?_) | rfl); all_goals try first | refine pBEq ?_ | refine pIEq ?_)
      refine ⟨_, rfl, rfl, fun h => (by cases h), fun h => ?_⟩
      subst h
      exact absurd rfl hx
    · have hx := h0
      (refine' ⟨c + 1, _, _, _⟩; rotate_right; (refine SubA.auto rfl rfl rfl rfl ?_ ?_ <;> repeat' (first | exact trivial | refine And.intro ?_ ?_ | with_reducible rfl | (refine pIEq ?_; exact ar_) | (refine bufMap ?_) | (refine bufNil ?_) | (refine bufEq ?_) | rfl)); rotate_right; exact ar2_)
      refine ⟨by omega, ?_⟩
      rw [List.take_succ_eq_append_getElem hlt, List.take_succ_eq_append_getElem (by omega), hok, hx]
  · (conv => whnf); repeat' ((first | apply CondA.plain | refine' gC | refine' gpI | refine' gpB | refine' gCkpv | refine' gE | (apply DrawA.quiet (by kernel_rfl) (by kernel_rfl); (conv => whnf); fail_if_success (show False))) <;> (conv => whnf))
    (refine RetK.p ?_ <;> repeat' (first | exact trivial | refine And.intro ?_ ?_ | with_reducible rfl | (refine pIEq ?_; exact ar_) | (refine bufMap ?_) | (refine bufNil ?_) | (refine bufEq ?_) | rfl); all_goals try first | refine pBEq ?_ | refine pIEq ?_)
    have hc' : c = xs.length := by omega
    rw [hc', List.take_length, hl, List.take_length] at hok
    exact ⟨_, rfl, rfl, fun _ => hok, fun _ => rfl⟩

theorem bigger_call (c : Ck) : ACall Tryz.prog 109 [.p c.pv] [] fun r H => ∃ b : Bool, r = .p (pB b) ∧ H = [] ∧ (b = true ↔ ¬ (c.ps.length ≤ 8 ∧ c.cs.length ≤ 8)) := by
  refine acall_enter Tryz.func109 rfl rfl tabOK rfl ?_
  (conv => whnf); repeat' ((first | apply CondA.plain | refine' gC | refine' gpI | refine' gpB | refine' gCkpv | refine' gE | (apply DrawA.quiet (by kernel_rfl) (by kernel_rfl); (conv => whnf); fail_if_success (show False))) <;> (conv => whnf))
  all_goals
    (refine RetK.p ?_ <;> repeat' (first | exact trivial | refine And.intro ?_ ?_ | with_reducible rfl | (refine pIEq ?_; exact ar_) | (refine bufMap ?_) | (refine bufNil ?_) | (refine bufEq ?_) | rfl); all_goals try first | refine pBEq ?_ | refine pIEq ?_)
    refine ⟨_, rfl, rfl, ?_⟩
    simp
    try omega
theorem bigger_index  (nl : Bool) (xs : List Ck)  : ACall Tryz.prog 148 [.p (.list nl (xs.map Ck.pv)), .clo (.func 109) []] [] fun r' H' => ∃ v : Int, r' = .p (pI v) ∧ H' = [] ∧ (0 ≤ v ↔ ∃ x ∈ xs, ¬ (x.ps.length ≤ 8 ∧ x.cs.length ≤ 8)) := by
  refine acall_enter Tryz.func148 rfl rfl tabOK rfl ?_
  (conv => whnf); repeat' ((first | apply CondA.plain | refine' gC | refine' gpI | refine' gpB | refine' gCkpv | refine' gE | (apply DrawA.quiet (by kernel_rfl) (by kernel_rfl); (conv => whnf); fail_if_success (show False))) <;> (conv => whnf))
  refine loop_rule (fun (c : Nat) => ⟨[(0, .p (.list nl (xs.map Ck.pv))), (1, .clo (.func 109) []), (7, .p (pI xs.length)), (8, .p (pI c))], []⟩) (fun (c : Nat) => c ≤ xs.length ∧ ∀ (k : Nat) (h : k < xs.length), k < c → ¬ (fun x => ¬ (x.ps.length ≤ 8 ∧ x.cs.length ≤ 8)) xs[k]) (fun (c : Nat) => xs.length - c) 0 ?_ ?_ ?_; (refine SubA.auto rfl rfl rfl rfl ?_ ?_ <;> repeat' (first | exact trivial | refine And.intro ?_ ?_ | with_reducible rfl | (refine pIEq ?_; exact ar_) | (refine bufMap ?_) | (refine bufNil ?_) | (refine bufEq ?_) | rfl))
  · exact ⟨by omega, by omega⟩
  rintro c ⟨hc, hok⟩
  rcases Nat.lt_or_ge c xs.length with hlt | hge
  · (conv => whnf); repeat' ((first | apply CondA.plain | refine' gC | refine' gpI | refine' gpB | refine' gCkpv | refine' gE | (apply DrawA.quiet (by kernel_rfl) (by kernel_rfl); (conv => whnf); fail_if_success (show False))) <;> (conv => whnf))
    refine CallA.loc [] [] rfl rfl ((bigger_call xs[c]).mono ?_)
    rintro r' H' ⟨b, rfl, rfl, hb⟩
    (conv => whnf); repeat' ((first | apply CondA.plain | refine' gC | refine' gpI | refine' gpB | refine' gCkpv | refine' gE | (apply DrawA.quiet (by kernel_rfl) (by kernel_rfl); (conv => whnf); fail_if_success (show False))) <;> (conv => whnf))
    · (refine' RetK.auto (.p (pI c)) ([]) rfl rfl rfl rfl _ _ _ <;> repeat' (first | exact trivial | refine And.intro ?_ ?_ | with_reducible rfl | (refine pIEq ?_; exact ar_) | (refine bufMap ?_) | (refine bufNil ?_) | (refine bufEq ?_) | rfl))
      exact ⟨_, rfl, rfl, fun _ => ⟨_, List.getElem_mem hlt, hb.1 (by assumption)⟩, fun _ => by omega⟩
    · (refine' ⟨c + 1, _, _, _⟩; rotate_right; (refine SubA.auto rfl rfl rfl rfl ?_ ?_ <;> repeat' (first | exact trivial | refine And.intro ?_ ?_ | with_reducible rfl | (refine pIEq ?_; exact ar_) | (refine bufMap ?_) | (refine bufNil ?_) | (refine bufEq ?_) | rfl)); rotate_right; exact ar2_)
      refine ⟨by omega, fun k hk hkc => ?_⟩
      rcases Nat.lt_or_ge k c with h3 | h3
      · exact hok k hk h3
      · obtain rfl : k = c := by omega
        exact fun h => by have hbf : b = false := (by assumption); rw [hb.2 h] at hbf; cases hbf
  · (conv => whnf); repeat' ((first | apply CondA.plain | refine' gC | refine' gpI | refine' gpB | refine' gCkpv | refine' gE | (apply DrawA.quiet (by kernel_rfl) (by kernel_rfl); (conv => whnf); fail_if_success (show False))) <;> (conv => whnf))
    (refine' RetK.auto (.p (pI (-1))) ([]) rfl rfl rfl rfl _ _ _ <;> repeat' (first | exact trivial | refine And.intro ?_ ?_ | with_reducible rfl | (refine pIEq ?_; exact ar_) | (refine bufMap ?_) | (refine bufNil ?_) | (refine bufEq ?_) | rfl))
    refine ⟨_, rfl, rfl, fun h => (by omega), fun ⟨x, hx, h⟩ => ?_⟩
    obtain ⟨k, hk, rfl⟩ := List.getElem_of_mem hx
    exact absurd h (hok k hk (by omega))
theorem bigger_contains  (nl : Bool) (xs : List Ck)  : ACall Tryz.prog 108 [.p (.list nl (xs.map Ck.pv)), .clo (.func 109) []] [] fun r' H' => ∃ b : Bool, r' = .p (pB b) ∧ H' = [] ∧ (b = true ↔ ∃ x ∈ xs, ¬ (x.ps.length ≤ 8 ∧ x.cs.length ≤ 8)) := by
  refine acall_enter Tryz.func108 rfl rfl tabOK rfl ?_
  (conv => whnf); repeat' ((first | apply CondA.plain | refine' gC | refine' gpI | refine' gpB | refine' gCkpv | refine' gE | (apply DrawA.quiet (by kernel_rfl) (by kernel_rfl); (conv => whnf); fail_if_success (show False))) <;> (conv => whnf))
  refine CallA.all ((bigger_index  nl xs ).mono ?_)
  rintro r' H' ⟨v, rfl, rfl, hv⟩
  (conv => whnf); repeat' ((first | apply CondA.plain | refine' gC | refine' gpI | refine' gpB | refine' gCkpv | refine' gE | (apply DrawA.quiet (by kernel_rfl) (by kernel_rfl); (conv => whnf); fail_if_success (show False))) <;> (conv => whnf))
  (refine' RetK.auto (.p (pB _)) ([]) rfl rfl rfl rfl _ _ _ <;> repeat' (first | exact trivial | refine And.intro ?_ ?_ | with_reducible rfl | (refine pIEq ?_; exact ar_) | (refine bufMap ?_) | (refine bufNil ?_) | (refine bufEq ?_) | rfl))
  exact ⟨_, rfl, rfl, by rw [decide_eq_true_eq]; exact hv⟩

theorem outer_call (i : Nat) (hi : i ≤ 100) (x : Int) : ACall Tryz.prog 149 [.p (pI x), .ptr 0 0] [some (.cells [.p (pI i)])] fun r H => ∃ b : Bool, r = .p (pB b) ∧ H = [some (.cells [.p (pI i)])] ∧ (b = true ↔ ¬ (0 ≤ x ∧ x < i)) := by
  refine acall_enter Tryz.func149 rfl rfl tabOK rfl ?_
  (conv => whnf); repeat' ((first | apply CondA.plain | refine' gC | refine' gpI | refine' gpB | refine' gCkpv | refine' gE | (apply DrawA.quiet (by kernel_rfl) (by kernel_rfl); (conv => whnf); fail_if_success (show False)) | (refine CallA.scalar (cwithin_call _ _ _) ?_)) <;> (conv => whnf))
  (refine' RetK.auto (.p (pB _)) ([some (.cells [.p (pI i)])]) rfl rfl rfl rfl _ _ _ <;> repeat' (first | exact trivial | refine And.intro ?_ ?_ | with_reducible rfl | (refine pIEq ?_; exact ar_) | (refine bufMap ?_) | (refine bufNil ?_) | (refine bufEq ?_) | rfl))
  refine ⟨_, rfl, rfl, ?_⟩
  simp
  omega
theorem outer_index (i : Nat) (hi : i ≤ 100) (nl : Bool) (xs : List Int)  : ACall Tryz.prog 156 [.p (.list nl (xs.map pI)), .clo (.func 149) [.ptr 0 0]] [some (.cells [.p (pI i)])] fun r' H' => ∃ v : Int, r' = .p (pI v) ∧ H' = [some (.cells [.p (pI i)])] ∧ (0 ≤ v ↔ ∃ x ∈ xs, ¬ (0 ≤ x ∧ x < (i : Int))) := by
  refine acall_enter Tryz.func156 rfl rfl tabOK rfl ?_
  (conv => whnf); repeat' ((first | apply CondA.plain | refine' gC | refine' gpI | refine' gpB | refine' gCkpv | refine' gE | (apply DrawA.quiet (by kernel_rfl) (by kernel_rfl); (conv => whnf); fail_if_success (show False))) <;> (conv => whnf))
  refine loop_rule (fun (c : Nat) => ⟨[(0, .p (.list nl (xs.map pI))), (1, .clo (.func 149) [.ptr 0 0]), (7, .p (pI xs.length)), (8, .p (pI c))], [some (.cells [.p (pI i)])]⟩) (fun (c : Nat) => c ≤ xs.length ∧ ∀ (k : Nat) (h : k < xs.length), k < c → ¬ (fun x => ¬ (0 ≤ x ∧ x < (i : Int))) xs[k]) (fun (c : Nat) => xs.length - c) 0 ?_ ?_ ?_; (refine SubA.auto rfl rfl rfl rfl ?_ ?_ <;> repeat' (first | exact trivial | refine And.intro ?_ ?_ | with_reducible rfl | (refine pIEq ?_; exact ar_) | (refine bufMap ?_) | (refine bufNil ?_) | (refine bufEq ?_) | rfl))
  · exact ⟨by omega, by omega⟩
  rintro c ⟨hc, hok⟩
  rcases Nat.lt_or_ge c xs.length with hlt | hge
  · (conv => whnf); repeat' ((first | apply CondA.plain | refine' gC | refine' gpI | refine' gpB | refine' gCkpv | refine' gE | (apply DrawA.quiet (by kernel_rfl) (by kernel_rfl); (conv => whnf); fail_if_success (show False))) <;> (conv => whnf))
    refine CallA.loc [0] [] rfl rfl ((outer_call i hi xs[c]).mono ?_)
    rintro r' H' ⟨b, rfl, rfl, hb⟩
    (conv => whnf); repeat' ((first | apply CondA.plain | refine' gC | refine' gpI | refine' gpB | refine' gCkpv | refine' gE | (apply DrawA.quiet (by kernel_rfl) (by kernel_rfl); (conv => whnf); fail_if_success (show False))) <;> (conv => whnf))
    · (refine' RetK.auto (.p (pI c)) ([some (.cells [.p (pI i)])]) rfl rfl rfl rfl _ _ _ <;> repeat' (first | exact trivial | refine And.intro ?_ ?_ | with_reducible rfl | (refine pIEq ?_; exact ar_) | (refine bufMap ?_) | (refine bufNil ?_) | (refine bufEq ?_) | rfl))
      exact ⟨_, rfl, rfl, fun _ => ⟨_, List.getElem_mem hlt, hb.1 (by assumption)⟩, fun _ => by omega⟩
    · (refine' ⟨c + 1, _, _, _⟩; rotate_right; (refine SubA.auto rfl rfl rfl rfl ?_ ?_ <;> repeat' (first | exact trivial | refine And.intro ?_ ?_ | with_reducible rfl | (refine pIEq ?_; exact ar_) | (refine bufMap ?_) | (refine bufNil ?_) | (refine bufEq ?_) | rfl)); rotate_right; exact ar2_)
      refine ⟨by omega, fun k hk hkc => ?_⟩
      rcases Nat.lt_or_ge k c with h3 | h3
      · exact hok k hk h3
      · obtain rfl : k = c := by omega
        exact fun h => by have hbf : b = false := (by assumption); rw [hb.2 h] at hbf; cases hbf
  · (conv => whnf); repeat' ((first | apply CondA.plain | refine' gC | refine' gpI | refine' gpB | refine' gCkpv | refine' gE | (apply DrawA.quiet (by kernel_rfl) (by kernel_rfl); (conv => whnf); fail_if_success (show False))) <;> (conv => whnf))
    (refine' RetK.auto (.p (pI (-1))) ([some (.cells [.p (pI i)])]) rfl rfl rfl rfl _ _ _ <;> repeat' (first | exact trivial | refine And.intro ?_ ?_ | with_reducible rfl | (refine pIEq ?_; exact ar_) | (refine bufMap ?_) | (refine bufNil ?_) | (refine bufEq ?_) | rfl))
    refine ⟨_, rfl, rfl, fun h => (by omega), fun ⟨x, hx, h⟩ => ?_⟩
    obtain ⟨k, hk, rfl⟩ := List.getElem_of_mem hx
    exact absurd h (hok k hk (by omega))
theorem outer_contains (i : Nat) (hi : i ≤ 100) (nl : Bool) (xs : List Int)  : ACall Tryz.prog 116 [.p (.list nl (xs.map pI)), .clo (.func 149) [.ptr 0 0]] [some (.cells [.p (pI i)])] fun r' H' => ∃ b : Bool, r' = .p (pB b) ∧ H' = [some (.cells [.p (pI i)])] ∧ (b = true ↔ ∃ x ∈ xs, ¬ (0 ≤ x ∧ x < (i : Int))) := by
  refine acall_enter Tryz.func116 rfl rfl tabOK rfl ?_
  (conv => whnf); repeat' ((first | apply CondA.plain | refine' gC | refine' gpI | refine' gpB | refine' gCkpv | refine' gE | (apply DrawA.quiet (by kernel_rfl) (by kernel_rfl); (conv => whnf); fail_if_success (show False))) <;> (conv => whnf))
  refine CallA.all ((outer_index i hi nl xs ).mono ?_)
  rintro r' H' ⟨v, rfl, rfl, hv⟩
  (conv => whnf); repeat' ((first | apply CondA.plain | refine' gC | refine' gpI | refine' gpB | refine' gCkpv | refine' gE | (apply DrawA.quiet (by kernel_rfl) (by kernel_rfl); (conv => whnf); fail_if_success (show False))) <;> (conv => whnf))
  (refine' RetK.auto (.p (pB _)) ([some (.cells [.p (pI i)])]) rfl rfl rfl rfl _ _ _ <;> repeat' (first | exact trivial | refine And.intro ?_ ?_ | with_reducible rfl | (refine pIEq ?_; exact ar_) | (refine bufMap ?_) | (refine bufNil ?_) | (refine bufEq ?_) | rfl))
  exact ⟨_, rfl, rfl, by rw [decide_eq_true_eq]; exact hv⟩

open Go.Abs
set_option maxRecDepth 100000
/-- A valid clock with an index. -/
def CkW (c : Ck) (i : Nat) : Prop := (∀ x ∈ c.ps, 0 ≤ x ∧ x < (i : Int)) ∧ (0 ≤ c.hi ∧ c.hi ≤ 4000000000) ∧ (0 ≤ c.lo ∧ c.lo ≤ c.hi) ∧
  ((c.kind = 1 ∧ c.ps.length = 0 ∧ c.cs.length = 1 ∧ 1 ≤ c.cs.getD 0 0 ∧ c.cs.getD 0 0 ≤ 4000000000) ∨ ((c.kind = 2 ∨ c.kind = 3) ∧ c.ps.length = 1 ∧ 0 < c.cs.length ∧ Diff c.cs 1 64) ∨
    (c.kind = 4 ∧ 0 < c.cs.length ∧ Diff c.cs 0 (c.ps.length - 1)) ∨ (c.kind = 5 ∧ c.ps.length = 1 ∧ c.cs = [0, 1]))
set_option maxHeartbeats 2000000 in
theorem cvalid_call (c : Ck) (i : Nat) (hi : i ≤ 16) : ACall Tryz.prog 110 [.p c.pv, .p (pI i)] [] fun r H => ∃ b : Bool, r = .p (pB b) ∧ H = [] ∧ (b = true ↔ CkW c i) := by
  refine acall_enter Tryz.func110 rfl rfl tabOK rfl ?_
  (conv => whnf); repeat' ((first | apply CondA.plain | refine' gC | refine' gpI | refine' gpB | refine' gCkpv | refine' gE | (apply DrawA.quiet (by kernel_rfl) (by kernel_rfl); (conv => whnf); fail_if_success (show False))) <;> (conv => whnf))
  refine CallA.loc [1] [] rfl rfl ((outer_contains i (by omega) c.pn c.ps).mono ?_)
  rintro _ _ ⟨b0, rfl, rfl, hb0⟩
  cases b0
  rotate_left
  · (conv => whnf); repeat' ((first | apply CondA.plain | refine' gC | refine' gpI | refine' gpB | refine' gCkpv | refine' gE | (apply DrawA.quiet (by kernel_rfl) (by kernel_rfl); (conv => whnf); fail_if_success (show False)) | (refine CallA.scalar (cwithin_call _ _ _) ?_)) <;> (conv => whnf))
    all_goals
      (refine RetK.p ?_ <;> repeat' (first | exact trivial | refine And.intro ?_ ?_ | with_reducible rfl | (refine pIEq ?_; exact ar_) | (refine bufMap ?_) | (refine bufNil ?_) | (refine bufEq ?_) | rfl); all_goals try first | refine pBEq ?_ | refine pIEq ?_)
      exact ⟨_, rfl, rfl, fun h => (by cases h), fun h => by obtain ⟨x, hx, hn⟩ := hb0.1 rfl; exact absurd (h.1 x hx) hn⟩
  have hps : ∀ x ∈ c.ps, 0 ≤ x ∧ x < (i : Int) := fun x hx => by
    by_cases h : 0 ≤ x ∧ x < (i : Int)
    · exact h
    · have := hb0.2 ⟨x, hx, h⟩
      cases this
  clear hb0
  (conv => whnf); repeat' ((first | apply CondA.plain | refine' gC | refine' gpI | refine' gpB | refine' gCkpv | refine' gE | (apply DrawA.quiet (by kernel_rfl) (by kernel_rfl); (conv => whnf); fail_if_success (show False)) | (refine CallA.scalar (cwithin_call _ _ _) ?_) | ((refine call_exB (cdifferent_call _ _ _ _) ?_; intro b hb)) | ((apply IsL.lit (f := pI) [0, 1] rfl))) <;> (conv => whnf))
  all_goals try
    refine CallA.loc [] [2] rfl rfl ((cEqual_call c.cn false c.cs [0, 1]).mono ?_)
    rintro _ _ ⟨b, rfl, rfl, hb⟩
    (conv => whnf); repeat' ((first | apply CondA.plain | refine' gC | refine' gpI | refine' gpB | refine' gCkpv | refine' gE | (apply DrawA.quiet (by kernel_rfl) (by kernel_rfl); (conv => whnf); fail_if_success (show False))) <;> (conv => whnf))
  all_goals
    (refine RetK.p ?_ <;> repeat' (first | exact trivial | refine And.intro ?_ ?_ | with_reducible rfl | (refine pIEq ?_; exact ar_) | (refine bufMap ?_) | (refine bufNil ?_) | (refine bufEq ?_) | rfl); all_goals try first | refine pBEq ?_ | refine pIEq ?_)
    refine ⟨_, rfl, rfl, ?_⟩
    have hg : ∀ (h : 0 < c.cs.length), c.cs.getD 0 0 = c.cs[0] := fun h => getD_at h
    generalize hd1 : Diff c.cs 1 64 = D1 at *
    generalize hd2 : Diff c.cs 0 (c.ps.length - 1) = D2 at *
    unfold CkW
    simp only [hd1, hd2, decide_eq_true_eq, decide_eq_false_iff_not] at *
    try grind
  all_goals skip
end Go.Proofs.YtbcndmkgjdoojaaGreatDoor
