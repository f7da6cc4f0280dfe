/- Pinning: the theory of cores and of most demands. -/
import Derived.Test.YtnogpkaehiapfaapgT
import Derived.Test.YtnogpkaehiapfaapgA
namespace Go.Proofs.Ytnogpkaehiapfaa
set_option linter.unusedSimpArgs false
set_option linter.unusedVariables false
set_option linter.unnecessarySimpa false
open Go.Abs
/-- Two ascending lists with the same members. -/
theorem asc_eq : ∀ {a b : List Int}, a.Pairwise (· < ·) → b.Pairwise (· < ·) → (∀ x, x ∈ a ↔ x ∈ b) → a = b
  | [], [], _, _, _ => rfl
  | [], y :: b, _, _, h => by have := (h y).2 List.mem_cons_self; cases this
  | x :: a, [], _, _, h => by have := (h x).1 List.mem_cons_self; cases this
  | x :: a, y :: b, ha, hb, h => by
    have ha' := List.pairwise_cons.1 ha
    have hb' := List.pairwise_cons.1 hb
    have hxy : x = y := by
      have h1 := (h x).1 List.mem_cons_self
      have h2 := (h y).2 List.mem_cons_self
      rcases List.mem_cons.1 h1 with e | h1
      · exact e
      rcases List.mem_cons.1 h2 with e | h2
      · exact e.symm
      have := hb'.1 x h1
      have := ha'.1 y h2
      omega
    subst hxy
    rw [asc_eq ha'.2 hb'.2 fun z => ?_]
    constructor
    · intro hz
      have := ha'.1 z hz
      rcases List.mem_cons.1 ((h z).1 (List.mem_cons_of_mem _ hz)) with e | h2
      · omega
      · exact h2
    · intro hz
      have := hb'.1 z hz
      rcases List.mem_cons.1 ((h z).2 (List.mem_cons_of_mem _ hz)) with e | h2
      · omega
      · exact h2
theorem upF_asc (a b : Nat) : (upF a b).Pairwise (· < ·) := by
  unfold upF
  rw [List.pairwise_map]
  refine (List.pairwise_lt_range (n := b - a)).imp ?_
  intro i j h
  omega
theorem upF_mem {a b : Nat} {x : Int} : x ∈ upF a b ↔ (a : Int) ≤ x ∧ x < b := by
  unfold upF
  constructor
  · intro h
    obtain ⟨i, hi, rfl⟩ := List.mem_map.1 h
    have := List.mem_range.1 hi
    omega
  · intro h
    exact List.mem_map.2 ⟨(x - a).toNat, List.mem_range.2 (by omega), by omega⟩
theorem optsI_sub {opts : List (List Int)} {a b : List Int} (h : List.Sublist a b) : List.Sublist (optsI opts a) (optsI opts b) := h.map _
theorem optsI_up (opts : List (List Int)) : optsI opts (upF 0 opts.length) = opts := by
  refine List.ext_getElem (by simp [optsI, upF]) fun i h1 h2 => ?_
  simp only [optsI, upF, List.getElem_map, List.getElem_range, Int.toNat_natCast, Nat.zero_add]
  rw [List.getD_eq_getElem?_getD, List.getElem?_eq_getElem h2]; rfl
/-- What is known while a core is made. -/
structure CoreI (gs : List Grp) (opts : List (List Int)) (left : List Int) (c : Nat) : Prop where
  sub : List.Sublist left (upF 0 opts.length)
  no : srch gs (optsI opts left) [] = none
  yes : ∀ d : Int, 0 ≤ d → d < c → d ∈ left → (srch gs (optsI opts (left.filter (keepC d))) []).isSome = true
theorem CoreI.step {gs : List Grp} {opts : List (List Int)} {left : List Int} {c : Nat} (h : CoreI gs opts left c) : CoreI gs opts (coreS gs opts left c) (c + 1) := by
  unfold coreS
  split
  · rename_i hs
    refine ⟨h.sub, h.no, fun d h0 hd hm => ?_⟩
    rcases Int.lt_or_le d c with h1 | h1
    · exact h.yes d h0 h1 hm
    · obtain rfl : d = c := by omega
      exact hs
  · rename_i hs
    refine ⟨List.filter_sublist.trans h.sub, by simpa using hs, fun d h0 hd hm => ?_⟩
    have hm := List.mem_filter.1 hm
    have hne : d ≠ c := of_decide_eq_true hm.2
    exact sat_sub (optsI_sub (List.Sublist.filter _ List.filter_sublist)) (fun u hu => hu) (h.yes d h0 (by omega) hm.1)
theorem coreL_inv {gs : List Grp} {opts : List (List Int)} (h : srch gs opts [] = none) : ∀ n, CoreI gs opts (coreL gs opts n) n
  | 0 => ⟨List.Sublist.refl _, by rw [show coreL gs opts 0 = upF 0 opts.length from rfl, optsI_up]; exact h, fun d h0 hd => by omega⟩
  | n + 1 => by rw [coreL_succ]; exact (coreL_inv h n).step
/-- Without one of its elements a core has an assignment. -/
theorem CoreI.less {gs : List Grp} {opts : List (List Int)} {left : List Int} (h : CoreI gs opts left opts.length) {i : Nat} (hi : i < left.length) : (srch gs (optsI opts (left.take i ++ left.drop (i + 1))) []).isSome = true := by
  have hp := (upF_asc 0 opts.length).sublist h.sub
  have hm := upF_mem.1 (h.sub.subset (List.getElem_mem hi))
  have hs := h.yes left[i] (by omega) (by omega) (List.getElem_mem hi)
  refine sat_sub (optsI_sub (b := left.filter (keepC left[i])) ?_) (fun u hu => hu) hs
  have e : (left.take i ++ left.drop (i + 1)).filter (keepC left[i]) = left.take i ++ left.drop (i + 1) := by
    refine List.filter_eq_self.2 fun x hx => decide_eq_true ?_
    have hg := List.pairwise_iff_getElem.1 hp
    rcases List.mem_append.1 hx with hx | hx
    · obtain ⟨k, hk, rfl⟩ := List.getElem_of_mem hx
      rw [List.length_take] at hk
      rw [List.getElem_take]
      have := hg k i (by omega) hi (by omega)
      omega
    · obtain ⟨k, hk, rfl⟩ := List.getElem_of_mem hx
      rw [List.length_drop] at hk
      rw [List.getElem_drop]
      have := hg i (i + 1 + k) hi (by omega) (by omega)
      omega
  rw [← e]
  refine List.Sublist.filter _ ?_
  have hl : left = left.take i ++ left.drop i := (List.take_append_drop i left).symm
  conv => rhs; rw [hl]
  refine List.Sublist.append_left ?_ _
  rw [List.drop_eq_getElem_cons hi]
  exact List.sublist_cons_self _ _
/-- One list of the same length is less. -/
def lexLt : List Int → List Int → Bool
  | a :: r, b :: s => decide (a < b) || decide (a = b) && lexLt r s
  | _, _ => false
theorem lex_total : ∀ {a b : List Int}, a.length = b.length → lexLt a b = false → lexLt b a = false → a = b
  | [], [], _, _, _ => rfl
  | [], _ :: _, h, _, _ => by simp at h
  | _ :: _, [], h, _, _ => by simp at h
  | a :: r, b :: s, h, h1, h2 => by
    simp only [lexLt, Bool.or_eq_false_iff, decide_eq_false_iff_not, Bool.and_eq_false_iff] at h1 h2
    obtain rfl : a = b := by omega
    rcases h1.2 with h3 | h3
    · exact absurd rfl h3
    rcases h2.2 with h4 | h4
    · exact absurd rfl h4
    rw [lex_total (by simpa using h) h3 h4]
/-- Demands that can be met together. -/
def satI (gs : List Grp) (opts : List (List Int)) (x : List Int) : Bool := (srch gs (optsI opts x) []).isSome
/-- Ascending from one number on. -/
structure AscF (a n : Nat) (x : List Int) : Prop where
  pw : x.Pairwise (· < ·)
  rng : ∀ y ∈ x, (a : Int) ≤ y ∧ y < n
structure IsMost (gs : List Grp) (opts : List (List Int)) (m : List Int) : Prop where
  asc : AscF 0 opts.length m
  sat : satI gs opts m = true
  best : ∀ x, AscF 0 opts.length x → satI gs opts x = true → x.length < m.length ∨ x.length = m.length ∧ lexLt x m = false
theorem IsMost.unique {gs : List Grp} {opts : List (List Int)} {m k : List Int} (h : IsMost gs opts m) (h2 : IsMost gs opts k) : m = k := by
  have h3 := h.best k h2.asc h2.sat
  have h4 := h2.best m h.asc h.sat
  exact lex_total (by omega) (by rcases h4 with h4 | h4; (exfalso; rcases h3 with h3 | h3 <;> omega); exact h4.2) (by rcases h3 with h3 | h3; (exfalso; rcases h4 with h4 | h4 <;> omega); exact h3.2)
/-- Lists of demands that are completed. -/
def chosenF (sat : List Int → Bool) (n : Nat) : Nat → List Int → Nat → Option (List Int)
  | 0, l, _ => if sat l then some l else none
  | k + 1, l, f => if sat l then (List.range (n - k - f)).findSome? (fun i => chosenF sat n k (l ++ [((f + i : Nat) : Int)]) (f + i + 1)) else none
theorem findR_some {β : Type} {f : Nat → Option β} {m : Nat} {b : β} (h : (List.range m).findSome? f = some b) : ∃ i, i < m ∧ f i = some b ∧ ∀ j, j < i → f j = none := by
  induction m with
  | zero => cases h
  | succ m ih =>
    rw [List.range_succ, List.findSome?_append] at h
    cases h1 : (List.range m).findSome? f with
    | some c =>
      rw [h1] at h
      obtain ⟨i, h2, h3, h4⟩ := ih (by rw [h1]; exact h)
      exact ⟨i, by omega, h3, h4⟩
    | none =>
      rw [h1] at h
      have hn := List.findSome?_eq_none_iff.1 h1
      refine ⟨m, by omega, ?_, fun j hj => hn j (List.mem_range.2 hj)⟩
      rw [Option.none_or, List.findSome?_cons] at h
      split at h
      · rename_i e; rw [e]; exact h
      · cases h
theorem AscF.cons {a n : Nat} {d : Int} {t : List Int} (h : AscF a n (d :: t)) : ∃ D : Nat, d = D ∧ a ≤ D ∧ D < n ∧ AscF (D + 1) n t := by
  have h1 := h.rng d List.mem_cons_self
  have hp := List.pairwise_cons.1 h.pw
  refine ⟨d.toNat, by omega, by omega, by omega, hp.2, fun y hy => ?_⟩
  have := hp.1 y hy
  have := h.rng y (List.mem_cons_of_mem _ hy)
  omega
theorem AscF.len {n : Nat} : ∀ {t : List Int} {a : Nat}, AscF a n t → t.length ≤ n - a
  | [], _, _ => Nat.zero_le _
  | d :: t, a, h => by
    obtain ⟨D, _, h2, h3, h4⟩ := h.cons
    have := h4.len
    simp only [List.length_cons]
    omega
theorem chosen_spec {sat : List Int → Bool} {n : Nat} (hm : ∀ l t, sat (l ++ t) = true → sat l = true) : ∀ (k : Nat) (l : List Int) (f : Nat),
    (∀ r, chosenF sat n k l f = some r → ∃ t, r = l ++ t ∧ t.length = k ∧ AscF f n t ∧ sat r = true ∧ ∀ t', t'.length = k → AscF f n t' → sat (l ++ t') = true → lexLt t' t = false) ∧
    (chosenF sat n k l f = none → ∀ t', t'.length = k → AscF f n t' → sat (l ++ t') = false)
  | 0, l, f => by
    refine ⟨fun r h => ?_, fun h t' ht _ => ?_⟩
    · rw [chosenF] at h
      split at h
      · rename_i hs
        injection h with h
        subst h
        refine ⟨[], by simp, rfl, ⟨List.Pairwise.nil, fun y hy => by cases hy⟩, hs, fun t' ht _ _ => ?_⟩
        rw [List.eq_nil_of_length_eq_zero ht]; rfl
      · cases h
    · rw [List.eq_nil_of_length_eq_zero ht, List.append_nil]
      rw [chosenF] at h
      split at h
      · cases h
      · rename_i hs; simpa using hs
  | k + 1, l, f => by
    have IH := fun (d : Nat) => chosen_spec (n := n) hm k (l ++ [((d : Nat) : Int)]) (d + 1)
    refine ⟨fun r h => ?_, fun h t' ht ha => ?_⟩
    · rw [chosenF] at h
      split at h
      · obtain ⟨i, hi, hr, hj⟩ := findR_some h
        obtain ⟨t, h1, h2, h3, h4, h5⟩ := (IH (f + i)).1 r hr
        refine ⟨((f + i : Nat) : Int) :: t, by rw [h1]; simp, by simp [h2], ⟨List.pairwise_cons.2 ⟨fun y hy => by have := h3.rng y hy; omega, h3.pw⟩, fun y hy => ?_⟩, h4, fun t' ht ha hs => ?_⟩
        · rcases List.mem_cons.1 hy with rfl | hy
          · omega
          · have := h3.rng y hy; omega
        · cases t' with
          | nil => simp at ht
          | cons d t' =>
            obtain ⟨D, rfl, hD1, hD2, hD3⟩ := ha.cons
            have hl := hD3.len
            replace ht : t'.length = k := by simpa using ht
            have e : l ++ (D : Int) :: t' = (l ++ [(D : Int)]) ++ t' := by simp
            rw [e] at hs
            rcases Nat.lt_trichotomy D (f + i) with h6 | h6 | h6
            · have := (IH D).2 (by have := hj (D - f) (by omega); simpa only [Nat.add_sub_cancel' hD1] using this) t' ht hD3
              rw [this] at hs; cases hs
            · subst h6
              have := h5 t' ht hD3 hs
              simp [lexLt, this]
            · have hne : ¬ ((D : Int) < ((f + i : Nat) : Int)) := by omega
              have hne2 : ¬ ((D : Int) = ((f + i : Nat) : Int)) := by omega
              simp only [lexLt, Bool.or_eq_false_iff, Bool.and_eq_false_iff, decide_eq_false_iff_not]
              exact ⟨hne, .inl hne2⟩
      · cases h
    · cases t' with
      | nil => simp at ht
      | cons d t' =>
        obtain ⟨D, rfl, hD1, hD2, hD3⟩ := ha.cons
        have hl := hD3.len
        replace ht : t'.length = k := by simpa using ht
        rw [chosenF] at h
        split at h
        · have := List.findSome?_eq_none_iff.1 h (D - f) (List.mem_range.2 (by omega))
          have := (IH D).2 (by simpa only [Nat.add_sub_cancel' hD1] using this) t' ht hD3
          rw [← this]; simp
        · rename_i hs
          refine Bool.eq_false_iff.2 fun h2 => hs (hm _ _ h2)
theorem satI_pre {gs : List Grp} {opts : List (List Int)} : ∀ l t, satI gs opts (l ++ t) = true → satI gs opts l = true := fun l t h => sat_sub (optsI_sub (List.sublist_append_left l t)) (fun u hu => hu) h
/-- What Most answers: the least list of the greatest size. -/
def mostL (sat : List Int → Bool) (n : Nat) : Nat → List Int
  | 0 => []
  | k + 1 => match chosenF sat n (k + 1) [] 0 with
    | some r => r
    | none => mostL sat n k
theorem AscF.take {a n : Nat} {x : List Int} (h : AscF a n x) (k : Nat) : AscF a n (x.take k) := ⟨h.pw.sublist (List.take_sublist _ _), fun y hy => h.rng y (List.mem_of_mem_take hy)⟩
theorem mostL_spec {gs : List Grp} {opts : List (List Int)} : ∀ (k : Nat), (∀ x, AscF 0 opts.length x → satI gs opts x = true → x.length ≤ k) → IsMost gs opts (mostL (satI gs opts) opts.length k)
  | 0, h => ⟨⟨List.Pairwise.nil, fun y hy => by cases hy⟩, rfl, fun x hx hs => .inr ⟨by have := h x hx hs; simp [mostL]; exact List.eq_nil_of_length_eq_zero (by omega), by have := h x hx hs; rw [List.eq_nil_of_length_eq_zero (by omega : x.length = 0)]; rfl⟩⟩
  | k + 1, h => by
    have hc := chosen_spec (sat := satI gs opts) (n := opts.length) satI_pre (k + 1) [] 0
    rw [mostL]
    cases hr : chosenF (satI gs opts) opts.length (k + 1) [] 0 with
    | some r =>
      obtain ⟨t, e, h1, h2, h3, h4⟩ := hc.1 r hr
      rw [List.nil_append] at e
      subst e
      show IsMost gs opts r
      refine ⟨h2, h3, fun x hx hs => ?_⟩
      have := h x hx hs
      rcases Nat.lt_or_ge x.length (k + 1) with h5 | h5
      · exact .inl (by omega)
      · exact .inr ⟨by omega, h4 x (by omega) hx hs⟩
    | none =>
      refine mostL_spec k fun x hx hs => ?_
      have := h x hx hs
      refine Nat.le_of_lt_succ (Nat.lt_of_le_of_ne this fun e => ?_)
      have := hc.2 hr x e hx
      rw [List.nil_append, hs] at this
      cases this
def mostF (p : Pin) (l : List ByteArray) : List Int × Int := if badF p l [] ≠ 0 then ([], badF p l []) else (mostL (satI p.gs (optsL p l)) l.length l.length, 0)
theorem mostL_is {p : Pin} {l : List ByteArray} : IsMost p.gs (optsL p l) (mostL (satI p.gs (optsL p l)) l.length l.length) := by
  have := mostL_spec (gs := p.gs) (opts := optsL p l) l.length fun x hx _ => by
    have := hx.len
    rw [opts_len] at this
    omega
  rwa [opts_len] at this
theorem sat_cons {gs : List Grp} {o : List Int} {r : List (List Int)} {us : List Int} : (srch gs (o :: r) us).isSome = true ↔ ∃ g ∈ o, freeG_ gs us g = true ∧ (srch gs r (us ++ [g])).isSome = true := by
  rw [srch, List.findSome?_isSome_iff]
  constructor
  · rintro ⟨g, hg, h⟩
    split at h
    · rename_i hf
      rw [Option.isSome_map] at h
      exact ⟨g, hg, hf, h⟩
    · cases h
  · rintro ⟨g, hg, hf, h⟩
    exact ⟨g, hg, by rw [if_pos hf, Option.isSome_map]; exact h⟩
theorem sat_mem {gs : List Grp} {a : List (List Int)} {us vs : List Int} (h : ∀ u ∈ vs, u ∈ us) (hs : (srch gs a us).isSome = true) : (srch gs a vs).isSome = true := sat_sub (List.Sublist.refl _) h hs
/-- The order of demands does not matter. -/
theorem sat_perm {gs : List Grp} {a b : List (List Int)} (h : a.Perm b) : ∀ us : List Int, (srch gs a us).isSome = true ↔ (srch gs b us).isSome = true := by
  have swap : ∀ (x y : List Int) (l : List (List Int)) (us : List Int), (srch gs (y :: x :: l) us).isSome = true → (srch gs (x :: y :: l) us).isSome = true := fun x y l us h => by
    obtain ⟨g, hg, hf, h⟩ := sat_cons.1 h
    obtain ⟨k, hk, hf2, h⟩ := sat_cons.1 h
    have hf2 := freeG_iff.1 hf2
    refine sat_cons.2 ⟨k, hk, freeG_iff.2 fun u hu => hf2 u (List.mem_append_left _ hu), sat_cons.2 ⟨g, hg, freeG_iff.2 fun u hu => ?_, sat_mem (fun u hu => ?_) h⟩⟩
    · rcases List.mem_append.1 hu with hu | hu
      · exact freeG_iff.1 hf u hu
      · rw [List.mem_singleton.1 hu]; exact apartG_comm (hf2 g (by simp))
    · simp only [List.mem_append, List.mem_singleton] at hu ⊢
      rcases hu with (hu | hu) | hu
      · exact .inl (.inl hu)
      · exact .inr hu
      · exact .inl (.inr hu)
  induction h with
  | nil => intro us; exact Iff.rfl
  | cons x _ ih =>
    intro us
    rw [sat_cons, sat_cons]
    exact ⟨fun ⟨g, hg, hf, h⟩ => ⟨g, hg, hf, (ih _).1 h⟩, fun ⟨g, hg, hf, h⟩ => ⟨g, hg, hf, (ih _).2 h⟩⟩
  | swap x y l => exact fun us => ⟨swap x y l us, swap y x l us⟩
  | trans _ _ i1 i2 => exact fun us => (i1 us).trans (i2 us)
/-- No greater list has an assignment. -/
theorem IsMost.more {gs : List Grp} {opts : List (List Int)} {m : List Int} (h : IsMost gs opts m) {i : Nat} (hi : i < opts.length) (hn : (i : Int) ∉ m) : satI gs opts (m ++ [(i : Int)]) = false := by
  refine Bool.eq_false_iff.2 fun hs => ?_
  have hp : (m.filter (fun x => decide (x < (i : Int))) ++ (i : Int) :: m.filter (fun x => decide ((i : Int) < x))).Perm (m ++ [(i : Int)]) := by
    refine List.Perm.trans List.perm_middle ?_
    refine List.Perm.trans ?_ (List.perm_append_comm (l₁ := [(i : Int)]))
    refine List.Perm.cons _ ?_
    have e : m.filter (fun x => decide ((i : Int) < x)) = m.filter (fun x => !decide (x < (i : Int))) := by
      refine List.filter_congr fun x hx => ?_
      rw [Bool.eq_iff_iff]
      have : x ≠ i := fun e => hn (e ▸ hx)
      simp
      omega
    rw [e]
    exact List.filter_append_perm _ _
  obtain ⟨x, hx⟩ : ∃ x, m.filter (fun x => decide (x < (i : Int))) ++ (i : Int) :: m.filter (fun x => decide ((i : Int) < x)) = x := ⟨_, rfl⟩
  rw [hx] at hp
  have hasc : AscF 0 opts.length x := by
    refine ⟨?_, fun y hy => ?_⟩
    · rw [← hx]
      refine List.pairwise_append.2 ⟨h.asc.pw.filter _, List.pairwise_cons.2 ⟨fun y hy => of_decide_eq_true (List.mem_filter.1 hy).2, h.asc.pw.filter _⟩, fun a ha b hb => ?_⟩
      have ha := of_decide_eq_true (List.mem_filter.1 ha).2
      rcases List.mem_cons.1 hb with rfl | hb
      · exact ha
      · have := of_decide_eq_true (List.mem_filter.1 hb).2
        omega
    · rcases List.mem_append.1 (hp.mem_iff.1 hy) with hy | hy
      · exact h.asc.rng y hy
      · rw [List.mem_singleton.1 hy]; omega
  have hsx : satI gs opts x = true := by
    exact (sat_perm (hp.map _) []).2 hs
  have := h.best x hasc hsx
  have hl := hp.length_eq
  simp at hl
  omega
end Go.Proofs.Ytnogpkaehiapfaa
