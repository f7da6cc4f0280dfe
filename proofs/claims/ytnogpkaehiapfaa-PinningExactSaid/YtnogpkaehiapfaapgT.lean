/- Pinning: the theory of assignments and refutations. -/
import Derived.Test.Ytnogpkaehiapfaapg8
import Derived.Test.Ytnogpkaehiapfaapg9
namespace Go.Proofs.Ytnogpkaehiapfaa
set_option linter.unusedSimpArgs false
set_option linter.unusedVariables false
set_option linter.unnecessarySimpa false
open Go.Abs
/-- Two groups have no pin in common. -/
def apartG (gs : List Grp) (u g : Int) : Prop := ∀ x ∈ pinsOf gs u, x ∉ pinsOf gs g
theorem apartG_comm {gs : List Grp} {u g : Int} (h : apartG gs u g) : apartG gs g u := fun x hx h2 => h x h2 hx
theorem freeG_iff {gs : List Grp} {us : List Int} {g : Int} : freeG_ gs us g = true ↔ ∀ u ∈ us, apartG gs u g := by
  unfold freeG_ apartG; exact decide_eq_true_iff
/-- Groups for the first demands: one option for each, all apart. -/
structure Fit (gs : List Grp) (opts : List (List Int)) (us x : List Int) : Prop where
  len : x.length ≤ opts.length
  opt : ∀ i, (h : i < x.length) → ∀ h2 : i < opts.length, x[i] ∈ opts[i]
  us : ∀ u ∈ us, ∀ g ∈ x, apartG gs u g
  pw : x.Pairwise (apartG gs)
theorem fits_iff {gs : List Grp} : ∀ {opts : List (List Int)} {us x : List Int}, fitsB gs opts us x = true ↔ Fit gs opts us x
  | opts, us, [] => ⟨fun _ => ⟨Nat.zero_le _, fun i h => by simp at h, fun u _ g hg => (by cases hg), List.Pairwise.nil⟩, fun _ => by cases opts <;> rfl⟩
  | [], us, g :: gr => ⟨fun h => (by cases h), fun h => (by have := h.len; simp at this)⟩
  | o :: r, us, g :: gr => by
    rw [fitsB, Bool.and_eq_true, Bool.and_eq_true, List.contains_iff_mem, freeG_iff, fits_iff (opts := r)]
    constructor
    · rintro ⟨⟨h1, h2⟩, h3⟩
      refine ⟨by have := h3.len; simp; omega, ?_, ?_, ?_⟩
      · intro i hi hi2
        cases i with
        | zero => exact h1
        | succ i => exact h3.opt i (by simpa using hi) (by simpa using hi2)
      · intro u hu y hy
        rcases List.mem_cons.1 hy with rfl | hy
        · exact h2 u hu
        · exact h3.us u (List.mem_append_left _ hu) y hy
      · exact List.pairwise_cons.2 ⟨fun y hy => h3.us g (by simp) y hy, h3.pw⟩
    · intro h
      have hp := List.pairwise_cons.1 h.pw
      refine ⟨⟨h.opt 0 (by simp) (by simp), fun u hu => h.us u hu g (by simp)⟩, by have := h.len; simpa using this, fun i hi hi2 => h.opt (i + 1) (by simpa using hi) (by simpa using hi2), ?_, hp.2⟩
      intro u hu y hy
      rcases List.mem_append.1 hu with hu | hu
      · exact h.us u hu y (List.mem_cons_of_mem _ hy)
      · rw [List.mem_singleton.1 hu]; exact hp.1 y hy
theorem Fit.take {gs : List Grp} {opts : List (List Int)} {us x : List Int} (h : Fit gs opts us x) (n : Nat) : Fit gs opts us (x.take n) := by
  refine ⟨by have := h.len; rw [List.length_take]; omega, fun i hi h2 => ?_, fun u hu g hg => h.us u hu g (List.mem_of_mem_take hg), h.pw.sublist (List.take_sublist _ _)⟩
  rw [List.length_take] at hi
  rw [List.getElem_take]
  exact h.opt i (by omega) h2
theorem Fit.app {gs : List Grp} {opts : List (List Int)} {us a b : List Int} (h : Fit gs opts us a) (h2 : Fit gs (opts.drop a.length) (us ++ a) b) : Fit gs opts us (a ++ b) := by
  have hl := h.len
  have hl2 := h2.len
  rw [List.length_drop] at hl2
  refine ⟨by rw [List.length_append]; omega, fun i hi hi2 => ?_, fun u hu g hg => ?_, List.pairwise_append.2 ⟨h.pw, h2.pw, fun u hu g hg => h2.us u (List.mem_append_right _ hu) g hg⟩⟩
  · rw [List.length_append] at hi
    rcases Nat.lt_or_ge i a.length with h3 | h3
    · rw [List.getElem_append_left h3]; exact h.opt i h3 hi2
    · rw [List.getElem_append_right h3]
      have := h2.opt (i - a.length) (by omega) (by rw [List.length_drop]; omega)
      rw [List.getElem_drop] at this
      simpa only [Nat.add_sub_cancel' h3] using this
  · rcases List.mem_append.1 hg with hg | hg
    · exact h.us u hu g hg
    · exact h2.us u (List.mem_append_left _ hu) g hg
theorem srch_cons {gs : List Grp} {o : List Int} {r : List (List Int)} {us x : List Int} (h : srch gs (o :: r) us = some x) : ∃ g y, g ∈ o ∧ freeG_ gs us g = true ∧ srch gs r (us ++ [g]) = some y ∧ x = g :: y := by
  rw [srch] at h
  obtain ⟨g, hg, he⟩ := List.exists_of_findSome?_eq_some h
  split at he
  · rename_i hf
    obtain ⟨y, hy, rfl⟩ := Option.map_eq_some_iff.1 he
    exact ⟨g, y, hg, hf, hy, rfl⟩
  · cases he
theorem srch_fit {gs : List Grp} : ∀ {opts : List (List Int)} {us x : List Int}, srch gs opts us = some x → x.length = opts.length ∧ fitsB gs opts us x = true
  | [], us, x, h => by
    rw [srch] at h
    injection h with h
    rw [← h]; exact ⟨rfl, rfl⟩
  | o :: r, us, x, h => by
    obtain ⟨g, y, hg, hf, hy, rfl⟩ := srch_cons h
    obtain ⟨h1, h2⟩ := srch_fit hy
    exact ⟨by simp [h1], by rw [fitsB, hf, h2, List.contains_iff_mem.2 hg]; rfl⟩
theorem srch_some {gs : List Grp} : ∀ {opts : List (List Int)} {us x : List Int}, fitsB gs opts us x = true → x.length = opts.length → (srch gs opts us).isSome = true
  | [], us, x, _, _ => rfl
  | o :: r, us, [], _, hl => by simp at hl
  | o :: r, us, g :: y, h, hl => by
    rw [fitsB, Bool.and_eq_true, Bool.and_eq_true] at h
    obtain ⟨⟨h1, h2⟩, h3⟩ := h
    have := srch_some h3 (by simpa using hl)
    rw [srch, List.findSome?_isSome_iff]
    exact ⟨g, List.contains_iff_mem.1 h1, by rw [if_pos h2, Option.isSome_map]; exact this⟩
theorem srch_split {gs : List Grp} : ∀ {a b : List (List Int)} {us x : List Int}, srch gs (a ++ b) us = some x → srch gs b (us ++ x.take a.length) = some (x.drop a.length) ∧ fitsB gs a us (x.take a.length) = true
  | [], b, us, x, h => by
    refine ⟨?_, rfl⟩
    show srch gs b (us ++ []) = some x
    rw [List.append_nil]; exact h
  | o :: r, b, us, x, h => by
    obtain ⟨g, y, hg, hf, hy, rfl⟩ := srch_cons h
    obtain ⟨h1, h2⟩ := srch_split hy
    refine ⟨?_, ?_⟩
    · rw [List.append_assoc] at h1; exact h1
    · show fitsB gs (o :: r) us (g :: y.take r.length) = true
      rw [fitsB, hf, h2, List.contains_iff_mem.2 hg]; rfl
theorem sat_iff {gs : List Grp} {opts : List (List Int)} {us : List Int} : (srch gs opts us).isSome = true ↔ ∃ x : List Int, x.length = opts.length ∧ Fit gs opts us x := by
  constructor
  · intro h
    obtain ⟨x, hx⟩ := Option.isSome_iff_exists.1 h
    obtain ⟨h1, h2⟩ := srch_fit hx
    exact ⟨x, h1, fits_iff.1 h2⟩
  · rintro ⟨x, h1, h2⟩
    exact srch_some (fits_iff.2 h2) h1
/-- Fewer demands keep an assignment. -/
theorem sat_sub {gs : List Grp} {a b : List (List Int)} (hs : List.Sublist a b) : ∀ {us vs : List Int}, (∀ u ∈ vs, u ∈ us) → (srch gs b us).isSome = true → (srch gs a vs).isSome = true := by
  induction hs with
  | slnil => intro us vs _ _; rfl
  | cons o h ih =>
    intro us vs hv hb
    obtain ⟨x, hx⟩ := Option.isSome_iff_exists.1 hb
    obtain ⟨g, y, hg, hf, hy, rfl⟩ := srch_cons hx
    exact ih (us := us ++ [g]) (fun u hu => List.mem_append_left _ (hv u hu)) (by rw [hy]; rfl)
  | cons_cons o h ih =>
    intro us vs hv hb
    obtain ⟨x, hx⟩ := Option.isSome_iff_exists.1 hb
    obtain ⟨g, y, hg, hf, hy, rfl⟩ := srch_cons hx
    have h2 := ih (us := us ++ [g]) (vs := vs ++ [g]) (fun u hu => by
      rcases List.mem_append.1 hu with hu | hu
      · exact List.mem_append_left _ (hv u hu)
      · exact List.mem_append_right _ hu) (by rw [hy]; rfl)
    rw [srch, List.findSome?_isSome_iff]
    exact ⟨g, hg, by rw [if_pos (freeG_iff.2 fun u hu => freeG_iff.1 hf u (hv u hu)), Option.isSome_map]; exact h2⟩
theorem foldl_stop (f : List Int → Int → Option (List Int)) : ∀ (o : List Int) (acc : Option (List Int)), (∃ g ∈ o, ∀ s, f s g = none) → o.foldl (fun acc g => acc.bind fun s => f s g) acc = none
  | [], _, h => by obtain ⟨g, hg, _⟩ := h; cases hg
  | g0 :: r, acc, h => by
    rw [List.foldl_cons]
    obtain ⟨g, hg, hn⟩ := h
    rcases List.mem_cons.1 hg with rfl | hg
    · have : (acc.bind fun s => f s g) = none := by cases acc with
        | none => rfl
        | some s => exact hn s
      rw [this]; exact foldl_none f r
    · exact foldl_stop f r _ ⟨g, hg, hn⟩
theorem read_sound {gs : List Grp} {opts : List (List Int)} {y : List Int} (hy : y.length = opts.length) (hf : Fit gs opts [] y) :
    ∀ (k : Nat) (has : List Bool) (us proof : List Int), (∀ u ∈ us, ∃ i, ∃ h : i < y.length, has.getD i true = true ∧ y[i] = u) → has.length = opts.length → readF gs opts k has us proof = none
  | 0, _, _, _, _, _ => rfl
  | _ + 1, _, _, [], _, _ => rfl
  | k + 1, has, us, d :: rest, hu, hl => by
    rw [readF]
    split
    · rename_i hc
      obtain ⟨h0, h1, h2⟩ := hc
      have hD : d.toNat < opts.length := by omega
      have hyD : d.toNat < y.length := by omega
      refine foldl_stop _ _ _ ⟨y[d.toNat], ?_, fun s => ?_⟩
      · rw [List.getD_eq_getElem?_getD, List.getElem?_eq_getElem hD]
        exact hf.opt _ hyD hD
      · have hpw := List.pairwise_iff_getElem.1 hf.pw
        have hfree : freeG_ gs us y[d.toNat] = true := by
          refine freeG_iff.2 fun u hu2 => ?_
          obtain ⟨i, hi, hh, rfl⟩ := hu u hu2
          rcases Nat.lt_trichotomy i d.toNat with h | h | h
          · exact hpw _ _ hi hyD h
          · subst h; rw [h2] at hh; cases hh
          · exact apartG_comm (hpw _ _ hyD hi h)
        rw [if_pos hfree]
        refine read_sound hy hf k _ _ _ (fun u hu2 => ?_) (by rw [List.length_set]; exact hl)
        rcases List.mem_append.1 hu2 with h | h
        · obtain ⟨i, hi, hh, he⟩ := hu u h
          refine ⟨i, hi, ?_, he⟩
          have hne : d.toNat ≠ i := fun e => by rw [← e, h2] at hh; cases hh
          rw [List.getD_eq_getElem?_getD, List.getElem?_set_ne hne, ← List.getD_eq_getElem?_getD]; exact hh
        · refine ⟨d.toNat, hyD, ?_, (List.mem_singleton.1 h).symm⟩
          rw [List.getD_eq_getElem?_getD, List.getElem?_set_self (by omega)]; rfl
    · rfl
theorem fit_all {gs : List Grp} {opts : List (List Int)} {given x : List Int} (h : fitsB gs opts [] given = true) (hs : srch gs (opts.drop given.length) given = some x) : (given ++ x).length = opts.length ∧ Fit gs opts [] (given ++ x) := by
  obtain ⟨h1, h2⟩ := srch_fit hs
  have hg := fits_iff.1 h
  have := hg.len
  rw [List.length_drop] at h1
  exact ⟨by rw [List.length_append]; omega, hg.app (by rw [List.nil_append]; exact fits_iff.1 h2)⟩
theorem hasL_lo {n k i : Nat} (h : i < k) : (hasL n k).getD i true = true := by
  rw [hasL, List.getD_eq_getElem?_getD, List.getElem?_append_left (by simpa using h), List.getElem?_replicate_of_lt h]; rfl
theorem hasL_at {n k : Nat} (h : k < n) : (hasL n k).getD k true = false := by
  rw [hasL, List.getD_eq_getElem?_getD, List.getElem?_append_right (by simp), List.length_replicate, Nat.sub_self, List.getElem?_replicate_of_lt (by omega)]; rfl
theorem opts_len (p : Pin) (l : List ByteArray) : (optsL p l).length = l.length := by simp [optsL]
/-- What is accepted as a refutation refutes. -/
theorem check_none {p : Pin} {l : List ByteArray} {given proof : List Int} (h : checkF p l given proof = true) : asgF p l given = ([], 9) := by
  unfold checkF at h
  rw [Bool.and_eq_true, Bool.and_eq_true, Bool.and_eq_true] at h
  obtain ⟨⟨⟨h1, _⟩, _⟩, h4⟩ := h
  have h1 := of_decide_eq_true h1
  have h4 := of_decide_eq_true h4
  obtain ⟨_, hfit⟩ := badF_ok h1
  rw [asgF, if_neg (by rw [h1]; simp)]
  cases hs : srch p.gs ((optsL p l).drop given.length) given with
  | none => rfl
  | some x =>
    obtain ⟨hl, hf⟩ := fit_all hfit hs
    have hgl := (fits_iff.1 hfit).len
    rw [opts_len] at hgl
    have := read_sound hl hf l.length (hasL l.length given.length) given proof (fun u hu => by
      obtain ⟨i, hi, rfl⟩ := List.getElem_of_mem hu
      exact ⟨i, by rw [List.length_append]; omega, hasL_lo hi, List.getElem_append_left hi⟩) (by rw [hasL_len hgl, opts_len])
    rw [this] at h4
    cases h4
theorem fold_write (f : List Int → Int → Option (List Int)) (F : Int → List Int) : ∀ (o t : List Int), (∀ g ∈ o, ∀ t, f (F g ++ t) g = some t) → o.foldl (fun acc g => acc.bind fun s => f s g) (some (o.flatMap F ++ t)) = some t
  | [], t, _ => rfl
  | g :: r, t, h => by
    rw [List.flatMap_cons, List.foldl_cons, List.append_assoc, Option.bind_some, h g List.mem_cons_self]
    exact fold_write f F r t fun g hg => h g (List.mem_cons_of_mem _ hg)
theorem read_write {gs : List Grp} {opts : List (List Int)} : ∀ (j d k : Nat) (us t : List Int), d + j = opts.length → srch gs (opts.drop d) us = none → j ≤ k → readF gs opts k (hasL opts.length d) us (writeF gs (opts.drop d) us d ++ t) = some t
  | 0, d, k, us, t, hd, hs, hk => by
    rw [List.drop_of_length_le (by omega)] at hs
    cases hs
  | j + 1, d, 0, us, t, hd, hs, hk => by omega
  | j + 1, d, k + 1, us, t, hd, hs, hk => by
    have hlt : d < opts.length := by omega
    obtain ⟨o, ho⟩ : ∃ o, opts[d] = o := ⟨_, rfl⟩
    have e : opts.drop d = o :: opts.drop (d + 1) := by rw [List.drop_eq_getElem_cons hlt, ho]
    rw [e] at hs ⊢
    rw [writeF, List.cons_append, readF, if_pos ⟨by omega, by omega, by rw [Int.toNat_natCast]; exact hasL_at hlt⟩, Int.toNat_natCast, List.getD_eq_getElem?_getD, List.getElem?_eq_getElem hlt, ho, has_next hlt]
    refine fold_write _ _ o t fun g hg t => ?_
    rw [srch, List.findSome?_eq_none_iff] at hs
    have hn := hs g hg
    split at hn
    · rename_i hf
      rw [if_pos hf, if_pos hf]
      exact read_write j (d + 1) k (us ++ [g]) t (by omega) (Option.map_eq_none_iff.1 hn) (by omega)
    · rename_i hf
      rw [if_neg hf, if_neg hf]; rfl
theorem fit_swap {gs : List Grp} {opts : List (List Int)} {x : List Int} {i k : Nat} (hl : x.length = opts.length) (hi : i < x.length) (hk : k < x.length) (h : Fit gs opts [] x) :
    Fit gs ((opts.set i (opts[k]'(by omega))).set k (opts[i]'(by omega))) [] ((x.set i x[k]).set k x[i]) := by
  refine ⟨by simp; omega, fun j hj hj2 => ?_, fun u hu => (by cases hu), ?_⟩
  · simp only [List.length_set] at hj hj2
    simp only [List.getElem_set]
    split
    · exact h.opt i hi (by omega)
    · split
      · exact h.opt k hk (by omega)
      · exact h.opt j hj hj2
  · exact (List.Perm.pairwise_iff (fun h => apartG_comm h) (List.set_set_perm hi hk)).2 h.pw
end Go.Proofs.Ytnogpkaehiapfaa
