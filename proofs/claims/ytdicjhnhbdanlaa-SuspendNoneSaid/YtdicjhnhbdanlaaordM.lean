/- Orders: what an order is, and when there is one; plain theory. -/
import Derived.Test.YtdicjhnhbdanlaaordB
namespace Go.Proofs.Ytdicjhnhbdanlaa
set_option linter.unusedSimpArgs false
set_option linter.unusedVariables false
set_option linter.unnecessarySimpa false
open Go.Abs
set_option maxRecDepth 100000
/-- A list that takes the least ready item each time. -/
inductive Topo (N : List NL) : List Int → Prop
  | nil : Topo N []
  | snoc (l : List Int) (i : Nat) (h : Topo N l) (hi : i < N.length) (hn : (i : Int) ∉ l) (hx : ∀ x ∈ nd N i, x ∈ l) (hg : ∀ k : Nat, k < i → (k : Int) ∈ l ∨ ∃ x ∈ nd N k, x ∉ l) : Topo N (l ++ [(i : Int)])
def NdR (N : List NL) : Prop := ∀ i, i < N.length → ∀ x ∈ nd N i, 0 ≤ x ∧ x < (N.length : Int)
theorem NdR.of {N : List NL} (h : validF N = 0) : NdR N := by
  intro i hi x hx
  rw [nd_at hi] at hx
  obtain ⟨k, hk, rfl⟩ := List.getElem_of_mem hx
  exact ((validF_zero.1 h).2 _ (List.getElem_mem hi)).1 k hk
structure Mk (N : List NL) (ds : List Bool) (l : List Int) : Prop where
  len : ds.length = N.length
  iff : ∀ k : Nat, ds.getD k false = true ↔ (k : Int) ∈ l
theorem Mk.init (N : List NL) : Mk N (List.replicate N.length false) [] := by
  refine ⟨by simp, fun k => ?_⟩
  constructor
  · intro h
    rw [List.getD_eq_getElem?_getD, List.getElem?_replicate] at h
    split at h <;> cases h
  · intro h; cases h
theorem Mk.step {N : List NL} {ds : List Bool} {l : List Int} {i : Nat} (h : Mk N ds l) (hi : i < N.length) : Mk N (ds.set i true) (l ++ [(i : Int)]) := by
  refine ⟨by rw [List.length_set, h.len], fun k => ?_⟩
  rw [getD_set (by rw [h.len]; exact hi)]
  rw [List.mem_append, List.mem_singleton]
  by_cases e : i = k
  · subst e; simp
  · rw [if_neg e, h.iff]
    constructor
    · exact .inl
    · rintro (h1 | h1)
      · exact h1
      · exact absurd (by omega) e
theorem Mk.rdy {N : List NL} {ds : List Bool} {l : List Int} {i : Nat} (h : Mk N ds l) (hR : ∀ x ∈ nd N i, 0 ≤ x) : rdy N ds i = true ↔ (i : Int) ∉ l ∧ ∀ x ∈ nd N i, x ∈ l := by
  unfold Proofs.Ytdicjhnhbdanlaa.rdy
  rw [Bool.and_eq_true, List.all_eq_true, Bool.not_eq_true', ← Bool.not_eq_true, h.iff]
  constructor
  · rintro ⟨h1, h2⟩
    refine ⟨h1, fun x hx => ?_⟩
    have := (h.iff x.toNat).1 (h2 x hx)
    rwa [Int.toNat_of_nonneg (hR x hx)] at this
  · rintro ⟨h1, h2⟩
    refine ⟨h1, fun x hx => (h.iff x.toNat).2 ?_⟩
    rw [Int.toNat_of_nonneg (hR x hx)]
    exact h2 x hx
theorem Mk.not_rdy {N : List NL} {ds : List Bool} {l : List Int} {k : Nat} (h : Mk N ds l) (hR : ∀ x ∈ nd N k, 0 ≤ x) (hr : Proofs.Ytdicjhnhbdanlaa.rdy N ds k = false) : (k : Int) ∈ l ∨ ∃ x ∈ nd N k, x ∉ l := by
  by_cases h1 : (k : Int) ∈ l
  · exact .inl h1
  · right
    by_cases h2 : ∃ x ∈ nd N k, x ∉ l
    · exact h2
    · have : Proofs.Ytdicjhnhbdanlaa.rdy N ds k = true := (h.rdy hR).2 ⟨h1, fun x hx => by
        by_cases h3 : x ∈ l
        · exact h3
        · exact absurd ⟨x, hx, h3⟩ h2⟩
      rw [hr] at this; cases this
theorem orderG_topo {N : List NL} (hR : NdR N) : ∀ (f : Nat) (ds : List Bool) (l : List Int), Mk N ds l → Topo N l → (∀ o, orderG N f ds l = some o → Topo N o ∧ o.length = l.length + f) ∧ (orderG N f ds l = none → ∃ l', Topo N l' ∧ l'.length < l.length + f ∧ ∀ k : Nat, k < N.length → (k : Int) ∈ l' ∨ ∃ x ∈ nd N k, x ∉ l')
  | 0, ds, l, hM, hT => ⟨fun o h => by cases h; exact ⟨hT, rfl⟩, fun h => by cases h⟩
  | f + 1, ds, l, hM, hT => by
    rw [orderG]
    split
    · rename_i hn
      refine ⟨fun o h => (by cases h), fun _ => ⟨l, hT, by omega, fun k hk => hM.not_rdy (fun x hx => (hR k hk x hx).1) (nxt_before (by omega))⟩⟩
    · rename_i hn
      have hl : nxt N ds < N.length := by have := nxt_le N ds; omega
      obtain ⟨h1, h2⟩ := (hM.rdy fun x hx => (hR _ hl x hx).1).1 (nxt_rdy hl)
      have ih := orderG_topo hR f (ds.set (nxt N ds) true) (l ++ [((nxt N ds : Nat) : Int)]) (hM.step hl) (.snoc l _ hT hl h1 h2 fun k hk => hM.not_rdy (fun x hx => (hR k (by omega) x hx).1) (nxt_before hk))
      rw [List.length_append, List.length_singleton] at ih
      refine ⟨fun o h => ?_, fun h => ?_⟩
      · obtain ⟨h3, h4⟩ := ih.1 o h
        exact ⟨h3, by omega⟩
      · obtain ⟨l', h3, h4, h5⟩ := ih.2 h
        exact ⟨l', h3, by omega, h5⟩
theorem all_in_len : ∀ (n : Nat) (l : List Int), (∀ k : Nat, k < n → (k : Int) ∈ l) → n ≤ l.length
  | 0, _, _ => Nat.zero_le _
  | n + 1, l, h => by
    have h0 := h n (by omega)
    have := all_in_len n (l.erase (n : Int)) fun k hk => (List.mem_erase_of_ne (by omega)).2 (h k (by omega))
    rw [List.length_erase_of_mem h0] at this
    have := List.length_pos_of_mem h0
    omega
theorem Topo.range {N : List NL} {l : List Int} (h : Topo N l) : ∀ x ∈ l, 0 ≤ x ∧ x < (N.length : Int) := by
  induction h with
  | nil => intro x hx; cases hx
  | snoc l i h hi hn hx hg ih =>
    intro x hx
    rcases List.mem_append.1 hx with h1 | h1
    · exact ih x h1
    · rw [List.mem_singleton.1 h1]; omega
theorem Topo.nodup {N : List NL} {l : List Int} (h : Topo N l) : l.Nodup := by
  induction h with
  | nil => exact List.nodup_nil
  | snoc l i h hi hn hx hg ih =>
    rw [List.nodup_append]
    refine ⟨ih, by simp, fun a ha b hb => ?_⟩
    rw [List.mem_singleton.1 hb]
    intro e
    exact hn (e ▸ ha)
/-- A nodup list of so many items in range has them all. -/
theorem full_of {n : Nat} : ∀ {l : List Int}, l.Nodup → (∀ x ∈ l, 0 ≤ x ∧ x < (n : Int)) → n ≤ l.length → ∀ k : Nat, k < n → (k : Int) ∈ l := by
  intro l hd hr hl k hk
  by_cases h : (k : Int) ∈ l
  · exact h
  · exfalso
    have key : ∀ (m : Nat) (l : List Int), l.Nodup → (∀ x ∈ l, 0 ≤ x ∧ x < (m : Int)) → l.length ≤ m := by
      intro m
      induction m with
      | zero =>
        intro l _ hr
        cases l with
        | nil => exact Nat.le_refl _
        | cons a l => have := hr a (List.mem_cons_self ..); omega
      | succ m ih =>
        intro l hd hr
        by_cases hm : (m : Int) ∈ l
        · have := ih (l.erase (m : Int)) (hd.erase _) fun x hx => by
            have h1 := hr x (List.mem_of_mem_erase hx)
            have h2 : x ≠ (m : Int) := fun e => (hd.not_mem_erase) (e ▸ hx)
            omega
          rw [List.length_erase_of_mem hm] at this
          omega
        · have := ih l hd fun x hx => by
            have h1 := hr x hx
            have h2 : x ≠ (m : Int) := fun e => hm (e ▸ hx)
            omega
          omega
    have := key n ((k : Int) :: l) (List.nodup_cons.2 ⟨h, hd⟩) fun x hx => by
      rcases List.mem_cons.1 hx with rfl | hx
      · omega
      · exact hr x hx
    simp at this
    omega
def Full (N : List NL) (l : List Int) : Prop := ∀ k : Nat, k < N.length → (k : Int) ∈ l
theorem Topo.full {N : List NL} {l : List Int} (h : Topo N l) (hl : l.length = N.length) : Full N l := full_of h.nodup h.range (by omega)
theorem order_topo {N : List NL} (h : (orderF N).2 = true) : Topo N (orderF N).1 ∧ (orderF N).1.length = N.length := by
  obtain ⟨h0, h1⟩ := orderF_ok h
  have := (orderG_topo (NdR.of h0) N.length _ [] (Mk.init N) .nil).1 _ h1
  simpa using this
theorem order_stuck {N : List NL} (h0 : validF N = 0) (h : (orderF N).2 = false) : ∃ l, Topo N l ∧ (∃ k : Nat, k < N.length ∧ (k : Int) ∉ l) ∧ ∀ k : Nat, k < N.length → (k : Int) ∈ l ∨ ∃ x ∈ nd N k, x ∉ l := by
  have h1 : orderG N N.length (List.replicate N.length false) [] = none := by
    cases e : orderG N N.length (List.replicate N.length false) [] with
    | none => rfl
    | some o => rw [orderF_of h0 e] at h; cases h
  obtain ⟨l, h2, h3, h4⟩ := (orderG_topo (NdR.of h0) N.length _ [] (Mk.init N) .nil).2 h1
  refine ⟨l, h2, ?_, h4⟩
  by_cases h5 : ∃ k : Nat, k < N.length ∧ (k : Int) ∉ l
  · exact h5
  · exfalso
    have := all_in_len N.length l fun k hk => by
      by_cases h6 : (k : Int) ∈ l
      · exact h6
      · exact absurd ⟨k, hk, h6⟩ h5
    simp at h3
    omega
def Rank (N : List NL) (r : Nat → Nat) : Prop := ∀ i, i < N.length → ∀ x ∈ nd N i, r x.toNat < r i
theorem Topo.before {N : List NL} {l : List Int} (h : Topo N l) : ∀ i : Nat, (i : Int) ∈ l → ∀ x ∈ nd N i, x ∈ l ∧ l.idxOf x < l.idxOf (i : Int) := by
  induction h with
  | nil => intro i hi; cases hi
  | snoc l j h hj hn hx hg ih =>
    intro i hi x hxi
    by_cases h1 : (i : Int) ∈ l
    · obtain ⟨h2, h3⟩ := ih i h1 x hxi
      refine ⟨List.mem_append_left _ h2, ?_⟩
      rw [List.idxOf_append, List.idxOf_append, if_pos h1, if_pos h2]
      exact h3
    · rcases List.mem_append.1 hi with h2 | h2
      · exact absurd h2 h1
      · have e : i = j := by have := List.mem_singleton.1 h2; omega
        subst e
        have h3 := hx x hxi
        refine ⟨List.mem_append_left _ h3, ?_⟩
        rw [List.idxOf_append, List.idxOf_append, if_pos h3, if_neg h1]
        have := List.idxOf_lt_length_of_mem h3
        omega
theorem Topo.rank {N : List NL} {l : List Int} (h : Topo N l) (hf : Full N l) (hR : NdR N) : Rank N fun i => l.idxOf (i : Int) := by
  intro i hi x hx
  have := (h.before i (hf i hi) x hx).2
  show l.idxOf ((x.toNat : Nat) : Int) < l.idxOf (i : Int)
  rwa [Int.toNat_of_nonneg (hR i hi x hx).1]
theorem ok_iff {N : List NL} (h0 : validF N = 0) : (orderF N).2 = true ↔ ∃ r, Rank N r := by
  have hR := NdR.of h0
  constructor
  · intro h
    obtain ⟨h1, h2⟩ := order_topo h
    exact ⟨_, h1.rank (h1.full h2) hR⟩
  · rintro ⟨r, hr⟩
    rcases Bool.eq_false_or_eq_true (orderF N).2 with h | h
    · exact h
    · exfalso
      obtain ⟨l, h1, ⟨k, hk, hkl⟩, h3⟩ := order_stuck h0 h
      have key : ∀ (m k : Nat), k < N.length → r k ≤ m → (k : Int) ∈ l := by
        intro m
        induction m with
        | zero =>
          intro k hk hm
          rcases h3 k hk with h4 | ⟨x, hx, _⟩
          · exact h4
          · have := hr k hk x hx; omega
        | succ m ih =>
          intro k hk hm
          rcases h3 k hk with h4 | ⟨x, hx, hxl⟩
          · exact h4
          · exfalso
            have h5 := hr k hk x hx
            have h6 := hR k hk x hx
            have := ih x.toNat (by omega) (by omega)
            rw [Int.toNat_of_nonneg h6.1] at this
            exact hxl this
      exact hkl (key (r k) k hk (Nat.le_refl _))
theorem Topo.det {N : List NL} {l : List Int} (h : Topo N l) : ∀ {l' : List Int}, Topo N l' → l.length = l'.length → l = l' := by
  induction h with
  | nil => intro l' _ hl; exact (List.eq_nil_of_length_eq_zero hl.symm).symm
  | snoc l i h hi hn hx hg ih =>
    intro l' h' hl
    cases h' with
    | nil => simp at hl
    | snoc l2 j h2 hj hn2 hx2 hg2 =>
      have e := ih h2 (by simpa using hl)
      subst e
      have : i = j := by
        rcases Nat.lt_trichotomy i j with g | g | g
        · rcases hg2 i g with g2 | ⟨x, hx3, hx4⟩
          · exact absurd g2 hn
          · exact absurd (hx x hx3) hx4
        · exact g
        · rcases hg j g with g2 | ⟨x, hx3, hx4⟩
          · exact absurd g2 hn2
          · exact absurd (hx2 x hx3) hx4
      rw [this]
/-- What takes all in this way is the order. -/
theorem order_eq {N : List NL} (h0 : validF N = 0) {l : List Int} (h : Topo N l) (hl : l.length = N.length) : orderF N = (l, true) := by
  have h1 : (orderF N).2 = true := (ok_iff h0).2 ⟨_, h.rank (h.full hl) (NdR.of h0)⟩
  obtain ⟨h2, h3⟩ := order_topo h1
  have := h.det h2 (by omega)
  rw [this, ← h1]
end Go.Proofs.Ytdicjhnhbdanlaa
