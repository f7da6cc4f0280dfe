/- Power domains: the reference's Counts. -/
import Derived.Test.Ytcamcidhkjijlaaref2
namespace Go.Proofs.Ytcamcidhkjijlaa
set_option linter.unusedSimpArgs false
set_option linter.unusedVariables false
set_option linter.unnecessarySimpa false
open Go.Abs
set_option maxRecDepth 100000
/-- The sum over the children of k that are at c or above. -/
def chS (l : List Dom) (f : Nat → Int) (c k : Nat) : Int := ((List.range l.length).map fun j => if c ≤ j ∧ (l[j]?.map Dom.parent) = some (k : Int) then f j else 0).sum
theorem sum_add {α : Type} (xs : List α) (f g : α → Int) : (xs.map fun x => f x + g x).sum = (xs.map f).sum + (xs.map g).sum := by
  induction xs with
  | nil => rfl
  | cons a r ih => simp only [List.map_cons, List.sum_cons, ih]; omega
theorem sum_zero {α : Type} (xs : List α) (f : α → Int) (h : ∀ x ∈ xs, f x = 0) : (xs.map f).sum = 0 := by
  induction xs with
  | nil => rfl
  | cons a r ih => simp only [List.map_cons, List.sum_cons, h a (List.mem_cons_self ..), ih fun x hx => h x (List.mem_cons_of_mem _ hx)]; rfl
theorem sum_one (n i : Nat) (hi : i < n) (f : Nat → Int) (h : ∀ j, j < n → j ≠ i → f j = 0) : ((List.range n).map f).sum = f i := by
  have e : ((List.range n).map f).sum = ((List.range n).map fun j => if j = i then f i else 0).sum := by
    congr 1
    refine List.map_congr_left fun j hj => ?_
    by_cases hji : j = i
    · subst hji; simp
    · rw [if_neg hji, h j (List.mem_range.1 hj) hji]
  rw [e]
  clear e h
  induction n with
  | zero => omega
  | succ n ih =>
    rw [List.range_succ, List.map_append, List.sum_append]
    by_cases hn : i = n
    · subst hn
      rw [sum_zero]
      · simp
      · intro x hx; rw [if_neg (by have := List.mem_range.1 hx; omega)]
    · rw [ih (by omega)]
      simp; omega
theorem chS_add (l : List Dom) (f g : Nat → Int) (c k : Nat) : chS l (fun j => f j + g j) c k = chS l f c k + chS l g c k := by
  unfold chS
  rw [← sum_add]
  congr 1
  refine List.map_congr_left fun j _ => ?_
  split <;> simp
theorem chS_top (l : List Dom) (f : Nat → Int) (k : Nat) : chS l f l.length k = 0 := sum_zero _ _ fun x hx => by
  rw [if_neg]; have := List.mem_range.1 hx; omega
theorem chS_step (l : List Dom) (f : Nat → Int) {i : Nat} (hi : i < l.length) (k : Nat) : chS l f i k = chS l f (i + 1) k + if l[i].parent = k then f i else 0 := by
  have e : ((List.range l.length).map fun j => if j = i ∧ (l[j]?.map Dom.parent) = some (k : Int) then f j else 0).sum = if l[i].parent = k then f i else 0 := by
    rw [sum_one l.length i hi _ fun j hj hne => by rw [if_neg]; exact fun h => hne h.1]
    simp [hi]
  rw [← e]
  unfold chS
  rw [← sum_add]
  congr 1
  refine List.map_congr_left fun j hj => ?_
  by_cases hp : (l[j]?.map Dom.parent) = some (k : Int)
  · simp only [hp, and_true]
    rcases Nat.lt_trichotomy j i with h | h | h
    · rw [if_neg (by omega), if_neg (by omega), if_neg (by omega)]; rfl
    · rw [if_pos (by omega), if_neg (by omega), if_pos h]; omega
    · rw [if_pos (by omega), if_pos (by omega), if_neg (by omega)]; omega
  · simp [hp]
/-- Children below their parents. -/
theorem chS_low {l : List Dom} (ht : Tree l) (f : Nat → Int) {c k : Nat} (h : c ≤ k + 1) : chS l f c k = chS l f 0 k := by
  unfold chS
  congr 1
  refine List.map_congr_left fun j hj => ?_
  have hj := List.mem_range.1 hj
  by_cases hp : (l[j]?.map Dom.parent) = some (k : Int)
  · have := ht j hj
    simp only [hp, and_true]
    simp [hj] at hp
    rw [if_pos (by omega), if_pos (by omega)]
  · simp [hp]
theorem path_children {l : List Dom} (ht : Tree l) (k : Nat) : ∀ u, u < l.length → (((pathOf l u).count k : Nat) : Int) = (if u = k then 1 else 0) + chS l (fun j => ((pathOf l u).count j : Nat)) 0 k := by
  intro u
  induction u using Nat.strongRecOn with
  | _ u ih =>
    intro hu
    have hp := ht u hu
    have e := pathOf_eq ht hu
    have es : chS l (fun j => if u = j then (1 : Int) else 0) 0 k = if l[u].parent = k then 1 else 0 := by
      unfold chS
      rw [sum_one l.length u hu _ fun j hj hne => by
        split
        · exact if_neg (by omega)
        · rfl]
      simp [hu]
    by_cases h0 : 0 ≤ l[u].parent
    · rw [if_pos h0] at e
      have ih' := ih l[u].parent.toNat (by omega) (by omega)
      have e1 : ∀ j, (((pathOf l u).count j : Nat) : Int) = (if u = j then (1 : Int) else 0) + ((pathOf l l[u].parent.toNat).count j : Nat) := by
        intro j
        rw [e, List.count_cons]
        by_cases huj : u = j <;> simp [huj] <;> omega
      rw [e1, ih']
      have e2 : (fun j => (((pathOf l u).count j : Nat) : Int)) = fun j => (if u = j then (1 : Int) else 0) + ((pathOf l l[u].parent.toNat).count j : Nat) := funext e1
      rw [e2, chS_add, es]
      by_cases hk : l[u].parent = k
      · rw [if_pos hk, if_pos (show l[u].parent.toNat = k by omega)]
      · rw [if_neg hk, if_neg (show ¬ l[u].parent.toNat = k by omega)]
    · rw [if_neg h0] at e
      have e1 : ∀ j, (((pathOf l u).count j : Nat) : Int) = (if u = j then (1 : Int) else 0) := by
        intro j
        rw [e, List.count_cons]
        by_cases huj : u = j <;> simp [huj]
      have e2 : (fun j => (((pathOf l u).count j : Nat) : Int)) = fun j => (if u = j then (1 : Int) else 0) := funext e1
      rw [e2, e1, es, if_neg (show ¬ l[u].parent = k by omega)]
      omega
def dirC (users : List Int) (k : Nat) : Int := (users.map fun u => if u.toNat = k then (1 : Int) else 0).sum
theorem cnt_children {l : List Dom} (ht : Tree l) {users : List Int} (hu : userOk l users) (k : Nat) : cnt l users k = dirC users k + chS l (cnt l users) 0 k := by
  induction users with
  | nil =>
    have : cnt l [] = fun _ => (0 : Int) := by funext k; simp [cnt]
    rw [this]
    unfold chS
    rw [sum_zero _ _ fun x _ => by simp]
    simp [dirC]
  | cons u us ih =>
    have hu0 := hu u (List.mem_cons_self ..)
    have ih' := ih fun v hv => hu v (List.mem_cons_of_mem _ hv)
    have e : cnt l (u :: us) = fun j => (((pathOf l u.toNat).count j : Nat) : Int) + cnt l us j := by funext j; simp [cnt]
    have hp := path_children ht k u.toNat (by omega)
    rw [e, chS_add]
    simp only
    rw [hp, ih']
    simp only [dirC, List.map_cons, List.sum_cons]
    omega
/-- The reference's counts, when all from c on have been added to their parents. -/
def rcB (l : List Dom) (users : List Int) (c k : Nat) : Int := dirC users k + chS l (cnt l users) c k
def rcL (l : List Dom) (users : List Int) (c : Nat) : List Int := (List.range l.length).map (rcB l users c)
theorem rcL_zero {l : List Dom} (ht : Tree l) {users : List Int} (hu : userOk l users) : rcL l users 0 = cntL l users :=
  List.map_congr_left fun k _ => (cnt_children ht hu k).symm
theorem rcL_top {l : List Dom} {users : List Int} : rcL l users l.length = (List.range l.length).map (dirC users) :=
  List.map_congr_left fun k _ => by rw [rcB, chS_top]; omega
theorem rcB_now {l : List Dom} (ht : Tree l) {users : List Int} (hu : userOk l users) {i : Nat} : rcB l users (i + 1) i = cnt l users i := by
  rw [rcB, chS_low ht _ (Nat.le_refl _), ← cnt_children ht hu]
theorem rcL_on {l : List Dom} (ht : Tree l) {users : List Int} {i : Nat} (hi : i < l.length) (h0 : 0 ≤ l[i].parent) : (rcL l users (i + 1)).set l[i].parent.toNat (rcB l users (i + 1) l[i].parent.toNat + cnt l users i) = rcL l users i := by
  refine List.ext_getElem (by simp [rcL]) fun k h1 h2 => ?_
  have hk : k < l.length := by simpa [rcL] using h2
  rw [List.getElem_set]
  simp only [rcL, List.getElem_map, List.getElem_range]
  have hs := chS_step l (cnt l users) hi k
  unfold rcB
  split
  · rename_i he
    rw [he, hs, if_pos (by omega)]
    omega
  · rw [hs, if_neg (by omega)]
    omega
theorem rcL_off {l : List Dom} {users : List Int} {i : Nat} (hi : i < l.length) (h0 : l[i].parent < 0) : rcL l users (i + 1) = rcL l users i := by
  refine List.map_congr_left fun k hk => ?_
  rw [rcB, rcB, chS_step l (cnt l users) hi k, if_neg (by omega)]
  omega
theorem dirC_bound (users : List Int) (k : Nat) : 0 ≤ dirC users k ∧ dirC users k ≤ users.length := by
  induction users with
  | nil => simp [dirC]
  | cons u us ih =>
    simp only [dirC, List.map_cons, List.sum_cons, List.length_cons] at ih ⊢
    split <;> omega
theorem dirC_append (us vs : List Int) (k : Nat) : dirC (us ++ vs) k = dirC us k + dirC vs k := by simp [dirC]
theorem chS_nonneg (l : List Dom) {f : Nat → Int} (h : ∀ j, 0 ≤ f j) (c k : Nat) : 0 ≤ chS l f c k := by
  unfold chS
  generalize List.range l.length = xs
  induction xs with
  | nil => simp
  | cons a r ih =>
    simp only [List.map_cons, List.sum_cons]
    have := h a
    split <;> omega
theorem chS_mono (l : List Dom) {f : Nat → Int} (h : ∀ j, 0 ≤ f j) (c k : Nat) : chS l f c k ≤ chS l f 0 k := by
  unfold chS
  generalize List.range l.length = xs
  induction xs with
  | nil => simp
  | cons a r ih =>
    simp only [List.map_cons, List.sum_cons]
    have := h a
    split <;> split <;> first | omega | simp_all
theorem rcB_bound {l : List Dom} (ht : Tree l) {users : List Int} (hu : userOk l users) (c k : Nat) : 0 ≤ rcB l users c k ∧ rcB l users c k ≤ users.length := by
  have h1 := dirC_bound users k
  have hn : ∀ j, 0 ≤ cnt l users j := fun j => (cnt_bound ht users j).1
  have h2 := chS_nonneg l hn c k
  have h3 := chS_mono l hn c k
  have h4 := cnt_children ht hu k
  have h5 := (cnt_bound ht users k).2
  unfold rcB
  omega
def dirL (n : Nat) (us : List Int) : List Int := (List.range n).map (dirC us)
theorem dirL_next {n : Nat} {us : List Int} {u : Nat} : (dirL n us).set u (dirC us u + 1) = dirL n (us ++ [(u : Int)]) := by
  refine List.ext_getElem (by simp [dirL]) fun k h1 h2 => ?_
  rw [List.getElem_set]
  simp only [dirL, List.getElem_map, List.getElem_range, dirC_append]
  have e : dirC [(u : Int)] k = if u = k then 1 else 0 := by simp [dirC]
  rw [e]
  split
  · rename_i h; subst h; rfl
  · omega
theorem rCounts_call (nl nl2 : Bool) (l : List Dom) (users : List Int) : Pure Try.prog 23 [.p (.list nl (l.map Dom.pv)), .p (.list nl2 (users.map pI))] (R2 pI (cntR l users) (exam l users)) := by
  refine acall_enter Try.func23 rfl rfl tabOK rfl ?_
  (conv => whnf); repeat' (first | ((first | apply LenA.map | apply NilA.map | apply NilA.mk); intro _; (conv => whnf)) | ((first | apply NW.i64 | apply InA.nat | apply InA.map | apply AppA.snoc (f := pI) (a := _) rfl | apply AppA.one (f := pI) (a := _) rfl | apply AppA.snoc (f := pB) (a := _) rfl | apply AppA.one (f := pB) (a := _) rfl | apply AppA.snoc (f := Dom.pv) (a := _) rfl | apply AppA.one (f := Dom.pv) (a := _) rfl | (apply AppA.snoc (f := Dom.pv) (a := ⟨_, _⟩); dsimp only [Dom.pv]; exact rfl) | (apply AppA.one (f := Dom.pv) (a := ⟨_, _⟩); dsimp only [Dom.pv]; exact rfl) | apply AppA.snoc (f := Wr.pv) (a := _) rfl | apply AppA.one (f := Wr.pv) (a := _) rfl | (apply AppA.snoc (f := Wr.pv) (a := ⟨_, _, _⟩); dsimp only [Wr.pv]; exact rfl) | (apply AppA.one (f := Wr.pv) (a := ⟨_, _, _⟩); dsimp only [Wr.pv]; exact rfl) | apply AppA.map | apply AppA.nil | apply CutA.lo | apply CutA.hi); (first | omega | (simp only [List.length_map, List.length_append, List.length_set, List.length_replicate, List.length_cons, List.length_nil, List.length_take, List.length_drop, List.length_range] at *; omega) | grind); (conv => whnf)) | ((first | (apply RemA.as; assumption) | apply RemA.self); (first | omega | (simp only [List.length_map, List.length_append, List.length_set, List.length_replicate, List.length_cons, List.length_nil, List.length_take, List.length_drop, List.length_range] at *; omega) | grind); (conv => whnf)) | ((first | (apply ValA.as; assumption) | apply ValA.self | (apply NW.as; assumption)); (conv => whnf)) | (apply SzA.map; (intro _; rfl); (conv => whnf)) | (with_reducible apply br_pt; (conv => whnf)) | (with_reducible apply br_pf; (conv => whnf)) | (with_reducible apply br_mt; (conv => whnf)) | (with_reducible apply br_mf; (conv => whnf)) | (apply Both.mk <;> (conv => whnf)) | ((first | (apply br_T; assumption) | (apply br_F; assumption) | (apply br_mT; assumption) | (apply br_mF; assumption)); (conv => whnf)) | ((first | apply br_lss | apply br_leq | apply br_gtr | apply br_geq | apply br_dec | apply br_beq | apply br_bne | apply br_beqB | apply br_bneB | apply br_not | apply br_m | apply br_intro) <;> intro h0 <;> first | (exfalso; omega) | (exfalso; exact tf h0 (by assumption)) | (exfalso; exact tf (by assumption) h0) | (exfalso; exact h0 (by assumption)) | (exfalso; exact h0 rfl) | (exfalso; exact of_decide_eq_false h0 rfl) | (conv => whnf)) | (apply IdxA.lit; omega; exact rfl; (conv => whnf)) | ((first | apply IdxA.of_nat | (apply IdxA.of_map; (first | omega | (simp only [List.length_map, List.length_append, List.length_set, List.length_replicate, List.length_cons, List.length_nil, List.length_take, List.length_drop, List.length_range] at *; omega) | grind))); rotate_left; (first | omega | (simp only [List.length_map, List.length_append, List.length_set, List.length_replicate, List.length_cons, List.length_nil, List.length_take, List.length_drop, List.length_range] at *; omega) | grind); (conv => whnf)) | ((first | apply IsL.set (f := pI) (a := _) rfl | apply IsL.rep (f := pI) (a := _) rfl | apply IsL.set (f := pB) (a := _) rfl | apply IsL.rep (f := pB) (a := _) rfl | apply IsL.set (f := Dom.pv) (a := _) rfl | apply IsL.rep (f := Dom.pv) (a := _) rfl | (apply IsL.set (f := Dom.pv) (a := ⟨_, _⟩); dsimp only [Dom.pv]; exact rfl) | (apply IsL.rep (f := Dom.pv) (a := ⟨_, _⟩); dsimp only [Dom.pv]; exact rfl) | apply IsL.set (f := Wr.pv) (a := _) rfl | apply IsL.rep (f := Wr.pv) (a := _) rfl | (apply IsL.set (f := Wr.pv) (a := ⟨_, _, _⟩); dsimp only [Wr.pv]; exact rfl) | (apply IsL.rep (f := Wr.pv) (a := ⟨_, _, _⟩); dsimp only [Wr.pv]; exact rfl) | apply IsL.lit (f := pI) [] rfl | apply IsL.lit (f := pI) [_] rfl | apply IsL.lit (f := pI) [_, _] rfl | apply IsL.lit (f := pI) [_, _, _] rfl | apply IsL.lit (f := pI) [_, _, _, _] rfl | apply IsL.lit (f := pB) [] rfl | apply IsL.lit (f := pB) [_] rfl | apply IsL.lit (f := pB) [_, _] rfl | apply IsL.lit (f := pB) [_, _, _] rfl | apply IsL.lit (f := pB) [_, _, _, _] rfl | apply IsL.lit (f := Dom.pv) [] rfl | apply IsL.lit (f := Dom.pv) [_] rfl | apply IsL.lit (f := Dom.pv) [_, _] rfl | apply IsL.lit (f := Dom.pv) [_, _, _] rfl | apply IsL.lit (f := Dom.pv) [_, _, _, _] rfl | apply IsL.lit (f := Dom.pv) [] rfl | apply IsL.lit (f := Dom.pv) [⟨_, _⟩] rfl | apply IsL.lit (f := Dom.pv) [⟨_, _⟩, ⟨_, _⟩] rfl | apply IsL.lit (f := Dom.pv) [⟨_, _⟩, ⟨_, _⟩, ⟨_, _⟩] rfl | apply IsL.lit (f := Dom.pv) [⟨_, _⟩, ⟨_, _⟩, ⟨_, _⟩, ⟨_, _⟩] rfl | apply IsL.lit (f := Wr.pv) [] rfl | apply IsL.lit (f := Wr.pv) [_] rfl | apply IsL.lit (f := Wr.pv) [_, _] rfl | apply IsL.lit (f := Wr.pv) [_, _, _] rfl | apply IsL.lit (f := Wr.pv) [_, _, _, _] rfl | apply IsL.lit (f := Wr.pv) [] rfl | apply IsL.lit (f := Wr.pv) [⟨_, _, _⟩] rfl | apply IsL.lit (f := Wr.pv) [⟨_, _, _⟩, ⟨_, _, _⟩] rfl | apply IsL.lit (f := Wr.pv) [⟨_, _, _⟩, ⟨_, _, _⟩, ⟨_, _, _⟩] rfl | apply IsL.lit (f := Wr.pv) [⟨_, _, _⟩, ⟨_, _, _⟩, ⟨_, _, _⟩, ⟨_, _, _⟩] rfl); (conv => whnf)) | (apply And.intro; (first | omega | (simp only [List.length_map, List.length_append, List.length_set, List.length_replicate, List.length_cons, List.length_nil, List.length_take, List.length_drop, List.length_range] at *; omega) | grind); (conv => whnf)) | (apply DrawA.quiet (by kernel_rfl) (by kernel_rfl); (conv => whnf); fail_if_success (show False)) | (refine CallA.scalar (rbad_call nl nl2 l users) ?_; (conv => whnf)))
  · (first | (apply RetK.r1; exact rfl; exact (fun _ => flat_ofB rfl)) | apply RetK.r1n | (apply RetK.r2; exact rfl; exact (fun _ => flat_ofB rfl)) | apply RetK.r2n | (apply RetK.r3; exact rfl; exact (fun _ => flat_ofB rfl)) | apply RetK.r3n)
    · rw [cntR, if_neg (by assumption)]
    · rfl
  · have h : exam l users = 0 := by assumption
    obtain ⟨hd, hu⟩ := exam_zero.1 h
    obtain ⟨h16, ht⟩ := domOk_zero.1 hd
    (conv => whnf); repeat' (first | ((first | apply LenA.map | apply NilA.map | apply NilA.mk); intro _; (conv => whnf)) | ((first | apply NW.i64 | apply InA.nat | apply InA.map | apply AppA.snoc (f := pI) (a := _) rfl | apply AppA.one (f := pI) (a := _) rfl | apply AppA.snoc (f := pB) (a := _) rfl | apply AppA.one (f := pB) (a := _) rfl | apply AppA.snoc (f := Dom.pv) (a := _) rfl | apply AppA.one (f := Dom.pv) (a := _) rfl | (apply AppA.snoc (f := Dom.pv) (a := ⟨_, _⟩); dsimp only [Dom.pv]; exact rfl) | (apply AppA.one (f := Dom.pv) (a := ⟨_, _⟩); dsimp only [Dom.pv]; exact rfl) | apply AppA.snoc (f := Wr.pv) (a := _) rfl | apply AppA.one (f := Wr.pv) (a := _) rfl | (apply AppA.snoc (f := Wr.pv) (a := ⟨_, _, _⟩); dsimp only [Wr.pv]; exact rfl) | (apply AppA.one (f := Wr.pv) (a := ⟨_, _, _⟩); dsimp only [Wr.pv]; exact rfl) | apply AppA.map | apply AppA.nil | apply CutA.lo | apply CutA.hi); (first | omega | (simp only [List.length_map, List.length_append, List.length_set, List.length_replicate, List.length_cons, List.length_nil, List.length_take, List.length_drop, List.length_range] at *; omega) | grind); (conv => whnf)) | ((first | (apply RemA.as; assumption) | apply RemA.self); (first | omega | (simp only [List.length_map, List.length_append, List.length_set, List.length_replicate, List.length_cons, List.length_nil, List.length_take, List.length_drop, List.length_range] at *; omega) | grind); (conv => whnf)) | ((first | (apply ValA.as; assumption) | apply ValA.self | (apply NW.as; assumption)); (conv => whnf)) | (apply SzA.map; (intro _; rfl); (conv => whnf)) | (with_reducible apply br_pt; (conv => whnf)) | (with_reducible apply br_pf; (conv => whnf)) | (with_reducible apply br_mt; (conv => whnf)) | (with_reducible apply br_mf; (conv => whnf)) | (apply Both.mk <;> (conv => whnf)) | ((first | (apply br_T; assumption) | (apply br_F; assumption) | (apply br_mT; assumption) | (apply br_mF; assumption)); (conv => whnf)) | ((first | apply br_lss | apply br_leq | apply br_gtr | apply br_geq | apply br_dec | apply br_beq | apply br_bne | apply br_beqB | apply br_bneB | apply br_not | apply br_m | apply br_intro) <;> intro h0 <;> first | (exfalso; omega) | (exfalso; exact tf h0 (by assumption)) | (exfalso; exact tf (by assumption) h0) | (exfalso; exact h0 (by assumption)) | (exfalso; exact h0 rfl) | (exfalso; exact of_decide_eq_false h0 rfl) | (conv => whnf)) | (apply IdxA.lit; omega; exact rfl; (conv => whnf)) | ((first | apply IdxA.of_nat | (apply IdxA.of_map; (first | omega | (simp only [List.length_map, List.length_append, List.length_set, List.length_replicate, List.length_cons, List.length_nil, List.length_take, List.length_drop, List.length_range] at *; omega) | grind))); rotate_left; (first | omega | (simp only [List.length_map, List.length_append, List.length_set, List.length_replicate, List.length_cons, List.length_nil, List.length_take, List.length_drop, List.length_range] at *; omega) | grind); (conv => whnf)) | ((first | apply IsL.set (f := pI) (a := _) rfl | apply IsL.rep (f := pI) (a := _) rfl | apply IsL.set (f := pB) (a := _) rfl | apply IsL.rep (f := pB) (a := _) rfl | apply IsL.set (f := Dom.pv) (a := _) rfl | apply IsL.rep (f := Dom.pv) (a := _) rfl | (apply IsL.set (f := Dom.pv) (a := ⟨_, _⟩); dsimp only [Dom.pv]; exact rfl) | (apply IsL.rep (f := Dom.pv) (a := ⟨_, _⟩); dsimp only [Dom.pv]; exact rfl) | apply IsL.set (f := Wr.pv) (a := _) rfl | apply IsL.rep (f := Wr.pv) (a := _) rfl | (apply IsL.set (f := Wr.pv) (a := ⟨_, _, _⟩); dsimp only [Wr.pv]; exact rfl) | (apply IsL.rep (f := Wr.pv) (a := ⟨_, _, _⟩); dsimp only [Wr.pv]; exact rfl) | apply IsL.lit (f := pI) [] rfl | apply IsL.lit (f := pI) [_] rfl | apply IsL.lit (f := pI) [_, _] rfl | apply IsL.lit (f := pI) [_, _, _] rfl | apply IsL.lit (f := pI) [_, _, _, _] rfl | apply IsL.lit (f := pB) [] rfl | apply IsL.lit (f := pB) [_] rfl | apply IsL.lit (f := pB) [_, _] rfl | apply IsL.lit (f := pB) [_, _, _] rfl | apply IsL.lit (f := pB) [_, _, _, _] rfl | apply IsL.lit (f := Dom.pv) [] rfl | apply IsL.lit (f := Dom.pv) [_] rfl | apply IsL.lit (f := Dom.pv) [_, _] rfl | apply IsL.lit (f := Dom.pv) [_, _, _] rfl | apply IsL.lit (f := Dom.pv) [_, _, _, _] rfl | apply IsL.lit (f := Dom.pv) [] rfl | apply IsL.lit (f := Dom.pv) [⟨_, _⟩] rfl | apply IsL.lit (f := Dom.pv) [⟨_, _⟩, ⟨_, _⟩] rfl | apply IsL.lit (f := Dom.pv) [⟨_, _⟩, ⟨_, _⟩, ⟨_, _⟩] rfl | apply IsL.lit (f := Dom.pv) [⟨_, _⟩, ⟨_, _⟩, ⟨_, _⟩, ⟨_, _⟩] rfl | apply IsL.lit (f := Wr.pv) [] rfl | apply IsL.lit (f := Wr.pv) [_] rfl | apply IsL.lit (f := Wr.pv) [_, _] rfl | apply IsL.lit (f := Wr.pv) [_, _, _] rfl | apply IsL.lit (f := Wr.pv) [_, _, _, _] rfl | apply IsL.lit (f := Wr.pv) [] rfl | apply IsL.lit (f := Wr.pv) [⟨_, _, _⟩] rfl | apply IsL.lit (f := Wr.pv) [⟨_, _, _⟩, ⟨_, _, _⟩] rfl | apply IsL.lit (f := Wr.pv) [⟨_, _, _⟩, ⟨_, _, _⟩, ⟨_, _, _⟩] rfl | apply IsL.lit (f := Wr.pv) [⟨_, _, _⟩, ⟨_, _, _⟩, ⟨_, _, _⟩, ⟨_, _, _⟩] rfl); (conv => whnf)) | (apply And.intro; (first | omega | (simp only [List.length_map, List.length_append, List.length_set, List.length_replicate, List.length_cons, List.length_nil, List.length_take, List.length_drop, List.length_range] at *; omega) | grind); (conv => whnf)) | (apply DrawA.quiet (by kernel_rfl) (by kernel_rfl); (conv => whnf); fail_if_success (show False)))
    refine loop_rule (fun (⟨c, xs⟩ : Nat × List Int) => ⟨[(0, .p (.list nl (l.map Dom.pv))), (1, .p (.list nl2 (users.map pI))), (7, .buf 0), (8, .p (pI c))], [some (AO.buf 3 false (xs.map pI))]⟩) (fun (⟨c, xs⟩ : Nat × List Int) => c ≤ users.length ∧ xs = dirL l.length (users.take c)) (fun (⟨c, xs⟩ : Nat × List Int) => users.length - c) (0, List.replicate (l.length : Int).toNat 0) ?_ ?_ ?_; (refine SubA.auto rfl rfl rfl rfl ?_ ?_ <;> repeat' (first | exact trivial | refine And.intro ?_ ?_ | with_reducible rfl | (refine pIEq ?_; (first | omega | (simp only [List.length_map, List.length_append, List.length_set, List.length_replicate, List.length_cons, List.length_nil, List.length_take, List.length_drop, List.length_range] at *; omega) | grind)) | (refine bufMap ?_) | (refine bufNil ?_) | (refine bufEq ?_) | rfl))
    · refine ⟨by omega, List.ext_getElem (by simp [dirL]) fun k h1 h2 => by simp [dirL, dirC]⟩
    rintro ⟨c, xs⟩ ⟨hc, hxs⟩
    have hl : xs.length = l.length := by rw [hxs]; simp [dirL]
    rcases Nat.lt_or_ge c users.length with hlt | hge
    · have hub := hu users[c] (List.getElem_mem hlt)
      obtain ⟨u, hu0⟩ := Int.eq_ofNat_of_zero_le hub.1
      have hul : u < l.length := by omega
      have hget : xs[users[c].toNat]'(by omega) = dirC (users.take c) u := by simp [hxs, dirL, hu0]
      have hb := dirC_bound (users.take c) u
      rw [List.length_take] at hb
      (conv => whnf); repeat' (first | ((first | apply LenA.map | apply NilA.map | apply NilA.mk); intro _; (conv => whnf)) | ((first | apply NW.i64 | apply InA.nat | apply InA.map | apply AppA.snoc (f := pI) (a := _) rfl | apply AppA.one (f := pI) (a := _) rfl | apply AppA.snoc (f := pB) (a := _) rfl | apply AppA.one (f := pB) (a := _) rfl | apply AppA.snoc (f := Dom.pv) (a := _) rfl | apply AppA.one (f := Dom.pv) (a := _) rfl | (apply AppA.snoc (f := Dom.pv) (a := ⟨_, _⟩); dsimp only [Dom.pv]; exact rfl) | (apply AppA.one (f := Dom.pv) (a := ⟨_, _⟩); dsimp only [Dom.pv]; exact rfl) | apply AppA.snoc (f := Wr.pv) (a := _) rfl | apply AppA.one (f := Wr.pv) (a := _) rfl | (apply AppA.snoc (f := Wr.pv) (a := ⟨_, _, _⟩); dsimp only [Wr.pv]; exact rfl) | (apply AppA.one (f := Wr.pv) (a := ⟨_, _, _⟩); dsimp only [Wr.pv]; exact rfl) | apply AppA.map | apply AppA.nil | apply CutA.lo | apply CutA.hi); (first | omega | (simp only [List.length_map, List.length_append, List.length_set, List.length_replicate, List.length_cons, List.length_nil, List.length_take, List.length_drop, List.length_range] at *; omega) | grind); (conv => whnf)) | ((first | (apply RemA.as; assumption) | apply RemA.self); (first | omega | (simp only [List.length_map, List.length_append, List.length_set, List.length_replicate, List.length_cons, List.length_nil, List.length_take, List.length_drop, List.length_range] at *; omega) | grind); (conv => whnf)) | ((first | (apply ValA.as; assumption) | apply ValA.self | (apply NW.as; assumption)); (conv => whnf)) | (apply SzA.map; (intro _; rfl); (conv => whnf)) | (with_reducible apply br_pt; (conv => whnf)) | (with_reducible apply br_pf; (conv => whnf)) | (with_reducible apply br_mt; (conv => whnf)) | (with_reducible apply br_mf; (conv => whnf)) | (apply Both.mk <;> (conv => whnf)) | ((first | (apply br_T; assumption) | (apply br_F; assumption) | (apply br_mT; assumption) | (apply br_mF; assumption)); (conv => whnf)) | ((first | apply br_lss | apply br_leq | apply br_gtr | apply br_geq | apply br_dec | apply br_beq | apply br_bne | apply br_beqB | apply br_bneB | apply br_not | apply br_m | apply br_intro) <;> intro h0 <;> first | (exfalso; omega) | (exfalso; exact tf h0 (by assumption)) | (exfalso; exact tf (by assumption) h0) | (exfalso; exact h0 (by assumption)) | (exfalso; exact h0 rfl) | (exfalso; exact of_decide_eq_false h0 rfl) | (conv => whnf)) | (apply IdxA.lit; omega; exact rfl; (conv => whnf)) | ((first | apply IdxA.of_nat | (apply IdxA.of_map; (first | omega | (simp only [List.length_map, List.length_append, List.length_set, List.length_replicate, List.length_cons, List.length_nil, List.length_take, List.length_drop, List.length_range] at *; omega) | grind))); rotate_left; (first | omega | (simp only [List.length_map, List.length_append, List.length_set, List.length_replicate, List.length_cons, List.length_nil, List.length_take, List.length_drop, List.length_range] at *; omega) | grind); (conv => whnf)) | ((first | apply IsL.set (f := pI) (a := _) rfl | apply IsL.rep (f := pI) (a := _) rfl | apply IsL.set (f := pB) (a := _) rfl | apply IsL.rep (f := pB) (a := _) rfl | apply IsL.set (f := Dom.pv) (a := _) rfl | apply IsL.rep (f := Dom.pv) (a := _) rfl | (apply IsL.set (f := Dom.pv) (a := ⟨_, _⟩); dsimp only [Dom.pv]; exact rfl) | (apply IsL.rep (f := Dom.pv) (a := ⟨_, _⟩); dsimp only [Dom.pv]; exact rfl) | apply IsL.set (f := Wr.pv) (a := _) rfl | apply IsL.rep (f := Wr.pv) (a := _) rfl | (apply IsL.set (f := Wr.pv) (a := ⟨_, _, _⟩); dsimp only [Wr.pv]; exact rfl) | (apply IsL.rep (f := Wr.pv) (a := ⟨_, _, _⟩); dsimp only [Wr.pv]; exact rfl) | apply IsL.lit (f := pI) [] rfl | apply IsL.lit (f := pI) [_] rfl | apply IsL.lit (f := pI) [_, _] rfl | apply IsL.lit (f := pI) [_, _, _] rfl | apply IsL.lit (f := pI) [_, _, _, _] rfl | apply IsL.lit (f := pB) [] rfl | apply IsL.lit (f := pB) [_] rfl | apply IsL.lit (f := pB) [_, _] rfl | apply IsL.lit (f := pB) [_, _, _] rfl | apply IsL.lit (f := pB) [_, _, _, _] rfl | apply IsL.lit (f := Dom.pv) [] rfl | apply IsL.lit (f := Dom.pv) [_] rfl | apply IsL.lit (f := Dom.pv) [_, _] rfl | apply IsL.lit (f := Dom.pv) [_, _, _] rfl | apply IsL.lit (f := Dom.pv) [_, _, _, _] rfl | apply IsL.lit (f := Dom.pv) [] rfl | apply IsL.lit (f := Dom.pv) [⟨_, _⟩] rfl | apply IsL.lit (f := Dom.pv) [⟨_, _⟩, ⟨_, _⟩] rfl | apply IsL.lit (f := Dom.pv) [⟨_, _⟩, ⟨_, _⟩, ⟨_, _⟩] rfl | apply IsL.lit (f := Dom.pv) [⟨_, _⟩, ⟨_, _⟩, ⟨_, _⟩, ⟨_, _⟩] rfl | apply IsL.lit (f := Wr.pv) [] rfl | apply IsL.lit (f := Wr.pv) [_] rfl | apply IsL.lit (f := Wr.pv) [_, _] rfl | apply IsL.lit (f := Wr.pv) [_, _, _] rfl | apply IsL.lit (f := Wr.pv) [_, _, _, _] rfl | apply IsL.lit (f := Wr.pv) [] rfl | apply IsL.lit (f := Wr.pv) [⟨_, _, _⟩] rfl | apply IsL.lit (f := Wr.pv) [⟨_, _, _⟩, ⟨_, _, _⟩] rfl | apply IsL.lit (f := Wr.pv) [⟨_, _, _⟩, ⟨_, _, _⟩, ⟨_, _, _⟩] rfl | apply IsL.lit (f := Wr.pv) [⟨_, _, _⟩, ⟨_, _, _⟩, ⟨_, _, _⟩, ⟨_, _, _⟩] rfl); (conv => whnf)) | (apply And.intro; (first | omega | (simp only [List.length_map, List.length_append, List.length_set, List.length_replicate, List.length_cons, List.length_nil, List.length_take, List.length_drop, List.length_range] at *; omega) | grind); (conv => whnf)) | (apply DrawA.quiet (by kernel_rfl) (by kernel_rfl); (conv => whnf); fail_if_success (show False)))
      (refine' ⟨(c + 1, _), _, _, _⟩; rotate_right; (refine SubA.auto rfl rfl rfl rfl ?_ ?_ <;> repeat' (first | exact trivial | refine And.intro ?_ ?_ | with_reducible rfl | (refine pIEq ?_; (first | omega | (simp only [List.length_map, List.length_append, List.length_set, List.length_replicate, List.length_cons, List.length_nil, List.length_take, List.length_drop, List.length_range] at *; omega) | grind)) | (refine bufMap ?_) | (refine bufNil ?_) | (refine bufEq ?_) | rfl)); rotate_right; (first | omega | (simp only []; omega) | (simp; omega) | (first | omega | (simp only [List.length_map, List.length_append, List.length_set, List.length_replicate, List.length_cons, List.length_nil, List.length_take, List.length_drop, List.length_range] at *; omega) | grind)))
      refine ⟨by omega, ?_⟩
      rw [List.take_succ_eq_append_getElem hlt, hget, hu0, hxs, ← dirL_next]
      rfl
    · obtain rfl : c = users.length := by omega
      rw [List.take_length] at hxs
      (conv => whnf); repeat' (first | ((first | apply LenA.map | apply NilA.map | apply NilA.mk); intro _; (conv => whnf)) | ((first | apply NW.i64 | apply InA.nat | apply InA.map | apply AppA.snoc (f := pI) (a := _) rfl | apply AppA.one (f := pI) (a := _) rfl | apply AppA.snoc (f := pB) (a := _) rfl | apply AppA.one (f := pB) (a := _) rfl | apply AppA.snoc (f := Dom.pv) (a := _) rfl | apply AppA.one (f := Dom.pv) (a := _) rfl | (apply AppA.snoc (f := Dom.pv) (a := ⟨_, _⟩); dsimp only [Dom.pv]; exact rfl) | (apply AppA.one (f := Dom.pv) (a := ⟨_, _⟩); dsimp only [Dom.pv]; exact rfl) | apply AppA.snoc (f := Wr.pv) (a := _) rfl | apply AppA.one (f := Wr.pv) (a := _) rfl | (apply AppA.snoc (f := Wr.pv) (a := ⟨_, _, _⟩); dsimp only [Wr.pv]; exact rfl) | (apply AppA.one (f := Wr.pv) (a := ⟨_, _, _⟩); dsimp only [Wr.pv]; exact rfl) | apply AppA.map | apply AppA.nil | apply CutA.lo | apply CutA.hi); (first | omega | (simp only [List.length_map, List.length_append, List.length_set, List.length_replicate, List.length_cons, List.length_nil, List.length_take, List.length_drop, List.length_range] at *; omega) | grind); (conv => whnf)) | ((first | (apply RemA.as; assumption) | apply RemA.self); (first | omega | (simp only [List.length_map, List.length_append, List.length_set, List.length_replicate, List.length_cons, List.length_nil, List.length_take, List.length_drop, List.length_range] at *; omega) | grind); (conv => whnf)) | ((first | (apply ValA.as; assumption) | apply ValA.self | (apply NW.as; assumption)); (conv => whnf)) | (apply SzA.map; (intro _; rfl); (conv => whnf)) | (with_reducible apply br_pt; (conv => whnf)) | (with_reducible apply br_pf; (conv => whnf)) | (with_reducible apply br_mt; (conv => whnf)) | (with_reducible apply br_mf; (conv => whnf)) | (apply Both.mk <;> (conv => whnf)) | ((first | (apply br_T; assumption) | (apply br_F; assumption) | (apply br_mT; assumption) | (apply br_mF; assumption)); (conv => whnf)) | ((first | apply br_lss | apply br_leq | apply br_gtr | apply br_geq | apply br_dec | apply br_beq | apply br_bne | apply br_beqB | apply br_bneB | apply br_not | apply br_m | apply br_intro) <;> intro h0 <;> first | (exfalso; omega) | (exfalso; exact tf h0 (by assumption)) | (exfalso; exact tf (by assumption) h0) | (exfalso; exact h0 (by assumption)) | (exfalso; exact h0 rfl) | (exfalso; exact of_decide_eq_false h0 rfl) | (conv => whnf)) | (apply IdxA.lit; omega; exact rfl; (conv => whnf)) | ((first | apply IdxA.of_nat | (apply IdxA.of_map; (first | omega | (simp only [List.length_map, List.length_append, List.length_set, List.length_replicate, List.length_cons, List.length_nil, List.length_take, List.length_drop, List.length_range] at *; omega) | grind))); rotate_left; (first | omega | (simp only [List.length_map, List.length_append, List.length_set, List.length_replicate, List.length_cons, List.length_nil, List.length_take, List.length_drop, List.length_range] at *; omega) | grind); (conv => whnf)) | ((first | apply IsL.set (f := pI) (a := _) rfl | apply IsL.rep (f := pI) (a := _) rfl | apply IsL.set (f := pB) (a := _) rfl | apply IsL.rep (f := pB) (a := _) rfl | apply IsL.set (f := Dom.pv) (a := _) rfl | apply IsL.rep (f := Dom.pv) (a := _) rfl | (apply IsL.set (f := Dom.pv) (a := ⟨_, _⟩); dsimp only [Dom.pv]; exact rfl) | (apply IsL.rep (f := Dom.pv) (a := ⟨_, _⟩); dsimp only [Dom.pv]; exact rfl) | apply IsL.set (f := Wr.pv) (a := _) rfl | apply IsL.rep (f := Wr.pv) (a := _) rfl | (apply IsL.set (f := Wr.pv) (a := ⟨_, _, _⟩); dsimp only [Wr.pv]; exact rfl) | (apply IsL.rep (f := Wr.pv) (a := ⟨_, _, _⟩); dsimp only [Wr.pv]; exact rfl) | apply IsL.lit (f := pI) [] rfl | apply IsL.lit (f := pI) [_] rfl | apply IsL.lit (f := pI) [_, _] rfl | apply IsL.lit (f := pI) [_, _, _] rfl | apply IsL.lit (f := pI) [_, _, _, _] rfl | apply IsL.lit (f := pB) [] rfl | apply IsL.lit (f := pB) [_] rfl | apply IsL.lit (f := pB) [_, _] rfl | apply IsL.lit (f := pB) [_, _, _] rfl | apply IsL.lit (f := pB) [_, _, _, _] rfl | apply IsL.lit (f := Dom.pv) [] rfl | apply IsL.lit (f := Dom.pv) [_] rfl | apply IsL.lit (f := Dom.pv) [_, _] rfl | apply IsL.lit (f := Dom.pv) [_, _, _] rfl | apply IsL.lit (f := Dom.pv) [_, _, _, _] rfl | apply IsL.lit (f := Dom.pv) [] rfl | apply IsL.lit (f := Dom.pv) [⟨_, _⟩] rfl | apply IsL.lit (f := Dom.pv) [⟨_, _⟩, ⟨_, _⟩] rfl | apply IsL.lit (f := Dom.pv) [⟨_, _⟩, ⟨_, _⟩, ⟨_, _⟩] rfl | apply IsL.lit (f := Dom.pv) [⟨_, _⟩, ⟨_, _⟩, ⟨_, _⟩, ⟨_, _⟩] rfl | apply IsL.lit (f := Wr.pv) [] rfl | apply IsL.lit (f := Wr.pv) [_] rfl | apply IsL.lit (f := Wr.pv) [_, _] rfl | apply IsL.lit (f := Wr.pv) [_, _, _] rfl | apply IsL.lit (f := Wr.pv) [_, _, _, _] rfl | apply IsL.lit (f := Wr.pv) [] rfl | apply IsL.lit (f := Wr.pv) [⟨_, _, _⟩] rfl | apply IsL.lit (f := Wr.pv) [⟨_, _, _⟩, ⟨_, _, _⟩] rfl | apply IsL.lit (f := Wr.pv) [⟨_, _, _⟩, ⟨_, _, _⟩, ⟨_, _, _⟩] rfl | apply IsL.lit (f := Wr.pv) [⟨_, _, _⟩, ⟨_, _, _⟩, ⟨_, _, _⟩, ⟨_, _, _⟩] rfl); (conv => whnf)) | (apply And.intro; (first | omega | (simp only [List.length_map, List.length_append, List.length_set, List.length_replicate, List.length_cons, List.length_nil, List.length_take, List.length_drop, List.length_range] at *; omega) | grind); (conv => whnf)) | (apply DrawA.quiet (by kernel_rfl) (by kernel_rfl); (conv => whnf); fail_if_success (show False)))
      refine loop_rule (fun (⟨d, xs⟩ : Int × List Int) => ⟨[(0, .p (.list nl (l.map Dom.pv))), (7, .buf 0), (9, .p (pI d))], [some (AO.buf 3 false (xs.map pI))]⟩) (fun (⟨d, xs⟩ : Int × List Int) => -1 ≤ d ∧ d < l.length ∧ xs = rcL l users (d + 1).toNat) (fun (⟨d, xs⟩ : Int × List Int) => (d + 1).toNat) ((l.length : Int) - 1, xs) ?_ ?_ ?_; (refine SubA.auto rfl rfl rfl rfl ?_ ?_ <;> repeat' (first | exact trivial | refine And.intro ?_ ?_ | with_reducible rfl | (refine pIEq ?_; (first | omega | (simp only [List.length_map, List.length_append, List.length_set, List.length_replicate, List.length_cons, List.length_nil, List.length_take, List.length_drop, List.length_range] at *; omega) | grind)) | (refine bufMap ?_) | (refine bufNil ?_) | (refine bufEq ?_) | rfl))
      · refine ⟨by omega, by omega, ?_⟩
        rw [show ((l.length : Int) - 1 + 1).toNat = l.length by omega, rcL_top]; exact hxs
      rintro ⟨d, ys⟩ ⟨h1, h2, hys⟩
      have hl : ys.length = l.length := by rw [hys]; simp [rcL]
      rcases (show d = -1 ∨ ∃ i : Nat, d = i by rcases d with i | i; exact .inr ⟨i, rfl⟩; left; omega) with rfl | ⟨i, rfl⟩
      · (conv => whnf); repeat' (first | ((first | apply LenA.map | apply NilA.map | apply NilA.mk); intro _; (conv => whnf)) | ((first | apply NW.i64 | apply InA.nat | apply InA.map | apply AppA.snoc (f := pI) (a := _) rfl | apply AppA.one (f := pI) (a := _) rfl | apply AppA.snoc (f := pB) (a := _) rfl | apply AppA.one (f := pB) (a := _) rfl | apply AppA.snoc (f := Dom.pv) (a := _) rfl | apply AppA.one (f := Dom.pv) (a := _) rfl | (apply AppA.snoc (f := Dom.pv) (a := ⟨_, _⟩); dsimp only [Dom.pv]; exact rfl) | (apply AppA.one (f := Dom.pv) (a := ⟨_, _⟩); dsimp only [Dom.pv]; exact rfl) | apply AppA.snoc (f := Wr.pv) (a := _) rfl | apply AppA.one (f := Wr.pv) (a := _) rfl | (apply AppA.snoc (f := Wr.pv) (a := ⟨_, _, _⟩); dsimp only [Wr.pv]; exact rfl) | (apply AppA.one (f := Wr.pv) (a := ⟨_, _, _⟩); dsimp only [Wr.pv]; exact rfl) | apply AppA.map | apply AppA.nil | apply CutA.lo | apply CutA.hi); (first | omega | (simp only [List.length_map, List.length_append, List.length_set, List.length_replicate, List.length_cons, List.length_nil, List.length_take, List.length_drop, List.length_range] at *; omega) | grind); (conv => whnf)) | ((first | (apply RemA.as; assumption) | apply RemA.self); (first | omega | (simp only [List.length_map, List.length_append, List.length_set, List.length_replicate, List.length_cons, List.length_nil, List.length_take, List.length_drop, List.length_range] at *; omega) | grind); (conv => whnf)) | ((first | (apply ValA.as; assumption) | apply ValA.self | (apply NW.as; assumption)); (conv => whnf)) | (apply SzA.map; (intro _; rfl); (conv => whnf)) | (with_reducible apply br_pt; (conv => whnf)) | (with_reducible apply br_pf; (conv => whnf)) | (with_reducible apply br_mt; (conv => whnf)) | (with_reducible apply br_mf; (conv => whnf)) | (apply Both.mk <;> (conv => whnf)) | ((first | (apply br_T; assumption) | (apply br_F; assumption) | (apply br_mT; assumption) | (apply br_mF; assumption)); (conv => whnf)) | ((first | apply br_lss | apply br_leq | apply br_gtr | apply br_geq | apply br_dec | apply br_beq | apply br_bne | apply br_beqB | apply br_bneB | apply br_not | apply br_m | apply br_intro) <;> intro h0 <;> first | (exfalso; omega) | (exfalso; exact tf h0 (by assumption)) | (exfalso; exact tf (by assumption) h0) | (exfalso; exact h0 (by assumption)) | (exfalso; exact h0 rfl) | (exfalso; exact of_decide_eq_false h0 rfl) | (conv => whnf)) | (apply IdxA.lit; omega; exact rfl; (conv => whnf)) | ((first | apply IdxA.of_nat | (apply IdxA.of_map; (first | omega | (simp only [List.length_map, List.length_append, List.length_set, List.length_replicate, List.length_cons, List.length_nil, List.length_take, List.length_drop, List.length_range] at *; omega) | grind))); rotate_left; (first | omega | (simp only [List.length_map, List.length_append, List.length_set, List.length_replicate, List.length_cons, List.length_nil, List.length_take, List.length_drop, List.length_range] at *; omega) | grind); (conv => whnf)) | ((first | apply IsL.set (f := pI) (a := _) rfl | apply IsL.rep (f := pI) (a := _) rfl | apply IsL.set (f := pB) (a := _) rfl | apply IsL.rep (f := pB) (a := _) rfl | apply IsL.set (f := Dom.pv) (a := _) rfl | apply IsL.rep (f := Dom.pv) (a := _) rfl | (apply IsL.set (f := Dom.pv) (a := ⟨_, _⟩); dsimp only [Dom.pv]; exact rfl) | (apply IsL.rep (f := Dom.pv) (a := ⟨_, _⟩); dsimp only [Dom.pv]; exact rfl) | apply IsL.set (f := Wr.pv) (a := _) rfl | apply IsL.rep (f := Wr.pv) (a := _) rfl | (apply IsL.set (f := Wr.pv) (a := ⟨_, _, _⟩); dsimp only [Wr.pv]; exact rfl) | (apply IsL.rep (f := Wr.pv) (a := ⟨_, _, _⟩); dsimp only [Wr.pv]; exact rfl) | apply IsL.lit (f := pI) [] rfl | apply IsL.lit (f := pI) [_] rfl | apply IsL.lit (f := pI) [_, _] rfl | apply IsL.lit (f := pI) [_, _, _] rfl | apply IsL.lit (f := pI) [_, _, _, _] rfl | apply IsL.lit (f := pB) [] rfl | apply IsL.lit (f := pB) [_] rfl | apply IsL.lit (f := pB) [_, _] rfl | apply IsL.lit (f := pB) [_, _, _] rfl | apply IsL.lit (f := pB) [_, _, _, _] rfl | apply IsL.lit (f := Dom.pv) [] rfl | apply IsL.lit (f := Dom.pv) [_] rfl | apply IsL.lit (f := Dom.pv) [_, _] rfl | apply IsL.lit (f := Dom.pv) [_, _, _] rfl | apply IsL.lit (f := Dom.pv) [_, _, _, _] rfl | apply IsL.lit (f := Dom.pv) [] rfl | apply IsL.lit (f := Dom.pv) [⟨_, _⟩] rfl | apply IsL.lit (f := Dom.pv) [⟨_, _⟩, ⟨_, _⟩] rfl | apply IsL.lit (f := Dom.pv) [⟨_, _⟩, ⟨_, _⟩, ⟨_, _⟩] rfl | apply IsL.lit (f := Dom.pv) [⟨_, _⟩, ⟨_, _⟩, ⟨_, _⟩, ⟨_, _⟩] rfl | apply IsL.lit (f := Wr.pv) [] rfl | apply IsL.lit (f := Wr.pv) [_] rfl | apply IsL.lit (f := Wr.pv) [_, _] rfl | apply IsL.lit (f := Wr.pv) [_, _, _] rfl | apply IsL.lit (f := Wr.pv) [_, _, _, _] rfl | apply IsL.lit (f := Wr.pv) [] rfl | apply IsL.lit (f := Wr.pv) [⟨_, _, _⟩] rfl | apply IsL.lit (f := Wr.pv) [⟨_, _, _⟩, ⟨_, _, _⟩] rfl | apply IsL.lit (f := Wr.pv) [⟨_, _, _⟩, ⟨_, _, _⟩, ⟨_, _, _⟩] rfl | apply IsL.lit (f := Wr.pv) [⟨_, _, _⟩, ⟨_, _, _⟩, ⟨_, _, _⟩, ⟨_, _, _⟩] rfl); (conv => whnf)) | (apply And.intro; (first | omega | (simp only [List.length_map, List.length_append, List.length_set, List.length_replicate, List.length_cons, List.length_nil, List.length_take, List.length_drop, List.length_range] at *; omega) | grind); (conv => whnf)) | (apply DrawA.quiet (by kernel_rfl) (by kernel_rfl); (conv => whnf); fail_if_success (show False)))
        (first | (apply RetK.r1; exact rfl; exact (fun _ => flat_ofB rfl)) | apply RetK.r1n | (apply RetK.r2; exact rfl; exact (fun _ => flat_ofB rfl)) | apply RetK.r2n | (apply RetK.r3; exact rfl; exact (fun _ => flat_ofB rfl)) | apply RetK.r3n)
        · rw [cntR, if_pos h, hys]; exact rcL_zero ht hu
        · exact h.symm
      · have hi : i < l.length := by omega
        rw [show ((i : Int) + 1).toNat = i + 1 by omega] at hys
        have hti := ht i hi
        have hg1 : ys[i]'(by omega) = cnt l users i := by simp [hys, rcL, rcB_now ht hu]
        have hb1 := cnt_bound ht users i
        have hg2 : ∀ h : l[i].parent.toNat < ys.length, ys[l[i].parent.toNat] = rcB l users (i + 1) l[i].parent.toNat := fun h => by simp [hys, rcL]
        have hb2 := rcB_bound ht hu (i + 1) l[i].parent.toNat
        have hb3 := rcB_bound ht hu i l[i].parent.toNat
        have hst : 0 ≤ l[i].parent → rcB l users i l[i].parent.toNat = rcB l users (i + 1) l[i].parent.toNat + cnt l users i := fun h0 => by
          rw [rcB, rcB, chS_step l (cnt l users) hi, if_pos (by omega)]; omega
        have hon := rcL_on ht (users := users) hi
        have hoff := rcL_off (users := users) hi
        rw [← hys] at hon hoff
        (conv => whnf); repeat' (first | ((first | apply LenA.map | apply NilA.map | apply NilA.mk); intro _; (conv => whnf)) | ((first | apply NW.i64 | apply InA.nat | apply InA.map | apply AppA.snoc (f := pI) (a := _) rfl | apply AppA.one (f := pI) (a := _) rfl | apply AppA.snoc (f := pB) (a := _) rfl | apply AppA.one (f := pB) (a := _) rfl | apply AppA.snoc (f := Dom.pv) (a := _) rfl | apply AppA.one (f := Dom.pv) (a := _) rfl | (apply AppA.snoc (f := Dom.pv) (a := ⟨_, _⟩); dsimp only [Dom.pv]; exact rfl) | (apply AppA.one (f := Dom.pv) (a := ⟨_, _⟩); dsimp only [Dom.pv]; exact rfl) | apply AppA.snoc (f := Wr.pv) (a := _) rfl | apply AppA.one (f := Wr.pv) (a := _) rfl | (apply AppA.snoc (f := Wr.pv) (a := ⟨_, _, _⟩); dsimp only [Wr.pv]; exact rfl) | (apply AppA.one (f := Wr.pv) (a := ⟨_, _, _⟩); dsimp only [Wr.pv]; exact rfl) | apply AppA.map | apply AppA.nil | apply CutA.lo | apply CutA.hi); (first | omega | (simp only [List.length_map, List.length_append, List.length_set, List.length_replicate, List.length_cons, List.length_nil, List.length_take, List.length_drop, List.length_range] at *; omega) | grind); (conv => whnf)) | ((first | (apply RemA.as; assumption) | apply RemA.self); (first | omega | (simp only [List.length_map, List.length_append, List.length_set, List.length_replicate, List.length_cons, List.length_nil, List.length_take, List.length_drop, List.length_range] at *; omega) | grind); (conv => whnf)) | ((first | (apply ValA.as; assumption) | apply ValA.self | (apply NW.as; assumption)); (conv => whnf)) | (apply SzA.map; (intro _; rfl); (conv => whnf)) | (with_reducible apply br_pt; (conv => whnf)) | (with_reducible apply br_pf; (conv => whnf)) | (with_reducible apply br_mt; (conv => whnf)) | (with_reducible apply br_mf; (conv => whnf)) | (apply Both.mk <;> (conv => whnf)) | ((first | (apply br_T; assumption) | (apply br_F; assumption) | (apply br_mT; assumption) | (apply br_mF; assumption)); (conv => whnf)) | ((first | apply br_lss | apply br_leq | apply br_gtr | apply br_geq | apply br_dec | apply br_beq | apply br_bne | apply br_beqB | apply br_bneB | apply br_not | apply br_m | apply br_intro) <;> intro h0 <;> first | (exfalso; omega) | (exfalso; exact tf h0 (by assumption)) | (exfalso; exact tf (by assumption) h0) | (exfalso; exact h0 (by assumption)) | (exfalso; exact h0 rfl) | (exfalso; exact of_decide_eq_false h0 rfl) | (conv => whnf)) | (apply IdxA.lit; omega; exact rfl; (conv => whnf)) | ((first | apply IdxA.of_nat | (apply IdxA.of_map; (first | omega | (simp only [List.length_map, List.length_append, List.length_set, List.length_replicate, List.length_cons, List.length_nil, List.length_take, List.length_drop, List.length_range] at *; omega) | grind))); rotate_left; (first | omega | (simp only [List.length_map, List.length_append, List.length_set, List.length_replicate, List.length_cons, List.length_nil, List.length_take, List.length_drop, List.length_range] at *; omega) | grind); (conv => whnf)) | ((first | apply IsL.set (f := pI) (a := _) rfl | apply IsL.rep (f := pI) (a := _) rfl | apply IsL.set (f := pB) (a := _) rfl | apply IsL.rep (f := pB) (a := _) rfl | apply IsL.set (f := Dom.pv) (a := _) rfl | apply IsL.rep (f := Dom.pv) (a := _) rfl | (apply IsL.set (f := Dom.pv) (a := ⟨_, _⟩); dsimp only [Dom.pv]; exact rfl) | (apply IsL.rep (f := Dom.pv) (a := ⟨_, _⟩); dsimp only [Dom.pv]; exact rfl) | apply IsL.set (f := Wr.pv) (a := _) rfl | apply IsL.rep (f := Wr.pv) (a := _) rfl | (apply IsL.set (f := Wr.pv) (a := ⟨_, _, _⟩); dsimp only [Wr.pv]; exact rfl) | (apply IsL.rep (f := Wr.pv) (a := ⟨_, _, _⟩); dsimp only [Wr.pv]; exact rfl) | apply IsL.lit (f := pI) [] rfl | apply IsL.lit (f := pI) [_] rfl | apply IsL.lit (f := pI) [_, _] rfl | apply IsL.lit (f := pI) [_, _, _] rfl | apply IsL.lit (f := pI) [_, _, _, _] rfl | apply IsL.lit (f := pB) [] rfl | apply IsL.lit (f := pB) [_] rfl | apply IsL.lit (f := pB) [_, _] rfl | apply IsL.lit (f := pB) [_, _, _] rfl | apply IsL.lit (f := pB) [_, _, _, _] rfl | apply IsL.lit (f := Dom.pv) [] rfl | apply IsL.lit (f := Dom.pv) [_] rfl | apply IsL.lit (f := Dom.pv) [_, _] rfl | apply IsL.lit (f := Dom.pv) [_, _, _] rfl | apply IsL.lit (f := Dom.pv) [_, _, _, _] rfl | apply IsL.lit (f := Dom.pv) [] rfl | apply IsL.lit (f := Dom.pv) [⟨_, _⟩] rfl | apply IsL.lit (f := Dom.pv) [⟨_, _⟩, ⟨_, _⟩] rfl | apply IsL.lit (f := Dom.pv) [⟨_, _⟩, ⟨_, _⟩, ⟨_, _⟩] rfl | apply IsL.lit (f := Dom.pv) [⟨_, _⟩, ⟨_, _⟩, ⟨_, _⟩, ⟨_, _⟩] rfl | apply IsL.lit (f := Wr.pv) [] rfl | apply IsL.lit (f := Wr.pv) [_] rfl | apply IsL.lit (f := Wr.pv) [_, _] rfl | apply IsL.lit (f := Wr.pv) [_, _, _] rfl | apply IsL.lit (f := Wr.pv) [_, _, _, _] rfl | apply IsL.lit (f := Wr.pv) [] rfl | apply IsL.lit (f := Wr.pv) [⟨_, _, _⟩] rfl | apply IsL.lit (f := Wr.pv) [⟨_, _, _⟩, ⟨_, _, _⟩] rfl | apply IsL.lit (f := Wr.pv) [⟨_, _, _⟩, ⟨_, _, _⟩, ⟨_, _, _⟩] rfl | apply IsL.lit (f := Wr.pv) [⟨_, _, _⟩, ⟨_, _, _⟩, ⟨_, _, _⟩, ⟨_, _, _⟩] rfl); (conv => whnf)) | (apply And.intro; (first | omega | (simp only [List.length_map, List.length_append, List.length_set, List.length_replicate, List.length_cons, List.length_nil, List.length_take, List.length_drop, List.length_range] at *; omega) | grind); (conv => whnf)) | (apply DrawA.tail 13 (by kernel_rfl) (by kernel_rfl); (conv => whnf)))
        · (refine' ⟨((i : Int) - 1, _), _, _, _⟩; rotate_right; (refine SubA.auto rfl rfl rfl rfl ?_ ?_ <;> repeat' (first | exact trivial | refine And.intro ?_ ?_ | with_reducible rfl | (refine pIEq ?_; (first | omega | (simp only [List.length_map, List.length_append, List.length_set, List.length_replicate, List.length_cons, List.length_nil, List.length_take, List.length_drop, List.length_range] at *; omega) | grind)) | (refine bufMap ?_) | (refine bufNil ?_) | (refine bufEq ?_) | rfl)); rotate_right; (first | omega | (simp only []; omega) | (simp; omega) | (first | omega | (simp only [List.length_map, List.length_append, List.length_set, List.length_replicate, List.length_cons, List.length_nil, List.length_take, List.length_drop, List.length_range] at *; omega) | grind)))
          refine ⟨by omega, by omega, ?_⟩
          rw [show ((i : Int) - 1 + 1).toNat = i by omega, hg1, hg2 (by omega)]
          exact hon h0
        · (refine' ⟨((i : Int) - 1, _), _, _, _⟩; rotate_right; (refine SubA.auto rfl rfl rfl rfl ?_ ?_ <;> repeat' (first | exact trivial | refine And.intro ?_ ?_ | with_reducible rfl | (refine pIEq ?_; (first | omega | (simp only [List.length_map, List.length_append, List.length_set, List.length_replicate, List.length_cons, List.length_nil, List.length_take, List.length_drop, List.length_range] at *; omega) | grind)) | (refine bufMap ?_) | (refine bufNil ?_) | (refine bufEq ?_) | rfl)); rotate_right; (first | omega | (simp only []; omega) | (simp; omega) | (first | omega | (simp only [List.length_map, List.length_append, List.length_set, List.length_replicate, List.length_cons, List.length_nil, List.length_take, List.length_drop, List.length_range] at *; omega) | grind)))
          refine ⟨by omega, by omega, ?_⟩
          rw [show ((i : Int) - 1 + 1).toNat = i by omega]
          exact hoff h0
end Go.Proofs.Ytcamcidhkjijlaa
