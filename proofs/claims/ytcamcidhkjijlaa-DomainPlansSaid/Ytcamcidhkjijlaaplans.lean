/- DomainPlans' walk. -/
import Derived.Test.Ytcamcidhkjijlaarefuse
namespace Go.Proofs.Ytcamcidhkjijlaa
set_option linter.unusedSimpArgs false
set_option linter.unusedVariables false
set_option linter.unnecessarySimpa false
open Go.Abs
set_option maxRecDepth 100000
section
variable {l : List Dom} {a b : List Bool}
/-- Where they differ. -/
def difD (a b : List Bool) (n : Nat) : List Nat := (List.range n).filter (offAt b a)
def stJ (a : List Bool) (D : List Nat) (n j : Nat) : List Bool := (List.range n).map fun k => a.getD k false || (D.take j).contains k
def LeB (a b : List Bool) : Prop := ∀ k, a.getD k false = true → b.getD k false = true
theorem difD_mem {n k : Nat} : k ∈ difD a b n ↔ k < n ∧ b.getD k false = true ∧ a.getD k false = false := by
  simp [difD, offAt]
theorem difD_sorted (n : Nat) : (difD a b n).Pairwise (· < ·) := List.Pairwise.filter _ List.pairwise_lt_range
theorem take_low {D : List Nat} (h : D.Pairwise (· < ·)) {j x y : Nat} (hx : x ∈ D.take j) (hy : y ∈ D) (hlt : y < x) : y ∈ D.take j := by
  rw [← List.take_append_drop j D] at h hy
  have h1 := (List.pairwise_append.1 h).2.2
  rcases List.mem_append.1 hy with h2 | h2
  · exact h2
  · have := h1 x hx y h2
    omega
theorem take_not {D : List Nat} (h : D.Pairwise (· < ·)) {j : Nat} (hj : j < D.length) : D[j] ∉ D.take j := by
  intro hx
  have h2 : D[j] ∈ D.drop j := by rw [List.drop_eq_getElem_cons hj]; exact List.mem_cons_self ..
  rw [← List.take_append_drop j D] at h
  have := (List.pairwise_append.1 h).2.2 _ hx _ h2
  omega
theorem stJ_length (D : List Nat) (n j : Nat) : (stJ a D n j).length = n := by simp [stJ]
theorem stJ_get {D : List Nat} {n j k : Nat} (h : k < n) : (stJ a D n j).getD k false = (a.getD k false || (D.take j).contains k) := by simp [stJ, h]
theorem stJ_right (ht : Tree l) (ra : Right l a) (rb : Right l b) (hle : LeB a b) (j : Nat) : Right l (stJ a (difD a b l.length) l.length j) := by
  refine ⟨by simp [stJ], fun i hi => ?_⟩
  have hp := ht i hi
  rw [stJ_get hi]
  refine ⟨fun h => by rw [(ra.2 i hi).1 h]; rfl, fun h h0 => ?_⟩
  rw [stJ_get (by omega)]
  rw [Bool.or_eq_true] at h ⊢
  rcases h with h | h
  · exact .inl ((ra.2 i hi).2 h h0)
  · have hm : i ∈ (difD a b l.length).take j := by simpa using h
    have hd := difD_mem.1 (List.mem_of_mem_take hm)
    have hb := (rb.2 i hi).2 hd.2.1 h0
    cases ha : a.getD l[i].parent.toNat false with
    | true => exact .inl rfl
    | false =>
      right
      have : l[i].parent.toNat ∈ (difD a b l.length).take j := take_low (difD_sorted _) hm (difD_mem.2 ⟨by omega, hb, ha⟩) (by omega)
      simpa using this
theorem stJ_set {D : List Nat} {n j : Nat} (hj : j < D.length) : (stJ a D n j).set D[j] true = stJ a D n (j + 1) := by
  refine List.ext_getElem (by simp [stJ]) fun k h1 h2 => ?_
  have hk : k < n := by simpa [stJ] using h2
  rw [List.getElem_set]
  simp only [stJ, List.getElem_map, List.getElem_range, List.take_succ_eq_append_getElem hj, List.contains_append]
  split
  · rename_i h; subst h; simp
  · rename_i h
    have h3 : ¬ k = D[j] := fun e => h e.symm
    simp [h3]
theorem stJ_unset {n j : Nat} (hj : j < (difD a b n).length) : (stJ a (difD a b n) n (j + 1)).set (difD a b n)[j] false = stJ a (difD a b n) n j := by
  have hd := difD_mem.1 (List.getElem_mem hj)
  have hn := take_not (difD_sorted (a := a) (b := b) n) hj
  refine List.ext_getElem (by simp [stJ]) fun k h1 h2 => ?_
  have hk : k < n := by simpa [stJ] using h2
  rw [List.getElem_set]
  simp only [stJ, List.getElem_map, List.getElem_range, List.take_succ_eq_append_getElem hj, List.contains_append]
  split
  · rename_i h; subst h
    rw [hd.2.2]
    symm
    simpa using hn
  · rename_i h
    have h3 : ¬ k = (difD a b n)[j] := fun e => h e.symm
    simp [h3]
def on1 (i : Nat) : Wr := ⟨12, i, 1⟩
def off0 (i : Nat) : Wr := ⟨12, i, 0⟩
theorem badW_of {i : Nat} (h : i < l.length) {v : Int} (hv : v = 0 ∨ v = 1) : badW l ⟨12, i, v⟩ = false := by
  have h1 : ¬ ((l.length : Int) ≤ (i : Int)) := by omega
  have h2 : ¬ ((i : Int) < 0) := by omega
  rcases hv with rfl | rfl <;> simp [badW, h1, h2]
theorem applyF_up (ht : Tree l) (ra : Right l a) (rb : Right l b) (hle : LeB a b) : ∀ (m j : Nat) (c : Int), j + m ≤ (difD a b l.length).length →
    applyF l ((((difD a b l.length).drop j).take m).map on1) (stJ a (difD a b l.length) l.length j) c = ⟨stJ a (difD a b l.length) l.length (j + m), c + m, 0⟩ := by
  intro m
  induction m with
  | zero => intro j c _; simp [applyF]
  | succ m ih =>
    intro j c h
    have hj : j < (difD a b l.length).length := by omega
    have hd := difD_mem.1 (List.getElem_mem hj)
    have hn := take_not (difD_sorted (a := a) (b := b) l.length) hj
    rw [List.drop_eq_getElem_cons hj, List.take_succ_cons, List.map_cons, applyF]
    have e1 : badW l (on1 (difD a b l.length)[j]) = false := badW_of hd.1 (.inr rfl)
    rw [e1, if_neg (by decide)]
    have e2 : (stJ a (difD a b l.length) l.length j).getD (on1 (difD a b l.length)[j]).unit.toNat false = false := by
      show (stJ a (difD a b l.length) l.length j).getD (difD a b l.length)[j] false = false
      rw [stJ_get hd.1, hd.2.2]
      simpa using hn
    have e3 : ((on1 (difD a b l.length)[j]).value == 1) = true := rfl
    rw [e2, e3, if_neg (by decide)]
    have e4 : (stJ a (difD a b l.length) l.length j).set (on1 (difD a b l.length)[j]).unit.toNat true = stJ a (difD a b l.length) l.length (j + 1) := stJ_set hj
    rw [e4, if_pos (stJ_right ht ra rb hle _), ih (j + 1) (c + 1) (by omega)]
    congr 1
    · congr 1; omega
    · omega
theorem applyF_down (ht : Tree l) (ra : Right l a) (rb : Right l b) (hle : LeB a b) : ∀ (j : Nat) (c : Int), j ≤ (difD a b l.length).length →
    applyF l ((((difD a b l.length).take j).map off0).reverse) (stJ a (difD a b l.length) l.length j) c = ⟨stJ a (difD a b l.length) l.length 0, c + j, 0⟩ := by
  intro j
  induction j with
  | zero => intro c _; simp [applyF]
  | succ j ih =>
    intro c h
    have hj : j < (difD a b l.length).length := by omega
    have hd := difD_mem.1 (List.getElem_mem hj)
    rw [List.take_succ_eq_append_getElem hj, List.map_append, List.reverse_append]
    show applyF l (off0 (difD a b l.length)[j] :: _) _ _ = _
    rw [applyF]
    have e1 : badW l (off0 (difD a b l.length)[j]) = false := badW_of hd.1 (.inl rfl)
    rw [e1, if_neg (by decide)]
    have e2 : (stJ a (difD a b l.length) l.length (j + 1)).getD (off0 (difD a b l.length)[j]).unit.toNat false = true := by
      show (stJ a (difD a b l.length) l.length (j + 1)).getD (difD a b l.length)[j] false = true
      rw [stJ_get hd.1]
      have : (difD a b l.length)[j] ∈ (difD a b l.length).take (j + 1) := by rw [List.take_succ_eq_append_getElem hj]; exact List.mem_append_right _ (List.mem_singleton.2 rfl)
      rw [Bool.or_eq_true]; right; simpa using this
    have e3 : ((off0 (difD a b l.length)[j]).value == 1) = false := rfl
    rw [e2, e3, if_neg (by decide)]
    have e4 : (stJ a (difD a b l.length) l.length (j + 1)).set (off0 (difD a b l.length)[j]).unit.toNat false = stJ a (difD a b l.length) l.length j := stJ_unset hj
    rw [e4, if_pos (stJ_right ht ra rb hle _)]
    refine (ih (c + 1) (by omega)).trans ?_
    congr 1
    omega
theorem stJ_zero (ra : a.length = l.length) : stJ a (difD a b l.length) l.length 0 = a := by
  refine List.ext_getElem (by simp [stJ, ra]) fun k h1 h2 => ?_
  simp [stJ, h2]
theorem stJ_all (ra : a.length = l.length) (rb : b.length = l.length) (hle : LeB a b) : stJ a (difD a b l.length) l.length (difD a b l.length).length = b := by
  refine List.ext_getElem (by simp [stJ, rb]) fun k h1 h2 => ?_
  have hk : k < l.length := by omega
  have e : b.getD k false = b[k] := by simp [h2]
  have h3 := hle k
  have h4 : k ∈ difD a b l.length ↔ _ := difD_mem
  simp only [stJ, List.getElem_map, List.getElem_range, List.take_length]
  rw [← e, Bool.eq_iff_iff, Bool.or_eq_true, List.contains_iff_mem, h4]
  constructor
  · rintro (h | h)
    · exact h3 h
    · exact h.2.1
  · intro h
    cases ha : a.getD k false with
    | true => exact .inl rfl
    | false => exact .inr ⟨hk, h, rfl⟩
theorem plan_up (hle : LeB a b) (n : Nat) : planL a b n = (difD a b n).map on1 := by
  have : offs a b n = [] := by
    unfold offs
    rw [List.filter_eq_nil_iff.2]
    · rfl
    · intro k _
      have := hle k
      simp only [offAt]
      cases h : a.getD k false <;> simp_all
  rw [planL, this]
  rfl
theorem plan_down (hle : LeB a b) (n : Nat) : planL b a n = ((difD a b n).map off0).reverse := by
  have : ons b a n = [] := by
    unfold ons
    rw [List.filter_eq_nil_iff.2]
    · rfl
    · intro k _
      have := hle k
      simp only [offAt]
      cases h : a.getD k false <;> simp_all
  rw [planL, this, List.append_nil]
  rfl
end
theorem onR_le {l : List Dom} {u v : List Int} (h1 : exam l u = 0) (h2 : exam l (u ++ v) = 0) : LeB (onR l u) (onR l (u ++ v)) := by
  intro k h
  have hk : k < l.length := by
    apply Classical.byContradiction
    intro hn
    have : (onR l u).length ≤ k := by rw [onR_len h1]; omega
    simp [List.getD, List.getElem?_eq_none this] at h
  rw [List.getD, onR_get h1 hk] at h
  rw [List.getD, onR_get h2 hk, onB_append]
  simp at h ⊢
  exact .inl h
theorem apply_up {l : List Dom} {a b : List Bool} (hd : domOk l = 0) (ra : Right l a) (rb : Right l b) (hle : LeB a b) {m : Nat} (hm : m ≤ (difD a b l.length).length) :
    applyR l a (((difD a b l.length).map on1).take m) = ⟨stJ a (difD a b l.length) l.length m, m, 0⟩ := by
  have ht := (domOk_zero.1 hd).2
  have := applyF_up ht ra rb hle m 0 0 (by omega)
  rw [stJ_zero ra.1, List.drop_zero] at this
  rw [applyR, if_pos hd, if_pos ra, ← List.map_take, this]
  simp
theorem apply_down {l : List Dom} {a b : List Bool} (hd : domOk l = 0) (ra : Right l a) (rb : Right l b) (hle : LeB a b) :
    applyR l b ((difD a b l.length).map off0).reverse = ⟨a, (difD a b l.length).length, 0⟩ := by
  have ht := (domOk_zero.1 hd).2
  have := applyF_down ht ra rb hle (difD a b l.length).length 0 (Nat.le_refl _)
  rw [stJ_zero ra.1, stJ_all ra.1 rb.1 hle, List.take_length] at this
  rw [applyR, if_pos hd, if_pos rb, this]
  simp
theorem planE_right {l : List Dom} {a b : List Bool} (hd : domOk l = 0) (ra : Right l a) (rb : Right l b) : planE l a b = 0 := by rw [planE, if_pos hd, if_pos ⟨ra, rb⟩]
theorem planR_up {l : List Dom} {a b : List Bool} (hd : domOk l = 0) (ra : Right l a) (rb : Right l b) (hle : LeB a b) : planR l a b = (difD a b l.length).map on1 := by
  rw [planR, if_pos (planE_right hd ra rb), plan_up hle]
theorem planR_down {l : List Dom} {a b : List Bool} (hd : domOk l = 0) (ra : Right l a) (rb : Right l b) (hle : LeB a b) : planR l b a = ((difD a b l.length).map off0).reverse := by
  rw [planR, if_pos (planE_right hd rb ra), plan_down hle]
set_option maxHeartbeats 4000000 in
theorem DomainPlans_call (nl : Bool) (ts : List Int) : ACall Try.prog 7 [.p (.list nl (ts.map pI))] [] fun r H => r = .p (pB true) := by
  refine acall_enter Try.func7 rfl rfl tabOK rfl ?_
  (conv => whnf); repeat' (first | ((first | apply LenA.map | apply NilA.map | apply NilA.mk); intro _; (conv => whnf)) | ((first | apply NW.i64 | apply InA.nat | apply InA.map | apply AppA.snoc (f := pI) (a := _) rfl | apply AppA.one (f := pI) (a := _) rfl | apply AppA.snoc (f := pB) (a := _) rfl | apply AppA.one (f := pB) (a := _) rfl | apply AppA.snoc (f := Dom.pv) (a := _) rfl | apply AppA.one (f := Dom.pv) (a := _) rfl | apply AppA.snoc (f := Dom.pv) (a := ⟨_, _⟩) rfl | apply AppA.one (f := Dom.pv) (a := ⟨_, _⟩) rfl | apply AppA.snoc (f := Wr.pv) (a := _) rfl | apply AppA.one (f := Wr.pv) (a := _) rfl | apply AppA.snoc (f := Wr.pv) (a := ⟨_, _, _⟩) rfl | apply AppA.one (f := Wr.pv) (a := ⟨_, _, _⟩) rfl | apply AppA.map | apply AppA.nil | apply CutA.lo | apply CutA.hi); (first | omega | (simp only [List.length_map, List.length_append, List.length_set, List.length_replicate, List.length_cons, List.length_nil, List.length_take, List.length_drop, List.length_range] at *; omega) | grind); (conv => whnf)) | ((first | (apply RemA.as; assumption) | apply RemA.self); (first | omega | (simp only [List.length_map, List.length_append, List.length_set, List.length_replicate, List.length_cons, List.length_nil, List.length_take, List.length_drop, List.length_range] at *; omega) | grind); (conv => whnf)) | ((first | (apply ValA.as; assumption) | apply ValA.self | (apply NW.as; assumption)); (conv => whnf)) | (apply SzA.map; (intro _; rfl); (conv => whnf)) | (with_reducible apply br_pt; (conv => whnf)) | (with_reducible apply br_pf; (conv => whnf)) | (with_reducible apply br_mt; (conv => whnf)) | (with_reducible apply br_mf; (conv => whnf)) | (apply Both.mk <;> (conv => whnf)) | ((first | (apply br_T; assumption) | (apply br_F; assumption) | (apply br_mT; assumption) | (apply br_mF; assumption)); (conv => whnf)) | ((first | apply br_lss | apply br_leq | apply br_gtr | apply br_geq | apply br_dec | apply br_beq | apply br_bne | apply br_beqB | apply br_bneB | apply br_not | apply br_m | apply br_intro) <;> intro h0 <;> first | (exfalso; omega) | (exfalso; exact tf h0 (by assumption)) | (exfalso; exact tf (by assumption) h0) | (exfalso; exact h0 (by assumption)) | (conv => whnf)) | ((first | apply IdxA.of_nat | (apply IdxA.of_map; (first | omega | (simp only [List.length_map, List.length_append, List.length_set, List.length_replicate, List.length_cons, List.length_nil, List.length_take, List.length_drop, List.length_range] at *; omega) | grind))); rotate_left; (first | omega | (simp only [List.length_map, List.length_append, List.length_set, List.length_replicate, List.length_cons, List.length_nil, List.length_take, List.length_drop, List.length_range] at *; omega) | grind); (conv => whnf)) | ((first | apply IsL.set (f := pI) (a := _) rfl | apply IsL.rep (f := pI) (a := _) rfl | apply IsL.set (f := pB) (a := _) rfl | apply IsL.rep (f := pB) (a := _) rfl | apply IsL.set (f := Dom.pv) (a := _) rfl | apply IsL.rep (f := Dom.pv) (a := _) rfl | apply IsL.set (f := Dom.pv) (a := ⟨_, _⟩) rfl | apply IsL.rep (f := Dom.pv) (a := ⟨_, _⟩) rfl | apply IsL.set (f := Wr.pv) (a := _) rfl | apply IsL.rep (f := Wr.pv) (a := _) rfl | apply IsL.set (f := Wr.pv) (a := ⟨_, _, _⟩) rfl | apply IsL.rep (f := Wr.pv) (a := ⟨_, _, _⟩) rfl | apply IsL.lit (f := pI) [] rfl | apply IsL.lit (f := pI) [_] rfl | apply IsL.lit (f := pI) [_, _] rfl | apply IsL.lit (f := pI) [_, _, _] rfl | apply IsL.lit (f := pI) [_, _, _, _] rfl | apply IsL.lit (f := pB) [] rfl | apply IsL.lit (f := pB) [_] rfl | apply IsL.lit (f := pB) [_, _] rfl | apply IsL.lit (f := pB) [_, _, _] rfl | apply IsL.lit (f := pB) [_, _, _, _] rfl | apply IsL.lit (f := Dom.pv) [] rfl | apply IsL.lit (f := Dom.pv) [_] rfl | apply IsL.lit (f := Dom.pv) [_, _] rfl | apply IsL.lit (f := Dom.pv) [_, _, _] rfl | apply IsL.lit (f := Dom.pv) [_, _, _, _] rfl | apply IsL.lit (f := Dom.pv) [] rfl | apply IsL.lit (f := Dom.pv) [⟨_, _⟩] rfl | apply IsL.lit (f := Dom.pv) [⟨_, _⟩, ⟨_, _⟩] rfl | apply IsL.lit (f := Dom.pv) [⟨_, _⟩, ⟨_, _⟩, ⟨_, _⟩] rfl | apply IsL.lit (f := Dom.pv) [⟨_, _⟩, ⟨_, _⟩, ⟨_, _⟩, ⟨_, _⟩] rfl | apply IsL.lit (f := Wr.pv) [] rfl | apply IsL.lit (f := Wr.pv) [_] rfl | apply IsL.lit (f := Wr.pv) [_, _] rfl | apply IsL.lit (f := Wr.pv) [_, _, _] rfl | apply IsL.lit (f := Wr.pv) [_, _, _, _] rfl | apply IsL.lit (f := Wr.pv) [] rfl | apply IsL.lit (f := Wr.pv) [⟨_, _, _⟩] rfl | apply IsL.lit (f := Wr.pv) [⟨_, _, _⟩, ⟨_, _, _⟩] rfl | apply IsL.lit (f := Wr.pv) [⟨_, _, _⟩, ⟨_, _, _⟩, ⟨_, _, _⟩] rfl | apply IsL.lit (f := Wr.pv) [⟨_, _, _⟩, ⟨_, _, _⟩, ⟨_, _, _⟩, ⟨_, _, _⟩] rfl); (conv => whnf)) | (apply And.intro; (first | omega | (simp only [List.length_map, List.length_append, List.length_set, List.length_replicate, List.length_cons, List.length_nil, List.length_take, List.length_drop, List.length_range] at *; omega) | grind); (conv => whnf)) | (apply DrawA.quiet (by kernel_rfl) (by kernel_rfl); (conv => whnf); fail_if_success (show False)) | (refine CallA.scalar (sane_call) ?_; (conv => whnf)))
  · (refine RetK.p ?_ <;> repeat' (first | exact trivial | refine And.intro ?_ ?_ | with_reducible rfl | (refine pIEq ?_; (first | omega | (simp only [List.length_map, List.length_append, List.length_set, List.length_replicate, List.length_cons, List.length_nil, List.length_take, List.length_drop, List.length_range] at *; omega) | grind)) | (refine bufMap ?_) | (refine bufNil ?_) | (refine bufEq ?_) | rfl); all_goals try first | refine pBEq ?_ | refine pIEq ?_)
  · refine CallA.loc [] [] rfl rfl ((New_call nl ts).mono ?_)
    rintro r H ⟨ts', rfl, rfl⟩
    conv => whnf
    refine CallA.all ((Domains_call nl ts' 0 (Nat.zero_le _) 9 (by omega)).mono ?_)
    rintro r H ⟨l, nl2, i', ht, hl, hi', rfl, rfl⟩
    have hd : domOk l = 0 := domOk_zero.2 ⟨by omega, ht⟩
    (conv => whnf); repeat' (first | ((first | apply LenA.map | apply NilA.map | apply NilA.mk); intro _; (conv => whnf)) | ((first | apply NW.i64 | apply InA.nat | apply InA.map | apply AppA.snoc (f := pI) (a := _) rfl | apply AppA.one (f := pI) (a := _) rfl | apply AppA.snoc (f := pB) (a := _) rfl | apply AppA.one (f := pB) (a := _) rfl | apply AppA.snoc (f := Dom.pv) (a := _) rfl | apply AppA.one (f := Dom.pv) (a := _) rfl | apply AppA.snoc (f := Dom.pv) (a := ⟨_, _⟩) rfl | apply AppA.one (f := Dom.pv) (a := ⟨_, _⟩) rfl | apply AppA.snoc (f := Wr.pv) (a := _) rfl | apply AppA.one (f := Wr.pv) (a := _) rfl | apply AppA.snoc (f := Wr.pv) (a := ⟨_, _, _⟩) rfl | apply AppA.one (f := Wr.pv) (a := ⟨_, _, _⟩) rfl | apply AppA.map | apply AppA.nil | apply CutA.lo | apply CutA.hi); (first | omega | (simp only [List.length_map, List.length_append, List.length_set, List.length_replicate, List.length_cons, List.length_nil, List.length_take, List.length_drop, List.length_range] at *; omega) | grind); (conv => whnf)) | ((first | (apply RemA.as; assumption) | apply RemA.self); (first | omega | (simp only [List.length_map, List.length_append, List.length_set, List.length_replicate, List.length_cons, List.length_nil, List.length_take, List.length_drop, List.length_range] at *; omega) | grind); (conv => whnf)) | ((first | (apply ValA.as; assumption) | apply ValA.self | (apply NW.as; assumption)); (conv => whnf)) | (apply SzA.map; (intro _; rfl); (conv => whnf)) | (with_reducible apply br_pt; (conv => whnf)) | (with_reducible apply br_pf; (conv => whnf)) | (with_reducible apply br_mt; (conv => whnf)) | (with_reducible apply br_mf; (conv => whnf)) | (apply Both.mk <;> (conv => whnf)) | ((first | (apply br_T; assumption) | (apply br_F; assumption) | (apply br_mT; assumption) | (apply br_mF; assumption)); (conv => whnf)) | ((first | apply br_lss | apply br_leq | apply br_gtr | apply br_geq | apply br_dec | apply br_beq | apply br_bne | apply br_beqB | apply br_bneB | apply br_not | apply br_m | apply br_intro) <;> intro h0 <;> first | (exfalso; omega) | (exfalso; exact tf h0 (by assumption)) | (exfalso; exact tf (by assumption) h0) | (exfalso; exact h0 (by assumption)) | (conv => whnf)) | ((first | apply IdxA.of_nat | (apply IdxA.of_map; (first | omega | (simp only [List.length_map, List.length_append, List.length_set, List.length_replicate, List.length_cons, List.length_nil, List.length_take, List.length_drop, List.length_range] at *; omega) | grind))); rotate_left; (first | omega | (simp only [List.length_map, List.length_append, List.length_set, List.length_replicate, List.length_cons, List.length_nil, List.length_take, List.length_drop, List.length_range] at *; omega) | grind); (conv => whnf)) | ((first | apply IsL.set (f := pI) (a := _) rfl | apply IsL.rep (f := pI) (a := _) rfl | apply IsL.set (f := pB) (a := _) rfl | apply IsL.rep (f := pB) (a := _) rfl | apply IsL.set (f := Dom.pv) (a := _) rfl | apply IsL.rep (f := Dom.pv) (a := _) rfl | apply IsL.set (f := Dom.pv) (a := ⟨_, _⟩) rfl | apply IsL.rep (f := Dom.pv) (a := ⟨_, _⟩) rfl | apply IsL.set (f := Wr.pv) (a := _) rfl | apply IsL.rep (f := Wr.pv) (a := _) rfl | apply IsL.set (f := Wr.pv) (a := ⟨_, _, _⟩) rfl | apply IsL.rep (f := Wr.pv) (a := ⟨_, _, _⟩) rfl | apply IsL.lit (f := pI) [] rfl | apply IsL.lit (f := pI) [_] rfl | apply IsL.lit (f := pI) [_, _] rfl | apply IsL.lit (f := pI) [_, _, _] rfl | apply IsL.lit (f := pI) [_, _, _, _] rfl | apply IsL.lit (f := pB) [] rfl | apply IsL.lit (f := pB) [_] rfl | apply IsL.lit (f := pB) [_, _] rfl | apply IsL.lit (f := pB) [_, _, _] rfl | apply IsL.lit (f := pB) [_, _, _, _] rfl | apply IsL.lit (f := Dom.pv) [] rfl | apply IsL.lit (f := Dom.pv) [_] rfl | apply IsL.lit (f := Dom.pv) [_, _] rfl | apply IsL.lit (f := Dom.pv) [_, _, _] rfl | apply IsL.lit (f := Dom.pv) [_, _, _, _] rfl | apply IsL.lit (f := Dom.pv) [] rfl | apply IsL.lit (f := Dom.pv) [⟨_, _⟩] rfl | apply IsL.lit (f := Dom.pv) [⟨_, _⟩, ⟨_, _⟩] rfl | apply IsL.lit (f := Dom.pv) [⟨_, _⟩, ⟨_, _⟩, ⟨_, _⟩] rfl | apply IsL.lit (f := Dom.pv) [⟨_, _⟩, ⟨_, _⟩, ⟨_, _⟩, ⟨_, _⟩] rfl | apply IsL.lit (f := Wr.pv) [] rfl | apply IsL.lit (f := Wr.pv) [_] rfl | apply IsL.lit (f := Wr.pv) [_, _] rfl | apply IsL.lit (f := Wr.pv) [_, _, _] rfl | apply IsL.lit (f := Wr.pv) [_, _, _, _] rfl | apply IsL.lit (f := Wr.pv) [] rfl | apply IsL.lit (f := Wr.pv) [⟨_, _, _⟩] rfl | apply IsL.lit (f := Wr.pv) [⟨_, _, _⟩, ⟨_, _, _⟩] rfl | apply IsL.lit (f := Wr.pv) [⟨_, _, _⟩, ⟨_, _, _⟩, ⟨_, _, _⟩] rfl | apply IsL.lit (f := Wr.pv) [⟨_, _, _⟩, ⟨_, _, _⟩, ⟨_, _, _⟩, ⟨_, _, _⟩] rfl); (conv => whnf)) | (apply And.intro; (first | omega | (simp only [List.length_map, List.length_append, List.length_set, List.length_replicate, List.length_cons, List.length_nil, List.length_take, List.length_drop, List.length_range] at *; omega) | grind); (conv => whnf)) | (apply DrawA.quiet (by kernel_rfl) (by kernel_rfl); (conv => whnf); fail_if_success (show False)))
    refine CallA.loc [0] [] rfl rfl ((Some_call nl ts' i' hi' _ 3 (by omega) (by omega)).mono ?_)
    rintro r H ⟨u, nl3, i2, hu, hi2, rfl, rfl⟩
    have ul := hu.length (by omega)
    (conv => whnf); repeat' (first | ((first | apply LenA.map | apply NilA.map | apply NilA.mk); intro _; (conv => whnf)) | ((first | apply NW.i64 | apply InA.nat | apply InA.map | apply AppA.snoc (f := pI) (a := _) rfl | apply AppA.one (f := pI) (a := _) rfl | apply AppA.snoc (f := pB) (a := _) rfl | apply AppA.one (f := pB) (a := _) rfl | apply AppA.snoc (f := Dom.pv) (a := _) rfl | apply AppA.one (f := Dom.pv) (a := _) rfl | apply AppA.snoc (f := Dom.pv) (a := ⟨_, _⟩) rfl | apply AppA.one (f := Dom.pv) (a := ⟨_, _⟩) rfl | apply AppA.snoc (f := Wr.pv) (a := _) rfl | apply AppA.one (f := Wr.pv) (a := _) rfl | apply AppA.snoc (f := Wr.pv) (a := ⟨_, _, _⟩) rfl | apply AppA.one (f := Wr.pv) (a := ⟨_, _, _⟩) rfl | apply AppA.map | apply AppA.nil | apply CutA.lo | apply CutA.hi); (first | omega | (simp only [List.length_map, List.length_append, List.length_set, List.length_replicate, List.length_cons, List.length_nil, List.length_take, List.length_drop, List.length_range] at *; omega) | grind); (conv => whnf)) | ((first | (apply RemA.as; assumption) | apply RemA.self); (first | omega | (simp only [List.length_map, List.length_append, List.length_set, List.length_replicate, List.length_cons, List.length_nil, List.length_take, List.length_drop, List.length_range] at *; omega) | grind); (conv => whnf)) | ((first | (apply ValA.as; assumption) | apply ValA.self | (apply NW.as; assumption)); (conv => whnf)) | (apply SzA.map; (intro _; rfl); (conv => whnf)) | (with_reducible apply br_pt; (conv => whnf)) | (with_reducible apply br_pf; (conv => whnf)) | (with_reducible apply br_mt; (conv => whnf)) | (with_reducible apply br_mf; (conv => whnf)) | (apply Both.mk <;> (conv => whnf)) | ((first | (apply br_T; assumption) | (apply br_F; assumption) | (apply br_mT; assumption) | (apply br_mF; assumption)); (conv => whnf)) | ((first | apply br_lss | apply br_leq | apply br_gtr | apply br_geq | apply br_dec | apply br_beq | apply br_bne | apply br_beqB | apply br_bneB | apply br_not | apply br_m | apply br_intro) <;> intro h0 <;> first | (exfalso; omega) | (exfalso; exact tf h0 (by assumption)) | (exfalso; exact tf (by assumption) h0) | (exfalso; exact h0 (by assumption)) | (conv => whnf)) | ((first | apply IdxA.of_nat | (apply IdxA.of_map; (first | omega | (simp only [List.length_map, List.length_append, List.length_set, List.length_replicate, List.length_cons, List.length_nil, List.length_take, List.length_drop, List.length_range] at *; omega) | grind))); rotate_left; (first | omega | (simp only [List.length_map, List.length_append, List.length_set, List.length_replicate, List.length_cons, List.length_nil, List.length_take, List.length_drop, List.length_range] at *; omega) | grind); (conv => whnf)) | ((first | apply IsL.set (f := pI) (a := _) rfl | apply IsL.rep (f := pI) (a := _) rfl | apply IsL.set (f := pB) (a := _) rfl | apply IsL.rep (f := pB) (a := _) rfl | apply IsL.set (f := Dom.pv) (a := _) rfl | apply IsL.rep (f := Dom.pv) (a := _) rfl | apply IsL.set (f := Dom.pv) (a := ⟨_, _⟩) rfl | apply IsL.rep (f := Dom.pv) (a := ⟨_, _⟩) rfl | apply IsL.set (f := Wr.pv) (a := _) rfl | apply IsL.rep (f := Wr.pv) (a := _) rfl | apply IsL.set (f := Wr.pv) (a := ⟨_, _, _⟩) rfl | apply IsL.rep (f := Wr.pv) (a := ⟨_, _, _⟩) rfl | apply IsL.lit (f := pI) [] rfl | apply IsL.lit (f := pI) [_] rfl | apply IsL.lit (f := pI) [_, _] rfl | apply IsL.lit (f := pI) [_, _, _] rfl | apply IsL.lit (f := pI) [_, _, _, _] rfl | apply IsL.lit (f := pB) [] rfl | apply IsL.lit (f := pB) [_] rfl | apply IsL.lit (f := pB) [_, _] rfl | apply IsL.lit (f := pB) [_, _, _] rfl | apply IsL.lit (f := pB) [_, _, _, _] rfl | apply IsL.lit (f := Dom.pv) [] rfl | apply IsL.lit (f := Dom.pv) [_] rfl | apply IsL.lit (f := Dom.pv) [_, _] rfl | apply IsL.lit (f := Dom.pv) [_, _, _] rfl | apply IsL.lit (f := Dom.pv) [_, _, _, _] rfl | apply IsL.lit (f := Dom.pv) [] rfl | apply IsL.lit (f := Dom.pv) [⟨_, _⟩] rfl | apply IsL.lit (f := Dom.pv) [⟨_, _⟩, ⟨_, _⟩] rfl | apply IsL.lit (f := Dom.pv) [⟨_, _⟩, ⟨_, _⟩, ⟨_, _⟩] rfl | apply IsL.lit (f := Dom.pv) [⟨_, _⟩, ⟨_, _⟩, ⟨_, _⟩, ⟨_, _⟩] rfl | apply IsL.lit (f := Wr.pv) [] rfl | apply IsL.lit (f := Wr.pv) [_] rfl | apply IsL.lit (f := Wr.pv) [_, _] rfl | apply IsL.lit (f := Wr.pv) [_, _, _] rfl | apply IsL.lit (f := Wr.pv) [_, _, _, _] rfl | apply IsL.lit (f := Wr.pv) [] rfl | apply IsL.lit (f := Wr.pv) [⟨_, _, _⟩] rfl | apply IsL.lit (f := Wr.pv) [⟨_, _, _⟩, ⟨_, _, _⟩] rfl | apply IsL.lit (f := Wr.pv) [⟨_, _, _⟩, ⟨_, _, _⟩, ⟨_, _, _⟩] rfl | apply IsL.lit (f := Wr.pv) [⟨_, _, _⟩, ⟨_, _, _⟩, ⟨_, _, _⟩, ⟨_, _, _⟩] rfl); (conv => whnf)) | (apply And.intro; (first | omega | (simp only [List.length_map, List.length_append, List.length_set, List.length_replicate, List.length_cons, List.length_nil, List.length_take, List.length_drop, List.length_range] at *; omega) | grind); (conv => whnf)) | (apply DrawA.quiet (by kernel_rfl) (by kernel_rfl); (conv => whnf); fail_if_success (show False)))
    refine CallA.loc [0] [] rfl rfl ((Some_call nl ts' i2 hi2 _ 3 (by omega) (by omega)).mono ?_)
    rintro r H ⟨v, nl4, i3, hv, hi3, rfl, rfl⟩
    have vl := hv.length (by omega)
    have eu := exam_of ht (by omega) hu
    have euv := exam_append eu (exam_of ht (by omega) hv)
    have ra := onR_right ht eu
    have rb := onR_right ht euv
    have hle := onR_le eu euv
    have f1 := planE_right hd ra rb
    have f2 := planE_right hd rb ra
    have f3 := planR_up hd ra rb hle
    have f4 := planR_down hd ra rb hle
    have f5 := congrArg List.length f3
    have f6 := congrArg List.length f4
    rw [List.length_map] at f5
    rw [List.length_reverse, List.length_map] at f6
    have l1 := onR_len eu
    have l2 := onR_len euv
    have f7 := apply_down hd ra rb hle
    rw [← f4] at f7
    have f8 := congrArg Res.e f7
    have f9 : decide ((applyR l (onR l (u ++ v)) (planR l (onR l (u ++ v)) (onR l u))).st = onR l u) = true := by rw [f7]; exact decide_eq_true rfl
    simp only at f8
    (conv => whnf); repeat' (first | ((first | apply LenA.map | apply NilA.map | apply NilA.mk); intro _; (conv => whnf)) | ((first | apply NW.i64 | apply InA.nat | apply InA.map | apply AppA.snoc (f := pI) (a := _) rfl | apply AppA.one (f := pI) (a := _) rfl | apply AppA.snoc (f := pB) (a := _) rfl | apply AppA.one (f := pB) (a := _) rfl | apply AppA.snoc (f := Dom.pv) (a := _) rfl | apply AppA.one (f := Dom.pv) (a := _) rfl | apply AppA.snoc (f := Dom.pv) (a := ⟨_, _⟩) rfl | apply AppA.one (f := Dom.pv) (a := ⟨_, _⟩) rfl | apply AppA.snoc (f := Wr.pv) (a := _) rfl | apply AppA.one (f := Wr.pv) (a := _) rfl | apply AppA.snoc (f := Wr.pv) (a := ⟨_, _, _⟩) rfl | apply AppA.one (f := Wr.pv) (a := ⟨_, _, _⟩) rfl | apply AppA.map | apply AppA.nil | apply CutA.lo | apply CutA.hi); (first | omega | (simp only [List.length_map, List.length_append, List.length_set, List.length_replicate, List.length_cons, List.length_nil, List.length_take, List.length_drop, List.length_range] at *; omega) | grind); (conv => whnf)) | ((first | (apply RemA.as; assumption) | apply RemA.self); (first | omega | (simp only [List.length_map, List.length_append, List.length_set, List.length_replicate, List.length_cons, List.length_nil, List.length_take, List.length_drop, List.length_range] at *; omega) | grind); (conv => whnf)) | ((first | (apply ValA.as; assumption) | apply ValA.self | (apply NW.as; assumption)); (conv => whnf)) | (apply SzA.map; (intro _; rfl); (conv => whnf)) | (with_reducible apply br_pt; (conv => whnf)) | (with_reducible apply br_pf; (conv => whnf)) | (with_reducible apply br_mt; (conv => whnf)) | (with_reducible apply br_mf; (conv => whnf)) | (apply Both.mk <;> (conv => whnf)) | ((first | (apply br_T; assumption) | (apply br_F; assumption) | (apply br_mT; assumption) | (apply br_mF; assumption)); (conv => whnf)) | ((first | apply br_lss | apply br_leq | apply br_gtr | apply br_geq | apply br_dec | apply br_beq | apply br_bne | apply br_beqB | apply br_bneB | apply br_not | apply br_m | apply br_intro) <;> intro h0 <;> first | (exfalso; omega) | (exfalso; exact tf h0 (by assumption)) | (exfalso; exact tf (by assumption) h0) | (exfalso; exact h0 (by assumption)) | (conv => whnf)) | ((first | apply IdxA.of_nat | (apply IdxA.of_map; (first | omega | (simp only [List.length_map, List.length_append, List.length_set, List.length_replicate, List.length_cons, List.length_nil, List.length_take, List.length_drop, List.length_range] at *; omega) | grind))); rotate_left; (first | omega | (simp only [List.length_map, List.length_append, List.length_set, List.length_replicate, List.length_cons, List.length_nil, List.length_take, List.length_drop, List.length_range] at *; omega) | grind); (conv => whnf)) | ((first | apply IsL.set (f := pI) (a := _) rfl | apply IsL.rep (f := pI) (a := _) rfl | apply IsL.set (f := pB) (a := _) rfl | apply IsL.rep (f := pB) (a := _) rfl | apply IsL.set (f := Dom.pv) (a := _) rfl | apply IsL.rep (f := Dom.pv) (a := _) rfl | apply IsL.set (f := Dom.pv) (a := ⟨_, _⟩) rfl | apply IsL.rep (f := Dom.pv) (a := ⟨_, _⟩) rfl | apply IsL.set (f := Wr.pv) (a := _) rfl | apply IsL.rep (f := Wr.pv) (a := _) rfl | apply IsL.set (f := Wr.pv) (a := ⟨_, _, _⟩) rfl | apply IsL.rep (f := Wr.pv) (a := ⟨_, _, _⟩) rfl | apply IsL.lit (f := pI) [] rfl | apply IsL.lit (f := pI) [_] rfl | apply IsL.lit (f := pI) [_, _] rfl | apply IsL.lit (f := pI) [_, _, _] rfl | apply IsL.lit (f := pI) [_, _, _, _] rfl | apply IsL.lit (f := pB) [] rfl | apply IsL.lit (f := pB) [_] rfl | apply IsL.lit (f := pB) [_, _] rfl | apply IsL.lit (f := pB) [_, _, _] rfl | apply IsL.lit (f := pB) [_, _, _, _] rfl | apply IsL.lit (f := Dom.pv) [] rfl | apply IsL.lit (f := Dom.pv) [_] rfl | apply IsL.lit (f := Dom.pv) [_, _] rfl | apply IsL.lit (f := Dom.pv) [_, _, _] rfl | apply IsL.lit (f := Dom.pv) [_, _, _, _] rfl | apply IsL.lit (f := Dom.pv) [] rfl | apply IsL.lit (f := Dom.pv) [⟨_, _⟩] rfl | apply IsL.lit (f := Dom.pv) [⟨_, _⟩, ⟨_, _⟩] rfl | apply IsL.lit (f := Dom.pv) [⟨_, _⟩, ⟨_, _⟩, ⟨_, _⟩] rfl | apply IsL.lit (f := Dom.pv) [⟨_, _⟩, ⟨_, _⟩, ⟨_, _⟩, ⟨_, _⟩] rfl | apply IsL.lit (f := Wr.pv) [] rfl | apply IsL.lit (f := Wr.pv) [_] rfl | apply IsL.lit (f := Wr.pv) [_, _] rfl | apply IsL.lit (f := Wr.pv) [_, _, _] rfl | apply IsL.lit (f := Wr.pv) [_, _, _, _] rfl | apply IsL.lit (f := Wr.pv) [] rfl | apply IsL.lit (f := Wr.pv) [⟨_, _, _⟩] rfl | apply IsL.lit (f := Wr.pv) [⟨_, _, _⟩, ⟨_, _, _⟩] rfl | apply IsL.lit (f := Wr.pv) [⟨_, _, _⟩, ⟨_, _, _⟩, ⟨_, _, _⟩] rfl | apply IsL.lit (f := Wr.pv) [⟨_, _, _⟩, ⟨_, _, _⟩, ⟨_, _, _⟩, ⟨_, _, _⟩] rfl); (conv => whnf)) | (apply And.intro; (first | omega | (simp only [List.length_map, List.length_append, List.length_set, List.length_replicate, List.length_cons, List.length_nil, List.length_take, List.length_drop, List.length_range] at *; omega) | grind); (conv => whnf)) | (apply DrawA.quiet (by kernel_rfl) (by kernel_rfl); (conv => whnf); fail_if_success (show False)) | (refine CallA.fresh _ (On_call _ _ _ _) ?_; rintro _ ⟨nl0, rfl⟩; (conv => whnf)) | (refine CallA.fresh _ (Plan_call _ _ _ _ _ _) ?_; rintro _ ⟨nl0, rfl⟩; (conv => whnf)))
    refine' loop_rule (fun (⟨i, b1, b2, b3, b4⟩ : Nat × Bool × Bool × Bool × Bool) => ⟨[(4, .buf 0), (7, .p (.list b1 ((onR l u).map pB))), (9, .p (.list b2 ((onR l (u ++ v)).map pB))), (11, .p (.list b3 ((planR l (onR l u) (onR l (u ++ v))).map Wr.pv))), (13, .p (.list b4 ((planR l (onR l (u ++ v)) (onR l u)).map Wr.pv))), (89, .p (.list b3 ((planR l (onR l u) (onR l (u ++ v))).map Wr.pv))), (90, .p (pI (planR l (onR l u) (onR l (u ++ v))).length)), (91, .p (pI i))], [some (AO.buf 36 nl2 (l.map Dom.pv))]⟩) (fun (⟨i, b1, b2, b3, b4⟩ : Nat × Bool × Bool × Bool × Bool) => i ≤ (planR l (onR l u) (onR l (u ++ v))).length) (fun (⟨i, b1, b2, b3, b4⟩ : Nat × Bool × Bool × Bool × Bool) => (planR l (onR l u) (onR l (u ++ v))).length - i) (0, _, _, _, _) _ _ _; rotate_right; rotate_right; rotate_right; (refine SubA.auto rfl rfl rfl rfl ?_ ?_ <;> repeat' (first | exact trivial | refine And.intro ?_ ?_ | with_reducible rfl | (refine pIEq ?_; (first | omega | (simp only [List.length_map, List.length_append, List.length_set, List.length_replicate, List.length_cons, List.length_nil, List.length_take, List.length_drop, List.length_range] at *; omega) | grind)) | (refine bufMap ?_) | (refine bufNil ?_) | (refine bufEq ?_) | rfl))
    · exact Nat.zero_le _
    rintro ⟨i, b1, b2, b3, b4⟩ (hi : i ≤ (planR l (onR l u) (onR l (u ++ v))).length)
    rcases Nat.lt_or_ge i (planR l (onR l u) (onR l (u ++ v))).length with hlt | hge
    · have hlt' : i < (difD (onR l u) (onR l (u ++ v)) l.length).length := by omega
      have hdl : ((planR l (onR l (u ++ v)) (onR l u)).length : Int) - 1 - i = (((difD (onR l u) (onR l (u ++ v)) l.length).length - 1 - i : Nat) : Int) := by omega
      have g1 : (planR l (onR l u) (onR l (u ++ v)))[i] = on1 (difD (onR l u) (onR l (u ++ v)) l.length)[i] := (List.getElem_of_eq f3 hlt).trans (by simp)
      have g2 : ∀ h, (planR l (onR l (u ++ v)) (onR l u))[((planR l (onR l (u ++ v)) (onR l u)).length - 1 - i : Int).toNat]'h = off0 (difD (onR l u) (onR l (u ++ v)) l.length)[i] := by
        intro h
        refine (List.getElem_of_eq f4 h).trans ?_
        rw [List.getElem_reverse]
        simp only [List.getElem_map, List.length_map]
        congr 2
        omega
      have g3 := apply_up hd ra rb hle (m := i + 1) (by omega)
      rw [← f3] at g3
      have g4 : applyR l (onR l u) (List.drop (Int.toNat 0) (List.take ((i : Int) + 1).toNat (planR l (onR l u) (onR l (u ++ v))))) = _ := g3
      have g5 := congrArg Res.e g4
      have g6 := congrArg Res.n g4
      simp only at g5 g6
      have g7 : checkB l (applyR l (onR l u) (List.drop (Int.toNat 0) (List.take ((i : Int) + 1).toNat (planR l (onR l u) (onR l (u ++ v)))))).st = true := by
        rw [g4]; exact decide_eq_true ⟨hd, stJ_right ht ra rb hle _⟩
      have k1 : (planR l (onR l u) (onR l (u ++ v)))[i].kind = 12 := by rw [g1]; rfl
      have k2 : (planR l (onR l u) (onR l (u ++ v)))[i].value = 1 := by rw [g1]; rfl
      (conv => whnf); repeat' (first | ((first | apply LenA.map | apply NilA.map | apply NilA.mk); intro _; (conv => whnf)) | ((first | apply NW.i64 | apply InA.nat | apply InA.map | apply AppA.snoc (f := pI) (a := _) rfl | apply AppA.one (f := pI) (a := _) rfl | apply AppA.snoc (f := pB) (a := _) rfl | apply AppA.one (f := pB) (a := _) rfl | apply AppA.snoc (f := Dom.pv) (a := _) rfl | apply AppA.one (f := Dom.pv) (a := _) rfl | apply AppA.snoc (f := Dom.pv) (a := ⟨_, _⟩) rfl | apply AppA.one (f := Dom.pv) (a := ⟨_, _⟩) rfl | apply AppA.snoc (f := Wr.pv) (a := _) rfl | apply AppA.one (f := Wr.pv) (a := _) rfl | apply AppA.snoc (f := Wr.pv) (a := ⟨_, _, _⟩) rfl | apply AppA.one (f := Wr.pv) (a := ⟨_, _, _⟩) rfl | apply AppA.map | apply AppA.nil | apply CutA.lo | apply CutA.hi); (first | omega | (simp only [List.length_map, List.length_append, List.length_set, List.length_replicate, List.length_cons, List.length_nil, List.length_take, List.length_drop, List.length_range] at *; omega) | grind); (conv => whnf)) | ((first | (apply RemA.as; assumption) | apply RemA.self); (first | omega | (simp only [List.length_map, List.length_append, List.length_set, List.length_replicate, List.length_cons, List.length_nil, List.length_take, List.length_drop, List.length_range] at *; omega) | grind); (conv => whnf)) | ((first | (apply ValA.as; assumption) | apply ValA.self | (apply NW.as; assumption)); (conv => whnf)) | (apply SzA.map; (intro _; rfl); (conv => whnf)) | (with_reducible apply br_pt; (conv => whnf)) | (with_reducible apply br_pf; (conv => whnf)) | (with_reducible apply br_mt; (conv => whnf)) | (with_reducible apply br_mf; (conv => whnf)) | (apply Both.mk <;> (conv => whnf)) | ((first | (apply br_T; assumption) | (apply br_F; assumption) | (apply br_mT; assumption) | (apply br_mF; assumption)); (conv => whnf)) | ((first | apply br_lss | apply br_leq | apply br_gtr | apply br_geq | apply br_dec | apply br_beq | apply br_bne | apply br_beqB | apply br_bneB | apply br_not | apply br_m | apply br_intro) <;> intro h0 <;> first | (exfalso; omega) | (exfalso; exact tf h0 (by assumption)) | (exfalso; exact tf (by assumption) h0) | (exfalso; exact h0 (by assumption)) | (conv => whnf)) | ((first | apply IdxA.of_nat | (apply IdxA.of_map; (first | omega | (simp only [List.length_map, List.length_append, List.length_set, List.length_replicate, List.length_cons, List.length_nil, List.length_take, List.length_drop, List.length_range] at *; omega) | grind))); rotate_left; (first | omega | (simp only [List.length_map, List.length_append, List.length_set, List.length_replicate, List.length_cons, List.length_nil, List.length_take, List.length_drop, List.length_range] at *; omega) | grind); (conv => whnf)) | ((first | apply IsL.set (f := pI) (a := _) rfl | apply IsL.rep (f := pI) (a := _) rfl | apply IsL.set (f := pB) (a := _) rfl | apply IsL.rep (f := pB) (a := _) rfl | apply IsL.set (f := Dom.pv) (a := _) rfl | apply IsL.rep (f := Dom.pv) (a := _) rfl | apply IsL.set (f := Dom.pv) (a := ⟨_, _⟩) rfl | apply IsL.rep (f := Dom.pv) (a := ⟨_, _⟩) rfl | apply IsL.set (f := Wr.pv) (a := _) rfl | apply IsL.rep (f := Wr.pv) (a := _) rfl | apply IsL.set (f := Wr.pv) (a := ⟨_, _, _⟩) rfl | apply IsL.rep (f := Wr.pv) (a := ⟨_, _, _⟩) rfl | apply IsL.lit (f := pI) [] rfl | apply IsL.lit (f := pI) [_] rfl | apply IsL.lit (f := pI) [_, _] rfl | apply IsL.lit (f := pI) [_, _, _] rfl | apply IsL.lit (f := pI) [_, _, _, _] rfl | apply IsL.lit (f := pB) [] rfl | apply IsL.lit (f := pB) [_] rfl | apply IsL.lit (f := pB) [_, _] rfl | apply IsL.lit (f := pB) [_, _, _] rfl | apply IsL.lit (f := pB) [_, _, _, _] rfl | apply IsL.lit (f := Dom.pv) [] rfl | apply IsL.lit (f := Dom.pv) [_] rfl | apply IsL.lit (f := Dom.pv) [_, _] rfl | apply IsL.lit (f := Dom.pv) [_, _, _] rfl | apply IsL.lit (f := Dom.pv) [_, _, _, _] rfl | apply IsL.lit (f := Dom.pv) [] rfl | apply IsL.lit (f := Dom.pv) [⟨_, _⟩] rfl | apply IsL.lit (f := Dom.pv) [⟨_, _⟩, ⟨_, _⟩] rfl | apply IsL.lit (f := Dom.pv) [⟨_, _⟩, ⟨_, _⟩, ⟨_, _⟩] rfl | apply IsL.lit (f := Dom.pv) [⟨_, _⟩, ⟨_, _⟩, ⟨_, _⟩, ⟨_, _⟩] rfl | apply IsL.lit (f := Wr.pv) [] rfl | apply IsL.lit (f := Wr.pv) [_] rfl | apply IsL.lit (f := Wr.pv) [_, _] rfl | apply IsL.lit (f := Wr.pv) [_, _, _] rfl | apply IsL.lit (f := Wr.pv) [_, _, _, _] rfl | apply IsL.lit (f := Wr.pv) [] rfl | apply IsL.lit (f := Wr.pv) [⟨_, _, _⟩] rfl | apply IsL.lit (f := Wr.pv) [⟨_, _, _⟩, ⟨_, _, _⟩] rfl | apply IsL.lit (f := Wr.pv) [⟨_, _, _⟩, ⟨_, _, _⟩, ⟨_, _, _⟩] rfl | apply IsL.lit (f := Wr.pv) [⟨_, _, _⟩, ⟨_, _, _⟩, ⟨_, _, _⟩, ⟨_, _, _⟩] rfl); (conv => whnf)) | (apply And.intro; (first | omega | (simp only [List.length_map, List.length_append, List.length_set, List.length_replicate, List.length_cons, List.length_nil, List.length_take, List.length_drop, List.length_range] at *; omega) | grind); (conv => whnf)) | (apply DrawA.quiet (by kernel_rfl) (by kernel_rfl); (conv => whnf); fail_if_success (show False)) | (refine CallA.fresh _ (Apply_call _ _ _ _ _ _ (by omega)) ?_; rintro _ ⟨nl0, rfl⟩; (conv => whnf)) | (refine CallA.scalar (Check_call _ _ _ _) ?_; (conv => whnf)))
      all_goals first
        | ((refine' ⟨(i + 1, _, _, _, _), _, _, _⟩; rotate_right; (refine SubA.auto rfl rfl rfl rfl ?_ ?_ <;> repeat' (first | exact trivial | refine And.intro ?_ ?_ | with_reducible rfl | (refine pIEq ?_; (first | omega | (simp only [List.length_map, List.length_append, List.length_set, List.length_replicate, List.length_cons, List.length_nil, List.length_take, List.length_drop, List.length_range] at *; omega) | grind)) | (refine bufMap ?_) | (refine bufNil ?_) | (refine bufEq ?_) | rfl)); rotate_right; (first | omega | (simp only []; omega) | (simp; omega) | (first | omega | (simp only [List.length_map, List.length_append, List.length_set, List.length_replicate, List.length_cons, List.length_nil, List.length_take, List.length_drop, List.length_range] at *; omega) | grind))); exact hlt)
        | (exfalso; simp only [g2, g1] at h0; simp [off0, on1] at h0; done)
    · (conv => whnf); repeat' (first | ((first | apply LenA.map | apply NilA.map | apply NilA.mk); intro _; (conv => whnf)) | ((first | apply NW.i64 | apply InA.nat | apply InA.map | apply AppA.snoc (f := pI) (a := _) rfl | apply AppA.one (f := pI) (a := _) rfl | apply AppA.snoc (f := pB) (a := _) rfl | apply AppA.one (f := pB) (a := _) rfl | apply AppA.snoc (f := Dom.pv) (a := _) rfl | apply AppA.one (f := Dom.pv) (a := _) rfl | apply AppA.snoc (f := Dom.pv) (a := ⟨_, _⟩) rfl | apply AppA.one (f := Dom.pv) (a := ⟨_, _⟩) rfl | apply AppA.snoc (f := Wr.pv) (a := _) rfl | apply AppA.one (f := Wr.pv) (a := _) rfl | apply AppA.snoc (f := Wr.pv) (a := ⟨_, _, _⟩) rfl | apply AppA.one (f := Wr.pv) (a := ⟨_, _, _⟩) rfl | apply AppA.map | apply AppA.nil | apply CutA.lo | apply CutA.hi); (first | omega | (simp only [List.length_map, List.length_append, List.length_set, List.length_replicate, List.length_cons, List.length_nil, List.length_take, List.length_drop, List.length_range] at *; omega) | grind); (conv => whnf)) | ((first | (apply RemA.as; assumption) | apply RemA.self); (first | omega | (simp only [List.length_map, List.length_append, List.length_set, List.length_replicate, List.length_cons, List.length_nil, List.length_take, List.length_drop, List.length_range] at *; omega) | grind); (conv => whnf)) | ((first | (apply ValA.as; assumption) | apply ValA.self | (apply NW.as; assumption)); (conv => whnf)) | (apply SzA.map; (intro _; rfl); (conv => whnf)) | (with_reducible apply br_pt; (conv => whnf)) | (with_reducible apply br_pf; (conv => whnf)) | (with_reducible apply br_mt; (conv => whnf)) | (with_reducible apply br_mf; (conv => whnf)) | (apply Both.mk <;> (conv => whnf)) | ((first | (apply br_T; assumption) | (apply br_F; assumption) | (apply br_mT; assumption) | (apply br_mF; assumption)); (conv => whnf)) | ((first | apply br_lss | apply br_leq | apply br_gtr | apply br_geq | apply br_dec | apply br_beq | apply br_bne | apply br_beqB | apply br_bneB | apply br_not | apply br_m | apply br_intro) <;> intro h0 <;> first | (exfalso; omega) | (exfalso; exact tf h0 (by assumption)) | (exfalso; exact tf (by assumption) h0) | (exfalso; exact h0 (by assumption)) | (conv => whnf)) | ((first | apply IdxA.of_nat | (apply IdxA.of_map; (first | omega | (simp only [List.length_map, List.length_append, List.length_set, List.length_replicate, List.length_cons, List.length_nil, List.length_take, List.length_drop, List.length_range] at *; omega) | grind))); rotate_left; (first | omega | (simp only [List.length_map, List.length_append, List.length_set, List.length_replicate, List.length_cons, List.length_nil, List.length_take, List.length_drop, List.length_range] at *; omega) | grind); (conv => whnf)) | ((first | apply IsL.set (f := pI) (a := _) rfl | apply IsL.rep (f := pI) (a := _) rfl | apply IsL.set (f := pB) (a := _) rfl | apply IsL.rep (f := pB) (a := _) rfl | apply IsL.set (f := Dom.pv) (a := _) rfl | apply IsL.rep (f := Dom.pv) (a := _) rfl | apply IsL.set (f := Dom.pv) (a := ⟨_, _⟩) rfl | apply IsL.rep (f := Dom.pv) (a := ⟨_, _⟩) rfl | apply IsL.set (f := Wr.pv) (a := _) rfl | apply IsL.rep (f := Wr.pv) (a := _) rfl | apply IsL.set (f := Wr.pv) (a := ⟨_, _, _⟩) rfl | apply IsL.rep (f := Wr.pv) (a := ⟨_, _, _⟩) rfl | apply IsL.lit (f := pI) [] rfl | apply IsL.lit (f := pI) [_] rfl | apply IsL.lit (f := pI) [_, _] rfl | apply IsL.lit (f := pI) [_, _, _] rfl | apply IsL.lit (f := pI) [_, _, _, _] rfl | apply IsL.lit (f := pB) [] rfl | apply IsL.lit (f := pB) [_] rfl | apply IsL.lit (f := pB) [_, _] rfl | apply IsL.lit (f := pB) [_, _, _] rfl | apply IsL.lit (f := pB) [_, _, _, _] rfl | apply IsL.lit (f := Dom.pv) [] rfl | apply IsL.lit (f := Dom.pv) [_] rfl | apply IsL.lit (f := Dom.pv) [_, _] rfl | apply IsL.lit (f := Dom.pv) [_, _, _] rfl | apply IsL.lit (f := Dom.pv) [_, _, _, _] rfl | apply IsL.lit (f := Dom.pv) [] rfl | apply IsL.lit (f := Dom.pv) [⟨_, _⟩] rfl | apply IsL.lit (f := Dom.pv) [⟨_, _⟩, ⟨_, _⟩] rfl | apply IsL.lit (f := Dom.pv) [⟨_, _⟩, ⟨_, _⟩, ⟨_, _⟩] rfl | apply IsL.lit (f := Dom.pv) [⟨_, _⟩, ⟨_, _⟩, ⟨_, _⟩, ⟨_, _⟩] rfl | apply IsL.lit (f := Wr.pv) [] rfl | apply IsL.lit (f := Wr.pv) [_] rfl | apply IsL.lit (f := Wr.pv) [_, _] rfl | apply IsL.lit (f := Wr.pv) [_, _, _] rfl | apply IsL.lit (f := Wr.pv) [_, _, _, _] rfl | apply IsL.lit (f := Wr.pv) [] rfl | apply IsL.lit (f := Wr.pv) [⟨_, _, _⟩] rfl | apply IsL.lit (f := Wr.pv) [⟨_, _, _⟩, ⟨_, _, _⟩] rfl | apply IsL.lit (f := Wr.pv) [⟨_, _, _⟩, ⟨_, _, _⟩, ⟨_, _, _⟩] rfl | apply IsL.lit (f := Wr.pv) [⟨_, _, _⟩, ⟨_, _, _⟩, ⟨_, _, _⟩, ⟨_, _, _⟩] rfl); (conv => whnf)) | (apply And.intro; (first | omega | (simp only [List.length_map, List.length_append, List.length_set, List.length_replicate, List.length_cons, List.length_nil, List.length_take, List.length_drop, List.length_range] at *; omega) | grind); (conv => whnf)) | (apply DrawA.quiet (by kernel_rfl) (by kernel_rfl); (conv => whnf); fail_if_success (show False)) | (refine CallA.fresh _ (Apply_call _ _ _ _ _ _ (by omega)) ?_; rintro _ ⟨nl0, rfl⟩; (conv => whnf)) | (refine CallA.scalar (Bools_call _ _ _ _) ?_; (conv => whnf)) | (refine CallA.scalar (sane_call) ?_; (conv => whnf)))
      all_goals (refine RetK.p ?_ <;> repeat' (first | exact trivial | refine And.intro ?_ ?_ | with_reducible rfl | (refine pIEq ?_; (first | omega | (simp only [List.length_map, List.length_append, List.length_set, List.length_replicate, List.length_cons, List.length_nil, List.length_take, List.length_drop, List.length_range] at *; omega) | grind)) | (refine bufMap ?_) | (refine bufNil ?_) | (refine bufEq ?_) | rfl); all_goals try first | refine pBEq ?_ | refine pIEq ?_)
end Go.Proofs.Ytcamcidhkjijlaa
