/- Suspend: awake states, ways down and up again. -/
import Derived.Test.YtdicjhnhbdanlaasusF
import Derived.Test.YtdicjhnhbdanlaasusC
namespace Go.Proofs.Ytdicjhnhbdanlaa
set_option linter.unusedSimpArgs false
set_option linter.unusedVariables false
set_option linter.unnecessarySimpa false
open Go.Abs
theorem below_mem {N : List NL} {w : List Int} (hb : badF N w = 0) {i : Nat} (hi : i < N.length) : (i : Int) ∈ belowF N w ↔ Reach N true w i := by
  obtain ⟨_, _, hok⟩ := badF_zero hb
  obtain ⟨hT, hlen⟩ := order_topo hok
  rw [belowF, if_neg (by omega), List.mem_filter, Int.toNat_natCast, (cloF_clo N true w).2 i hi]
  exact ⟨fun h => h.2, fun h => ⟨hT.full hlen i hi, h⟩⟩
theorem wholeSt_at {N : List NL} {w : List Int} {i : Nat} (hi : i < N.length) : (wholeSt N w).getD i false = decide ((i : Int) ∈ belowF N w) := by
  have h := setAll_at (belowF N w) (List.replicate N.length false) true i (by simpa using hi) fun x hx => (belowF_range.2 x hx).1
  show (setAll (List.replicate N.length false) (belowF N w) true).getD i false = _
  rw [h]
  split
  · simp_all
  · rename_i h1
    rw [decide_eq_false h1]
    simp [List.getD_eq_getElem?_getD, List.getElem?_replicate, hi]
theorem wholeSt_whole {N : List NL} {w : List Int} (hb : badF N w = 0) : wholeF N (wholeSt N w) = true := by
  refine whl_iff.2 ⟨wholeSt_len N w, fun i hi hs x hx => ?_⟩
  obtain ⟨hv, _, _⟩ := badF_zero hb
  have hR := NdR.of hv i hi x hx
  rw [wholeSt_at hi, decide_eq_true_iff, below_mem hb hi] at hs
  rw [wholeSt_at (by omega), decide_eq_true_iff]
  have h1 : ((x.toNat : Nat) : Int) ∈ belowF N w ↔ _ := below_mem hb (by omega)
  rw [h1]
  refine .step i x.toNat hs hi (by omega) ?_
  show (nd N i).contains _ = true
  rw [Int.toNat_of_nonneg hR.1]
  simpa using hx
theorem awakeF_eq {N : List NL} {w : List Int} (hb : badF N w = 0) : awakeF N w = wholeSt N w := by
  rw [awakeF, if_neg (by omega)]; rfl
theorem awake_has {N : List NL} {w : List Int} (hb : badF N w = 0) {i : Nat} (hi : i < N.length) (h : (i : Int) ∈ w) : (awakeF N w).getD i false = true := by
  rw [awakeF_eq hb, wholeSt_at hi, decide_eq_true_iff, below_mem hb hi]
  exact .base i h
theorem Reach.mono {N : List NL} {d : Bool} {v w : List Int} (h : ∀ x ∈ v, x ∈ w) {i : Nat} (hr : Reach N d v i) : Reach N d w i := by
  induction hr with
  | base k hk => exact .base k (h _ hk)
  | step i k _ hi hk e ih => exact .step i k ih hi hk e
theorem awake_mono {N : List NL} {v w : List Int} (hv : badF N v = 0) (hw : badF N w = 0) (h : ∀ x ∈ v, x ∈ w) {i : Nat} (hi : i < N.length) (hx : (awakeF N v).getD i false = true) : (awakeF N w).getD i false = true := by
  rw [awakeF_eq hv, wholeSt_at hi, decide_eq_true_iff, below_mem hv hi] at hx
  rw [awakeF_eq hw, wholeSt_at hi, decide_eq_true_iff, below_mem hw hi]
  exact hx.mono h
theorem badF_in {N : List NL} {w : List Int} (hv : validF N = 0) (ho : (orderF N).2 = true) (h : ∀ x ∈ w, 0 ≤ x ∧ x < (N.length : Int)) : badF N w = 0 := by
  have h1 : InR N.length w := fun k hk => h _ (List.getElem_mem hk)
  rw [badF, if_neg (by omega), if_neg (by simpa using h1), if_neg (by rw [ho]; simp)]
theorem getD_ext {x y : List Bool} (h : x.length = y.length) (h1 : ∀ i, i < x.length → x.getD i false = y.getD i false) : x = y := by
  refine List.ext_getElem h fun i hi hj => ?_
  have := h1 i hi
  simpa [List.getD_eq_getElem?_getD, hi, hj] using this
theorem stepsF_all (l : List Int) (b : Bool) : stepsF l b (-1) = go b l := by rw [stepsF, if_neg (by omega)]
theorem repF_there {N : List NL} {s : List Bool} {l : List Int} {b : Bool} (hv : validF N = 0) (h : Way N s l b) : repF N s (go b l) = ⟨setAll s l b, l.length, 0⟩ := by
  have h0 : wholeF N s = true := h.whl 0 (Nat.zero_le _)
  have h1 := h.there [] l.length 0 0 (by omega) l.length (Nat.zero_le _) (Nat.le_refl _)
  rw [List.take_of_length_le (Nat.le_refl _), List.append_nil, List.drop_zero] at h1
  have h2 : setAll s (l.take 0) b = s := rfl
  rw [h2] at h1
  rw [repF, if_pos hv, if_pos h0, h1, repG]
  simp
theorem repF_half {N : List NL} {s : List Bool} {l : List Int} {b : Bool} (hv : validF N = 0) (h : Way N s l b) {k : Nat} (hk : k < l.length) : repF N s (stepsF l b k) = ⟨s, (2 * k : Nat), 0⟩ := by
  have h0 : wholeF N s = true := h.whl 0 (Nat.zero_le _)
  have h1 := h.there (go (!b) (l.take k).reverse) l.length 0 0 (by omega) k (Nat.zero_le _) (by omega)
  have h3 := h.back [] k (0 + (k - 0 : Nat)) (by omega)
  have h2 : setAll s (l.take 0) b = s := rfl
  rw [h2, List.drop_zero] at h1
  rw [List.append_nil] at h3
  rw [stepsF, if_pos (by omega), Int.toNat_natCast, repF, if_pos hv, if_pos h0, h1, h3, repG]
  congr 1
  omega
theorem stepsF_len {l : List Int} {b : Bool} {k : Nat} (hk : k < l.length) : (stepsF l b k).length = 2 * k := by
  rw [stepsF, if_pos (by omega), Int.toNat_natCast]
  simp [go]
  omega
theorem stepsF_end (l : List Int) (b : Bool) : stepsF l b l.length = go b l := by rw [stepsF, if_neg (by omega)]
theorem go_len (l : List Int) (b : Bool) : (go b l).length = l.length := by simp [go]
theorem downF_eq {N : List NL} {a : List Bool} {w : List Int} (ha : wholeF N a = true) (hb : badF N w = 0) (k : Int) : downF N a w k = ansF (downL N a w) false k := by
  obtain ⟨hv, _, ho⟩ := badF_zero hb
  have he : errF N [a] = 0 := by simp [errF, hv, ho, ha]
  rw [downF, if_neg (by omega), if_neg (by omega)]
theorem newB_false {a b : List Bool} (h : ∀ i, i < a.length → a.getD i false = true → b.getD i false = true) : newB a b = false := by
  refine decide_eq_false ?_
  rintro ⟨i, hi, h1⟩
  cases h2 : a.getD i false with
  | false => rw [h2] at h1; cases h1
  | true => rw [h2, h i hi h2] at h1; cases h1
theorem upF_eq {N : List NL} {s a : List Bool} (hv : validF N = 0) (ho : (orderF N).2 = true) (hs : wholeF N s = true) (ha : wholeF N a = true) (h : ∀ i, i < N.length → s.getD i false = true → a.getD i false = true) (k : Int) : upF N s a k = ansF (upL N s a) true k := by
  have he : errF N [s, a] = 0 := by simp [errF, hv, ho, ha, hs]
  have hl := wholeF_length hs
  rw [upF, if_neg (by omega), newB_false (by rw [hl]; exact h)]
  simp
theorem pr3 {α β γ : Type} {x : α × β × γ} {a : α} {b : β} {c : γ} (h : x = (a, b, c)) : x.1 = a ∧ x.2.1 = b ∧ x.2.2 = c := by subst h; exact ⟨rfl, rfl, rfl⟩
theorem rep3 {x : Rep} {s : List Bool} {n e : Int} (h : x = ⟨s, n, e⟩) : x.st = s ∧ x.n = n ∧ x.e = e := by subst h; exact ⟨rfl, rfl, rfl⟩
theorem ansF_all (l : List Int) (b : Bool) : ansF l b (-1) = (go b l, true, 0) := by rw [ansF, stepsF_all, decide_eq_false (by omega)]; rfl
theorem ansF_half {l : List Int} {b : Bool} {k : Nat} (hk : k < l.length) : ansF l b k = (stepsF l b k, false, 0) := by rw [ansF, decide_eq_true (by omega)]; rfl
theorem ansF_end (l : List Int) (b : Bool) : ansF l b l.length = (go b l, true, 0) := by rw [ansF, stepsF_end, decide_eq_false (by omega)]; rfl
/-- What holds of a state, devices that wake and the way down. -/
structure Plan (N : List NL) (a : List Bool) (w D : List Int) (wk low : List Bool) : Prop where
  val : validF N = 0
  ok : (orderF N).2 = true
  bad : badF N w = 0
  wha : wholeF N a = true
  whk : wholeF N wk = true
  whl : wholeF N low = true
  alen : a.length = N.length
  klen : wk.length = N.length
  llen : low.length = N.length
  dl : D.length ≤ N.length
  wD : Way N a D false
  wU : Way N low D.reverse true
  eD : downL N a w = D
  ek : awakeF N w = wk
  el : setAll a D false = low
  eU : upL N low a = D.reverse
  ea : setAll low D.reverse true = a
  mem : ∀ i : Nat, i < N.length → ((i : Int) ∈ D ↔ (a.getD i false && !wk.getD i false) = true)
  low_at : ∀ i : Nat, i < N.length → low.getD i false = (a.getD i false && wk.getD i false)
  down : ∀ k, downF N a w k = ansF D false k
  up : ∀ k, upF N low a k = ansF D.reverse true k
theorem plan_of {N : List NL} {a : List Bool} {w : List Int} (ha : wholeF N a = true) (hb : badF N w = 0) : Plan N a w (downL N a w) (awakeF N w) (setAll a (downL N a w) false) := by
  obtain ⟨hv, _, ho⟩ := badF_zero hb
  obtain ⟨hT, hlen⟩ := order_topo ho
  have hf := hT.full hlen
  have hk : wholeF N (awakeF N w) = true := by rw [awakeF_eq hb]; exact wholeSt_whole hb
  have hal := wholeF_length ha
  have hkl := wholeF_length hk
  have hdl : (downL N a w).length ≤ N.length := by
    refine Nat.le_trans (List.length_filter_le _ _) ?_
    rw [List.length_reverse]; omega
  have wD : Way N a (downL N a w) false := way_down ho ha hk
  have hm : ∀ i : Nat, i < N.length → ((i : Int) ∈ downL N a w ↔ (a.getD i false && !(awakeF N w).getD i false) = true) := fun i hi => by
    unfold downL
    rw [List.mem_filter, List.mem_reverse, keepD, keepDB, Int.toNat_natCast]
    exact ⟨fun h => h.2, fun h => ⟨hf i hi, h⟩⟩
  have hlow : ∀ i : Nat, i < N.length → (setAll a (downL N a w) false).getD i false = (a.getD i false && (awakeF N w).getD i false) := fun i hi => by
    rw [setAll_at _ _ _ _ (by omega) fun x hx => (wD.rng x hx).1]
    by_cases h : (i : Int) ∈ downL N a w
    · rw [if_pos h]
      have := (hm i hi).1 h
      revert this
      cases a.getD i false <;> cases (awakeF N w).getD i false <;> simp
    · rw [if_neg h]
      have := fun h2 => h ((hm i hi).2 h2)
      revert this
      cases a.getD i false <;> cases (awakeF N w).getD i false <;> simp
  have hwl : wholeF N (setAll a (downL N a w) false) = true := by
    have := wD.whl (downL N a w).length (Nat.le_refl _)
    rwa [List.take_of_length_le (Nat.le_refl _)] at this
  have hll := wholeF_length hwl
  have eU : upL N (setAll a (downL N a w) false) a = (downL N a w).reverse := by
    have e : downL N a w = ((orderF N).1.filter (keepD a (awakeF N w))).reverse := by rw [downL, List.filter_reverse]
    rw [e, List.reverse_reverse, ← e, upL]
    refine List.filter_congr fun x hx => ?_
    have hr := hT.range x hx
    rw [keepU, keepUB, hlow x.toNat (by omega), keepD, keepDB]
    cases a.getD x.toNat false <;> cases (awakeF N w).getD x.toNat false <;> rfl
  have wU : Way N (setAll a (downL N a w) false) (downL N a w).reverse true := by
    rw [← eU]; exact way_up ho hwl ha
  refine ⟨hv, ho, hb, ha, hk, hwl, hal, hkl, hll, hdl, wD, wU, rfl, rfl, rfl, eU, ?_, hm, hlow, fun k => downF_eq ha hb k, fun k => ?_⟩
  · refine getD_ext (by rw [setAll_len, hll, hal]) fun i hi => ?_
    rw [setAll_len, hll] at hi
    rw [setAll_at _ _ _ _ (by omega) fun x hx => (wU.rng x hx).1, hlow i hi]
    have h1 := hm i hi
    rw [← List.mem_reverse] at h1
    by_cases h : (i : Int) ∈ (downL N a w).reverse
    · rw [if_pos h]
      have := h1.1 h
      revert this
      cases a.getD i false <;> cases (awakeF N w).getD i false <;> simp
    · rw [if_neg h]
      have := fun h2 => h (h1.2 h2)
      revert this
      cases a.getD i false <;> cases (awakeF N w).getD i false <;> simp
  · rw [← eU]
    refine upF_eq hv ho hwl ha (fun i hi h => ?_) k
    rw [hlow i hi] at h
    revert h
    cases a.getD i false <;> simp
end Go.Proofs.Ytdicjhnhbdanlaa
