/- A bus of which some writes fail: plain theory. -/
import Derived.Test.YtdaggbjphopohaaregE
namespace Go.Proofs.Ytdaggbjphopohaa
set_option linter.unusedSimpArgs false
set_option linter.unusedVariables false
set_option linter.unnecessarySimpa false
open Go.Abs
set_option maxRecDepth 100000
/-- Failures stand in order. -/
def FailsOK (fs : List Int) : Prop := ∀ (k : Nat) (h : k < fs.length), 0 ≤ fs[k] ∧ (0 < k → fs[k - 1] < fs[k])
instance (fs : List Int) : Decidable (FailsOK fs) := by unfold FailsOK; infer_instance
def BusOK (l : List Slot) (rs : List Int) (t : Int) (fs : List Int) : Prop := decE l rs = 0 ∧ (0 ≤ t ∧ t ≤ 1000000) ∧ fs.length ≤ 16 ∧ FailsOK fs
instance (l : List Slot) (rs : List Int) (t : Int) (fs : List Int) : Decidable (BusOK l rs t fs) := by unfold BusOK; infer_instance
/-- One write: the registers, the tries, the error. -/
def sendF (l : List Slot) (fs : List Int) (rs : List Int) (t : Int) (w : Wr) : List Int × Int × Int :=
  if ¬ BusOK l rs t fs ∨ t = 1000000 then (rs, t, 1)
  else if encE l rs w ≠ 0 then (rs, t, encE l rs w)
  else if t ∈ fs then (rs, t + 1, 42)
  else (rs.set (encR l rs w).toNat (encV l rs w), t + 1, 0)
/-- Writes, as long as none has an error. -/
def playF (l : List Slot) (fs : List Int) : List Wr → List Int → Int → Nat → List Int × Int × Int × Int
  | [], rs, t, n => (rs, t, n, 0)
  | w :: r, rs, t, n => if (sendF l fs rs t w).2.2 ≠ 0 then ((sendF l fs rs t w).1, (sendF l fs rs t w).2.1, n, (sendF l fs rs t w).2.2) else playF l fs r (sendF l fs rs t w).1 (sendF l fs rs t w).2.1 (n + 1)
def fieldOf (l : List Slot) (w : Wr) : Fld := ((l.find? fun s => s.kind == w.kind && s.unit == w.unit).map Slot.fld).getD ⟨0, 0, 0⟩
def undoG (l : List Slot) : List Wr → List Int → List Wr → List Wr × Int
  | [], _, acc => (acc, 0)
  | w :: r, rs, acc => if encE l rs w ≠ 0 then ([], encE l rs w) else undoG l r (rs.set (encR l rs w).toNat (encV l rs w)) (⟨w.kind, w.unit, getV rs (fieldOf l w)⟩ :: acc)
def undoF (l : List Slot) (rs : List Int) (ws : List Wr) : List Wr × Int := if decE l rs ≠ 0 then ([], 1) else undoG l ws rs []
/-- Writes that fit, by their slots. -/
def Fits (l : List Slot) (ws : List Wr) : Prop := ∀ w ∈ ws, ∃ i, FitW l i w
/-- The registers behind writes that fit. -/
def runF (l : List Slot) : List Wr → List Int → List Int
  | [], rs => rs
  | w :: r, rs => runF l r (setF (fieldOf l w) rs w.value.toNat)
section
variable {l : List Slot} {rs : List Int} {n : Nat}
theorem FitW.field {i : Nat} {w : Wr} (hm : MadeS l n) (h : FitW l i w) : fieldOf l w = (l[i]'h.lt).fld := by
  have hf := hm.find h.lt
  rw [← h.kind, ← h.unit] at hf
  unfold fieldOf
  rw [hf]; rfl
theorem FitW.enc {i : Nat} {w : Wr} (hm : MadeS l n) (hn : n ≤ 32) (hl : l.length ≤ 120) (hw : Words rs) (hr : rs.length = n) (h : FitW l i w) :
    encE l rs w = 0 ∧ rs.set (encR l rs w).toNat (encV l rs w) = setF (fieldOf l w) rs w.value.toNat := by
  have hlt := h.lt
  have hS : slotsE l rs.length = 0 := by rw [hr]; exact hm.ok (by omega) hl
  have hf := hm.find h.lt
  rw [← h.kind, ← h.unit] at hf
  have hsm := h.small
  have hge := h.ge
  have e : encE l rs w = 0 := by
    unfold encE
    rw [if_neg (by rintro (h | h); exact h hS; exact h hw), hf]
    refine if_pos ⟨hge, ?_⟩
    have ep : (2 : Int) ^ l[i].fld.width.toNat = ((2 ^ l[i].width.toNat : Nat) : Int) := by simp [Slot.fld]
    rw [ep]; omega
  have er : encR l rs w = l[i].fld.reg := by rw [encR, e, hf]; rfl
  have ev : encV l rs w = putN l[i].fld (rs.getD l[i].fld.reg.toNat 0).toNat w.value.toNat := by rw [encV, e, hf]; rfl
  exact ⟨e, by rw [er, ev, h.field hm]; rfl⟩
theorem FitW.good {i : Nat} {w : Wr} (hm : MadeS l n) (hr : rs.length = n) (h : FitW l i w) : (fieldOf l w).Right rs.length ∧ w.value.toNat < 2 ^ (fieldOf l w).width.toNat := by
  rw [h.field hm]
  exact ⟨right_len hm hr h.lt, h.small⟩
theorem runF_good (hm : MadeS l n) : ∀ (ws : List Wr) (rs : List Int), Fits l ws → Words rs → rs.length = n → Words (runF l ws rs) ∧ (runF l ws rs).length = n
  | [], rs, _, hw, hr => ⟨hw, hr⟩
  | w :: ws, rs, hf, hw, hr => by
    obtain ⟨i, hi⟩ := hf w (List.mem_cons_self ..)
    have hg := hi.good hm hr
    exact runF_good hm ws _ (fun x hx => hf x (List.mem_cons_of_mem _ hx)) (setF_words hw hg.1.2.2 hg.2) (by rw [setF_len, hr])
theorem runF_append (ws vs : List Wr) (rs : List Int) : runF l (ws ++ vs) rs = runF l vs (runF l ws rs) := by
  induction ws generalizing rs with
  | nil => rfl
  | cons w ws ih => exact ih _
/-- The write that takes one back. -/
def backW (l : List Slot) (rs : List Int) (w : Wr) : Wr := ⟨w.kind, w.unit, (valF (fieldOf l w) rs : Nat)⟩
theorem backW_fit (hm : MadeS l n) (hr : rs.length = n) {w : Wr} {i : Nat} (h : FitW l i w) : FitW l i (backW l rs w) := by
  refine ⟨h.lt, h.kind, h.unit, by simp [backW], ?_⟩
  show ((valF (fieldOf l w) rs : Nat) : Int).toNat < _
  rw [h.field hm, Int.toNat_natCast]
  exact getN_small (right_len hm hr h.lt).2.2 _
theorem backW_field (w : Wr) : fieldOf l (backW l rs w) = fieldOf l w := rfl
/-- Taking a write back. -/
theorem back_one (hm : MadeS l n) (hw : Words rs) (hr : rs.length = n) {w : Wr} {i : Nat} (h : FitW l i w) : setF (fieldOf l w) (setF (fieldOf l w) rs w.value.toNat) (backW l rs w).value.toNat = rs := by
  obtain ⟨hR, hs⟩ := h.good hm hr
  have hv : valF (fieldOf l w) rs < 2 ^ (fieldOf l w).width.toNat := getN_small hR.2.2 _
  show setF _ (setF _ rs w.value.toNat) ((valF (fieldOf l w) rs : Nat) : Int).toNat = rs
  rw [Int.toNat_natCast, set_set hR hw hs hv, set_val hR hw]
/-- What takes a list of writes back, the last one first. -/
def backs (l : List Slot) : List Wr → List Int → List Wr
  | [], _ => []
  | w :: ws, rs => backs l ws (setF (fieldOf l w) rs w.value.toNat) ++ [backW l rs w]
theorem backs_len : ∀ (ws : List Wr) (rs : List Int), (backs l ws rs).length = ws.length
  | [], _ => rfl
  | w :: ws, rs => by simp [backs, backs_len ws]
theorem backs_fit (hm : MadeS l n) : ∀ (ws : List Wr) (rs : List Int), Fits l ws → Words rs → rs.length = n → Fits l (backs l ws rs)
  | [], _, _, _, _ => fun w h => by cases h
  | w :: ws, rs, hf, hw, hr => by
    obtain ⟨i, hi⟩ := hf w (List.mem_cons_self ..)
    have hg := hi.good hm hr
    intro x hx
    rcases List.mem_append.1 hx with hx | hx
    · exact backs_fit hm ws _ (fun y hy => hf y (List.mem_cons_of_mem _ hy)) (setF_words hw hg.1.2.2 hg.2) (by rw [setF_len, hr]) x hx
    · rw [List.mem_singleton.1 hx]
      exact ⟨i, backW_fit hm hr hi⟩
theorem backs_run (hm : MadeS l n) : ∀ (ws : List Wr) (rs : List Int), Fits l ws → Words rs → rs.length = n → runF l (backs l ws rs) (runF l ws rs) = rs
  | [], _, _, _, _ => rfl
  | w :: ws, rs, hf, hw, hr => by
    obtain ⟨i, hi⟩ := hf w (List.mem_cons_self ..)
    have hg := hi.good hm hr
    show runF l (backs l ws (setF (fieldOf l w) rs w.value.toNat) ++ [backW l rs w]) (runF l ws (setF (fieldOf l w) rs w.value.toNat)) = rs
    rw [runF_append, backs_run hm ws _ (fun y hy => hf y (List.mem_cons_of_mem _ hy)) (setF_words hw hg.1.2.2 hg.2) (by rw [setF_len, hr])]
    exact back_one hm hw hr hi
/-- Undo, on writes that fit. -/
theorem undoG_fit (hm : MadeS l n) (hn : n ≤ 32) (hl : l.length ≤ 120) : ∀ (ws : List Wr) (rs : List Int) (acc : List Wr), Fits l ws → Words rs → rs.length = n → undoG l ws rs acc = (backs l ws rs ++ acc, 0)
  | [], _, _, _, _, _ => rfl
  | w :: ws, rs, acc, hf, hw, hr => by
    obtain ⟨i, hi⟩ := hf w (List.mem_cons_self ..)
    have hg := hi.good hm hr
    obtain ⟨e1, e2⟩ := hi.enc hm hn hl hw hr
    have eg : getV rs (fieldOf l w) = valF (fieldOf l w) rs := by
      have e0 : getE rs (fieldOf l w) = 0 := if_pos ⟨hg.1, hw⟩
      unfold getV; rw [e0]; rfl
    rw [undoG, if_neg (by omega), e2, eg, undoG_fit hm hn hl ws _ _ (fun y hy => hf y (List.mem_cons_of_mem _ hy)) (setF_words hw hg.1.2.2 hg.2) (by rw [setF_len, hr])]
    show (_ ++ (backW l rs w :: acc), (0 : Int)) = ((_ ++ [backW l rs w]) ++ acc, 0)
    simp
/-- Apply, on writes that fit. -/
theorem appF_fit (hm : MadeS l n) (hn : n ≤ 32) (hl : l.length ≤ 120) : ∀ (ws : List Wr) (rs : List Int) (k : Nat), Fits l ws → Words rs → rs.length = n → appF l ws rs k = (runF l ws rs, ((k + ws.length : Nat) : Int), (0 : Int))
  | [], rs, k, _, _, _ => by simp [appF, runF]
  | w :: ws, rs, k, hf, hw, hr => by
    obtain ⟨i, hi⟩ := hf w (List.mem_cons_self ..)
    have hg := hi.good hm hr
    obtain ⟨e1, e2⟩ := hi.enc hm hn hl hw hr
    rw [appF, if_neg (by omega), e2, appF_fit hm hn hl ws _ _ (fun y hy => hf y (List.mem_cons_of_mem _ hy)) (setF_words hw hg.1.2.2 hg.2) (by rw [setF_len, hr])]
    simp [runF]; omega
/-- A write that fits, on a good bus. -/
theorem sendF_fit {fs : List Int} {t : Int} (hm : MadeS l n) (hn : n ≤ 32) (hl : l.length ≤ 120) (hw : Words rs) (hr : rs.length = n) (ht : 0 ≤ t ∧ t < 1000000) (h16 : fs.length ≤ 16) (hfs : FailsOK fs) {w : Wr} {i : Nat} (h : FitW l i w) :
    sendF l fs rs t w = if t ∈ fs then (rs, t + 1, (42 : Int)) else (setF (fieldOf l w) rs w.value.toNat, t + 1, (0 : Int)) := by
  obtain ⟨e1, e2⟩ := h.enc hm hn hl hw hr
  have hS : slotsE l rs.length = 0 := by rw [hr]; exact hm.ok (by omega) hl
  have hd : decE l rs = 0 := by unfold decE; rw [if_neg (by rintro (h | h); exact h hS; exact h hw)]
  unfold sendF
  rw [if_neg (by rintro (h | h); exact h ⟨hd, by omega, h16, hfs⟩; omega), if_neg (by omega), e2]
/-- Playing writes that fit: how many tries go well. -/
theorem playF_fit {fs : List Int} (hm : MadeS l n) (hn : n ≤ 32) (hl : l.length ≤ 120) (h16 : fs.length ≤ 16) (hfs : FailsOK fs) : ∀ (ws : List Wr) (rs : List Int) (t : Int) (k : Nat), Fits l ws → Words rs → rs.length = n → 0 ≤ t → t + ws.length ≤ 1000000 →
    (playF l fs ws rs t k = (runF l ws rs, t + ws.length, ((k + ws.length : Nat) : Int), (0 : Int)) ∧ ∀ j : Nat, j < ws.length → t + j ∉ fs) ∨
    ∃ j, j < ws.length ∧ t + (j : Int) ∈ fs ∧ (∀ q : Nat, q < j → t + q ∉ fs) ∧ playF l fs ws rs t k = (runF l (ws.take j) rs, t + j + 1, ((k + j : Nat) : Int), (42 : Int))
  | [], rs, t, k, _, _, _, _, _ => .inl ⟨by simp [playF, runF], by simp⟩
  | w :: ws, rs, t, k, hf, hw, hr, ht, htl => by
    obtain ⟨i, hi⟩ := hf w (List.mem_cons_self ..)
    have hg := hi.good hm hr
    have hlen : (w :: ws).length = ws.length + 1 := rfl
    have hs := sendF_fit hm hn hl hw hr (t := t) (by omega) h16 hfs hi
    by_cases hmem : t ∈ fs
    · rw [if_pos hmem] at hs
      refine .inr ⟨0, by simp, by simpa using hmem, by omega, ?_⟩
      rw [playF, hs, if_pos (by show (42 : Int) ≠ 0; omega)]
      simp [runF]
    · rw [if_neg hmem] at hs
      have hstep : playF l fs (w :: ws) rs t k = playF l fs ws (setF (fieldOf l w) rs w.value.toNat) (t + 1) (k + 1) := by
        rw [playF, hs, if_neg (by show ¬ (0 : Int) ≠ 0; omega)]
      rw [hstep]
      rcases playF_fit hm hn hl h16 hfs ws _ (t + 1) (k + 1) (fun y hy => hf y (List.mem_cons_of_mem _ hy)) (setF_words hw hg.1.2.2 hg.2) (by rw [setF_len, hr]) (by omega) (by omega) with ⟨h1, h2⟩ | ⟨j, h1, h2, h3, h4⟩
      · refine .inl ⟨?_, fun j hj => ?_⟩
        · rw [h1, hlen]
          have e1 : t + 1 + (ws.length : Int) = t + ((ws.length + 1 : Nat) : Int) := by omega
          have e2 : k + 1 + ws.length = k + (ws.length + 1) := by omega
          rw [e1, e2]; rfl
        · rcases Nat.eq_zero_or_pos j with h0 | h0
          · subst h0; simpa using hmem
          · have := h2 (j - 1) (by omega)
            rwa [show t + 1 + ((j - 1 : Nat) : Int) = t + j by omega] at this
      · refine .inr ⟨j + 1, by omega, ?_, fun q hq => ?_, ?_⟩
        · rwa [show t + ((j + 1 : Nat) : Int) = t + 1 + j by omega]
        · rcases Nat.eq_zero_or_pos q with h0 | h0
          · subst h0; simpa using hmem
          · have := h3 (q - 1) (by omega)
            rwa [show t + 1 + ((q - 1 : Nat) : Int) = t + q by omega] at this
        · rw [h4]
          have e1 : t + 1 + (j : Int) + 1 = t + ((j + 1 : Nat) : Int) + 1 := by omega
          have e2 : k + 1 + j = k + (j + 1) := by omega
          rw [e1, e2]; rfl
end
end Go.Proofs.Ytdaggbjphopohaa
