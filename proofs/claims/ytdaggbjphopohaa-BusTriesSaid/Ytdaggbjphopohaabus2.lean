/- A bus of which some writes fail: transactions, plain theory. -/
import Derived.Test.Ytdaggbjphopohaabus1
namespace Go.Proofs.Ytdaggbjphopohaa
set_option linter.unusedSimpArgs false
set_option linter.unusedVariables false
set_option linter.unnecessarySimpa false
open Go.Abs
set_option maxRecDepth 100000
/-- A transaction: the registers, the tries, the outcome, the number, the error. -/
def transF (l : List Slot) (fs rs : List Int) (t : Int) (ws : List Wr) : List Int × Int × Int × Int × Int :=
  if ¬ BusOK l rs t fs ∨ t + 2 * ws.length > 1000000 then (rs, t, 0, 0, 1)
  else if (appF l ws rs 0).2.2 ≠ 0 then (rs, t, 0, 0, (appF l ws rs 0).2.2)
  else if (playF l fs ws rs t 0).2.2.2 = 0 then ((playF l fs ws rs t 0).1, (playF l fs ws rs t 0).2.1, 1, (playF l fs ws rs t 0).2.2.1, 0)
  else let u := (undoF l rs (ws.take (playF l fs ws rs t 0).2.2.1.toNat)).1
    let q := playF l fs u (playF l fs ws rs t 0).1 (playF l fs ws rs t 0).2.1 0
    if q.2.2.2 = 0 then (q.1, q.2.1, 2, 0, 0) else (q.1, q.2.1, 3, (playF l fs ws rs t 0).2.2.1 - q.2.2.1, 0)
section
variable {l : List Slot} {rs : List Int} {n : Nat} {fs : List Int} {t : Int}
theorem good_bus (hm : MadeS l n) (hn : n ≤ 32) (hl : l.length ≤ 120) (hw : Words rs) (hr : rs.length = n) (ht : 0 ≤ t ∧ t ≤ 1000000) (h16 : fs.length ≤ 16) (hfs : FailsOK fs) : BusOK l rs t fs := by
  have hS : slotsE l rs.length = 0 := by rw [hr]; exact hm.ok (by omega) hl
  have hd : decE l rs = 0 := by unfold decE; rw [if_neg (by rintro (h | h); exact h hS; exact h hw)]
  exact ⟨hd, ht, h16, hfs⟩
theorem undoF_fit (hm : MadeS l n) (hn : n ≤ 32) (hl : l.length ≤ 120) (hw : Words rs) (hr : rs.length = n) {ws : List Wr} (hf : Fits l ws) : undoF l rs ws = (backs l ws rs, 0) := by
  have hS : slotsE l rs.length = 0 := by rw [hr]; exact hm.ok (by omega) hl
  have hd : decE l rs = 0 := by unfold decE; rw [if_neg (by rintro (h | h); exact h hS; exact h hw)]
  unfold undoF
  rw [if_neg (by omega), undoG_fit hm hn hl ws rs [] hf hw hr, List.append_nil]
theorem Fits.take {ws : List Wr} (h : Fits l ws) (j : Nat) : Fits l (ws.take j) := fun w hw => h w (List.mem_of_mem_take hw)
/-- Taking back the first so many. -/
theorem backs_take (hm : MadeS l n) : ∀ (ws : List Wr) (rs : List Int) (m : Nat), Fits l ws → Words rs → rs.length = n → m ≤ ws.length → runF l ((backs l ws rs).take m) (runF l ws rs) = runF l (ws.take (ws.length - m)) rs
  | [], rs, m, _, _, _, h => by
    have : m = 0 := by simpa using h
    subst this; rfl
  | w :: ws, rs, m, hf, hw, hr, hle => by
    obtain ⟨i, hi⟩ := hf w (List.mem_cons_self ..)
    have hg := hi.good hm hr
    have hf' : Fits l ws := fun y hy => hf y (List.mem_cons_of_mem _ hy)
    have hw' := setF_words hw hg.1.2.2 hg.2
    have hr' : (setF (fieldOf l w) rs w.value.toNat).length = n := by rw [setF_len, hr]
    have hle' : m ≤ ws.length + 1 := hle
    rcases Nat.lt_or_ge m (ws.length + 1) with h | h
    · have hm1 : m ≤ (backs l ws (setF (fieldOf l w) rs w.value.toNat)).length := by rw [backs_len]; omega
      show runF l ((backs l ws (setF (fieldOf l w) rs w.value.toNat) ++ [backW l rs w]).take m) (runF l ws (setF (fieldOf l w) rs w.value.toNat)) = _
      rw [List.take_append_of_le_length hm1, backs_take hm ws _ m hf' hw' hr' (by omega)]
      have e : (w :: ws).length - m = (ws.length - m) + 1 := by simp only [List.length_cons]; omega
      rw [e]; rfl
    · have e1 : (backs l (w :: ws) rs).take m = backs l (w :: ws) rs := List.take_of_length_le (by rw [backs_len]; exact h)
      have e2 : (w :: ws).length - m = 0 := by simp only [List.length_cons]; omega
      rw [e1, e2, backs_run hm _ _ hf hw hr]; rfl
/-- What a transaction does with writes that fit. -/
theorem transF_fit (hm : MadeS l n) (hn : n ≤ 32) (hl : l.length ≤ 120) (hw : Words rs) (hr : rs.length = n) (h0 : 0 ≤ t) (h16 : fs.length ≤ 16) (hfs : FailsOK fs) {ws : List Wr} (hf : Fits l ws) (ht : t + 2 * ws.length ≤ 1000000) :
    (transF l fs rs t ws = (runF l ws rs, t + ws.length, 1, (ws.length : Int), 0) ∧ ∀ j : Nat, j < ws.length → t + j ∉ fs) ∨
    (∃ j : Nat, j < ws.length ∧ t + (j : Int) ∈ fs ∧ (∀ q : Nat, q < j → t + q ∉ fs) ∧ transF l fs rs t ws = (rs, t + 2 * j + 1, 2, 0, 0) ∧ ∀ q : Nat, q < j → t + j + 1 + q ∉ fs) ∨
    ∃ j m : Nat, m < j ∧ j < ws.length ∧ t + (j : Int) ∈ fs ∧ t + j + 1 + (m : Int) ∈ fs ∧ transF l fs rs t ws = (runF l (ws.take (j - m)) rs, t + j + 1 + m + 1, 3, ((j - m : Nat) : Int), 0) := by
  have hb : BusOK l rs t fs := good_bus hm hn hl hw hr (by omega) h16 hfs
  have ha := appF_fit hm hn hl ws rs 0 hf hw hr
  have c1 : ¬ (¬ BusOK l rs t fs ∨ t + 2 * ws.length > 1000000) := by rintro (h | h); exact h hb; omega
  have c2 : ¬ (appF l ws rs 0).2.2 ≠ 0 := by rw [ha]; exact fun h => h rfl
  rcases playF_fit hm hn hl h16 hfs ws rs t 0 hf hw hr h0 (by omega) with ⟨h1, h2⟩ | ⟨j, h1, h2, h3, h4⟩
  · refine .inl ⟨?_, h2⟩
    unfold transF
    rw [if_neg c1, if_neg c2, h1]
    show (_, _, (1 : Int), ((0 + ws.length : Nat) : Int), (0 : Int)) = _
    rw [Nat.zero_add]
  · have hft := hf.take j
    have hu := undoF_fit hm hn hl hw hr hft
    have e0 : (0 + j : Nat) = j := Nat.zero_add j
    rw [e0] at h4
    have hlt : (ws.take j).length = j := by rw [List.length_take]; omega
    have hgd := runF_good hm (ws.take j) rs hft hw hr
    have hbl : (backs l (ws.take j) rs).length = j := by rw [backs_len, hlt]
    have key : transF l fs rs t ws = if (playF l fs (backs l (ws.take j) rs) (runF l (ws.take j) rs) (t + j + 1) 0).2.2.2 = 0 then ((playF l fs (backs l (ws.take j) rs) (runF l (ws.take j) rs) (t + j + 1) 0).1, (playF l fs (backs l (ws.take j) rs) (runF l (ws.take j) rs) (t + j + 1) 0).2.1, 2, 0, 0) else ((playF l fs (backs l (ws.take j) rs) (runF l (ws.take j) rs) (t + j + 1) 0).1, (playF l fs (backs l (ws.take j) rs) (runF l (ws.take j) rs) (t + j + 1) 0).2.1, 3, (j : Int) - (playF l fs (backs l (ws.take j) rs) (runF l (ws.take j) rs) (t + j + 1) 0).2.2.1, 0) := by
      unfold transF
      rw [if_neg c1, if_neg c2, h4, if_neg (by show ¬ (42 : Int) = 0; omega)]
      dsimp only
      rw [Int.toNat_natCast, hu]
    rcases playF_fit hm hn hl h16 hfs (backs l (ws.take j) rs) (runF l (ws.take j) rs) (t + j + 1) 0 (backs_fit hm _ _ hft hw hr) hgd.1 hgd.2 (by omega) (by omega) with ⟨k1, k2⟩ | ⟨m, k1, k2, k3, k4⟩
    · refine .inr (.inl ⟨j, h1, h2, h3, ?_, fun q hq => k2 q (by omega)⟩)
      rw [key, k1, if_pos rfl, backs_run hm _ _ hft hw hr, hbl, show t + (j : Int) + 1 + j = t + 2 * j + 1 by omega]
    · refine .inr (.inr ⟨j, m, by omega, h1, h2, k2, ?_⟩)
      rw [key, k4, if_neg (by show ¬ (42 : Int) = 0; omega), backs_take hm _ _ m hft hw hr (by omega), hlt, List.take_take, Nat.min_eq_left (by omega)]
      dsimp only
      rw [show ((j : Int) - ((0 + m : Nat) : Int)) = ((j - m : Nat) : Int) by omega]
/-- Undoing what undoes. -/
theorem work_none (hm : MadeS l n) (hn : n ≤ 32) (hl : l.length ≤ 120) (hw : Words rs) (hr : rs.length = n) (h0 : 0 ≤ t) {ws : List Wr} (hf : Fits l ws) (ht : t + 2 * ws.length ≤ 1000000) :
    transF l [] rs t ws = (runF l ws rs, t + ws.length, 1, (ws.length : Int), 0) ∧ playF l [] (backs l ws rs) (runF l ws rs) (t + ws.length) 0 = (rs, t + 2 * ws.length, (ws.length : Int), 0) := by
  have hfs : FailsOK [] := fun k h => absurd h (Nat.not_lt_zero _)
  have hgd := runF_good hm ws rs hf hw hr
  constructor
  · rcases transF_fit hm hn hl hw hr h0 (Nat.zero_le _) hfs hf ht with ⟨h1, _⟩ | ⟨j, _, h, _⟩ | ⟨j, m, _, _, h, _⟩
    · exact h1
    · cases h
    · cases h
  · have hbl := backs_len (l := l) ws rs
    rcases playF_fit (fs := []) hm hn hl (Nat.zero_le 16) hfs (backs l ws rs) (runF l ws rs) (t + ws.length) 0 (backs_fit hm _ _ hf hw hr) hgd.1 hgd.2 (by omega) (by omega) with ⟨k1, _⟩ | ⟨m, _, h, _⟩
    · rw [k1, backs_run hm _ _ hf hw hr, hbl, Nat.zero_add, show t + (ws.length : Int) + ws.length = t + 2 * ws.length by omega]
    · cases h
theorem one_ok {x : Int} (h : 0 ≤ x) : FailsOK [x] := by
  intro k hk
  have : k = 0 := by simpa using hk
  subst this
  exact ⟨h, fun h => absurd h (by omega)⟩
/-- A failure of one write. -/
theorem first_one (hm : MadeS l n) (hn : n ≤ 32) (hl : l.length ≤ 120) (hw : Words rs) (hr : rs.length = n) (h0 : 0 ≤ t) {ws : List Wr} (hf : Fits l ws) (ht : t + 2 * ws.length ≤ 1000000) (j : Nat) (hj : j < ws.length) :
    transF l [t + j] rs t ws = (rs, t + 2 * j + 1, 2, 0, 0) ∧ playF l [t + j] ws rs t 0 = (runF l (ws.take j) rs, t + j + 1, (j : Int), 42) := by
  have hfs : FailsOK [t + (j : Int)] := one_ok (by omega)
  constructor
  · rcases transF_fit (fs := [t + (j : Int)]) hm hn hl hw hr h0 (show 1 ≤ 16 by omega) hfs hf ht with ⟨_, h⟩ | ⟨k, _, h, _, e, _⟩ | ⟨k, m, _, _, h, h2, _⟩
    · exact absurd (List.mem_singleton.2 rfl) (h j hj)
    · have : k = j := by have := List.mem_singleton.1 h; omega
      rw [e, this]
    · have h1 := List.mem_singleton.1 h
      have h2 := List.mem_singleton.1 h2
      omega
  · rcases playF_fit (fs := [t + (j : Int)]) hm hn hl (show 1 ≤ 16 by omega) hfs ws rs t 0 hf hw hr h0 (by omega) with ⟨_, h⟩ | ⟨k, _, h, _, e⟩
    · exact absurd (List.mem_singleton.2 rfl) (h j hj)
    · have : k = j := by have := List.mem_singleton.1 h; omega
      rw [e, this, Nat.zero_add]
end
end Go.Proofs.Ytdaggbjphopohaa
