/- Registers: writes to made slots. -/
import Derived.Test.YtdaggbjphopohaaregD
namespace Go.Proofs.Ytdaggbjphopohaa
set_option linter.unusedSimpArgs false
set_option linter.unusedVariables false
set_option linter.unnecessarySimpa false
open Go.Abs
set_option maxRecDepth 100000
/-- The number in a field. -/
def valF (f : Fld) (rs : List Int) : Nat := getN f (rs.getD f.reg.toNat 0).toNat
def setF (f : Fld) (rs : List Int) (v : Nat) : List Int := rs.set f.reg.toNat (putN f (rs.getD f.reg.toNat 0).toNat v)
section
variable {f g : Fld} {rs : List Int} {v w : Nat} {n : Nat}
theorem setF_len : (setF f rs v).length = rs.length := by simp [setF]
theorem word_lt (hw : Words rs) (i : Nat) : (rs.getD i 0).toNat < 4294967296 := by
  rw [List.getD_eq_getElem?_getD]
  rcases Nat.lt_or_ge i rs.length with h | h
  · have := hw i h
    rw [List.getElem?_eq_getElem h]
    simp only [Option.getD_some]; omega
  · rw [List.getElem?_eq_none h]; simp
theorem setF_words (hw : Words rs) (hs : f.Shaped) (hv : v < 2 ^ f.width.toNat) : Words (setF f rs v) := by
  intro k hk
  unfold setF at hk ⊢
  rw [List.getElem_set]
  split
  · have := putN_lt hs (word_lt hw f.reg.toNat) hv
    omega
  · exact hw k _
theorem setF_at (hr : f.Right rs.length) : (setF f rs v).getD f.reg.toNat 0 = putN f (rs.getD f.reg.toNat 0).toNat v := by
  have : f.reg.toNat < rs.length := by have := hr.1; have := hr.2.1; omega
  simp [setF, List.getD_eq_getElem?_getD, this]
theorem setF_other {i : Nat} (h : i ≠ f.reg.toNat) : (setF f rs v).getD i 0 = rs.getD i 0 := by
  simp only [setF, List.getD_eq_getElem?_getD, List.getElem?_set]
  rw [if_neg (by omega)]
theorem val_set (hr : f.Right rs.length) (hw : Words rs) (hv : v < 2 ^ f.width.toNat) : valF f (setF f rs v) = v := by
  unfold valF
  rw [setF_at hr, Int.toNat_natCast, get_put hr.2.2 (word_lt hw _) hv]
theorem val_other (hf : f.Right rs.length) (hg : g.Right rs.length) (hw : Words rs) (hv : v < 2 ^ g.width.toNat) (ha : f.reg = g.reg → f.Apart g) : valF f (setF g rs v) = valF f rs := by
  unfold valF
  by_cases hr : f.reg = g.reg
  · rw [hr, setF_at hg, Int.toNat_natCast, get_other hf.2.2 hg.2.2 (ha hr) (word_lt hw _) hv]
  · rw [setF_other]
    have := hf.1; have := hg.1; omega
theorem set_val (hr : f.Right rs.length) (hw : Words rs) : setF f rs (valF f rs) = rs := by
  have hlt : f.reg.toNat < rs.length := by have := hr.1; have := hr.2.1; omega
  unfold setF valF
  rw [put_get hr.2.2 (word_lt hw _)]
  apply List.ext_getElem
  · simp
  · intro i h1 h2
    rw [List.getElem_set]
    split
    · rename_i h3
      subst h3
      have := hw _ hlt
      simp [List.getD_eq_getElem?_getD, hlt]; omega
    · rfl
theorem set_set (hr : f.Right rs.length) (hw : Words rs) (hv : v < 2 ^ f.width.toNat) (hv2 : w < 2 ^ f.width.toNat) : setF f (setF f rs v) w = setF f rs w := by
  have h := setF_at (v := v) hr
  unfold setF at h ⊢
  rw [h, List.set_set, Int.toNat_natCast, put_put hr.2.2 (word_lt hw _) hv hv2]
theorem set_comm (hf : f.Right rs.length) (hg : g.Right rs.length) (hw : Words rs) (hv : v < 2 ^ f.width.toNat) (hv2 : w < 2 ^ g.width.toNat) (ha : f.reg = g.reg → f.Apart g) : setF f (setF g rs w) v = setF g (setF f rs v) w := by
  by_cases hr : f.reg = g.reg
  · have h1 := setF_at (v := w) hg
    have h2 := setF_at (v := v) hf
    unfold setF at h1 h2 ⊢
    rw [← hr] at h1 ⊢
    rw [h1, h2, List.set_set, List.set_set, Int.toNat_natCast, Int.toNat_natCast, put_comm hf.2.2 hg.2.2 (ha hr) (word_lt hw _) hv hv2]
  · have hne : f.reg.toNat ≠ g.reg.toNat := by have := hf.1; have := hg.1; omega
    have h1 := setF_other (f := g) (rs := rs) (v := w) hne
    have h2 := setF_other (f := f) (rs := rs) (v := v) (i := g.reg.toNat) (by omega)
    unfold setF at h1 h2 ⊢
    rw [h1, h2, List.set_comm _ _ (by omega)]
end
/-- A write to a made slot, of a number that fits. -/
structure FitW (l : List Slot) (i : Nat) (w : Wr) : Prop where
  lt : i < l.length
  kind : w.kind = l[i].kind
  unit : w.unit = l[i].unit
  ge : 0 ≤ w.value
  small : w.value.toNat < 2 ^ l[i].width.toNat
section
variable {l : List Slot} {rs : List Int} {n : Nat}
theorem FitW.step (hm : MadeS l n) (hn : n ≤ 32) (hl : l.length ≤ 120) (hw : Words rs) (hr : rs.length = n) {i : Nat} {w : Wr} (h : FitW l i w) (r : List Wr) (k : Nat) :
    appF l (w :: r) rs k = appF l r (setF (l[i]'h.lt).fld rs w.value.toNat) (k + 1) := by
  have hlt := h.lt
  have hS : slotsE l rs.length = 0 := by rw [hr]; exact hm.ok (by omega) hl
  have hf := hm.find h.lt
  rw [← h.kind, ← h.unit] at hf
  have hsm := h.small
  have hge := h.ge
  have e : encE l rs w = 0 := by
    unfold encE
    rw [if_neg (by rintro (h | h); exact h hS; exact h hw), hf]
    refine if_pos ⟨hge, ?_⟩
    have ep : (2 : Int) ^ l[i].fld.width.toNat = ((2 ^ l[i].width.toNat : Nat) : Int) := by simp [Slot.fld]
    rw [ep]; omega
  have er : encR l rs w = l[i].fld.reg := by rw [encR, e, hf]; rfl
  have ev : encV l rs w = putN l[i].fld (rs.getD l[i].fld.reg.toNat 0).toNat w.value.toNat := by rw [encV, e, hf]; rfl
  rw [appF, if_neg (by omega), er, ev]
  rfl
theorem right_len (hm : MadeS l n) (hr : rs.length = n) {i : Nat} (h : i < l.length) : l[i].fld.Right rs.length := by rw [hr]; exact (hm.1 i h).2.2
theorem app_dec (hm : MadeS l n) (hn : n ≤ 32) (hl : l.length ≤ 120) (hw : Words rs) (hr : rs.length = n) : ∀ (ls : List Slot) (k : Nat), (∀ s ∈ ls, s ∈ l) → appF l (ls.map (decW rs)) rs k = (rs, ((k + ls.length : Nat) : Int), (0 : Int))
  | [], k, _ => by simp [appF]
  | s :: ls, k, h => by
    obtain ⟨i, hi, rfl⟩ := List.getElem_of_mem (h s (List.mem_cons_self ..))
    have hR := right_len hm hr hi
    have eg : getV rs l[i].fld = valF l[i].fld rs := by
      have e0 : getE rs l[i].fld = 0 := if_pos ⟨hR, hw⟩
      unfold getV; rw [e0]; rfl
    have hfit : FitW l i (decW rs l[i]) := ⟨hi, rfl, rfl, by simp [decW], by
      show ((getV rs l[i].fld : Nat) : Int).toNat < _
      rw [eg, Int.toNat_natCast]; exact getN_small hR.2.2 _⟩
    have eset : setF l[i].fld rs (decW rs l[i]).value.toNat = rs := by
      show setF _ rs ((getV rs l[i].fld : Nat) : Int).toNat = rs
      rw [eg, Int.toNat_natCast, set_val hR hw]
    rw [List.map_cons, hfit.step hm hn hl hw hr, eset, app_dec hm hn hl hw hr ls (k + 1) fun s hs => h s (List.mem_cons_of_mem _ hs)]
    simp; omega
/-- Writes to all slots, from slot c on. -/
theorem app_all (hm : MadeS l n) (hn : n ≤ 32) (hl : l.length ≤ 120) {ws : List Wr} (hlen : ws.length = l.length) (hfit : ∀ i (h : i < ws.length), FitW l i ws[i]) :
    ∀ (k c : Nat) (rs : List Int), ws.length - c = k → c ≤ ws.length → Words rs → rs.length = n → ∃ X, appF l (ws.drop c) rs c = (X, (ws.length : Int), (0 : Int)) ∧ Words X ∧ X.length = n ∧
      (∀ i (h : i < l.length), i < c → valF l[i].fld X = valF l[i].fld rs) ∧ (∀ i (h : i < l.length) (h2 : i < ws.length), c ≤ i → valF l[i].fld X = ws[i].value.toNat)
  | 0, c, rs, hk, hc, hw, hr => by
    have : c = ws.length := by omega
    subst this
    refine ⟨rs, by simp [appF], hw, hr, fun i h h2 => rfl, fun i h h2 h3 => by omega⟩
  | k + 1, c, rs, hk, hc, hw, hr => by
    have hcl : c < ws.length := by omega
    have hf := hfit c hcl
    have hR := right_len hm hr hf.lt
    obtain ⟨X, h1, h2, h3, h4, h5⟩ := app_all hm hn hl hlen hfit k (c + 1) (setF (l[c]'hf.lt).fld rs ws[c].value.toNat) (by omega) (by omega) (setF_words hw hR.2.2 hf.small) (by rw [setF_len, hr])
    refine ⟨X, ?_, h2, h3, fun i h hi => ?_, fun i h hi h6 => ?_⟩
    · rw [List.drop_eq_getElem_cons hcl, hf.step hm hn hl hw hr, h1]
    · rw [h4 i h (by omega), val_other (right_len hm hr h) hR hw hf.small fun he => hm.apart h hf.lt (by omega) he]
    · rcases Nat.lt_or_ge c i with h7 | h7
      · exact h5 i h hi (by omega)
      · obtain rfl : i = c := by omega
        rw [h4 i h (by omega), val_set hR hw hf.small]
theorem dec_all (hm : MadeS l n) (hn : n ≤ 32) (hl : l.length ≤ 120) {ws : List Wr} (hlen : ws.length = l.length) (hfit : ∀ i (h : i < ws.length), FitW l i ws[i]) {X : List Int} (hw : Words X) (hr : X.length = n) (hv : ∀ i (h : i < l.length) (h2 : i < ws.length), valF l[i].fld X = ws[i].value.toNat) :
    decE l X = 0 ∧ decL l X = ws := by
  have hS : slotsE l X.length = 0 := by rw [hr]; exact hm.ok (by omega) hl
  have e : decE l X = 0 := by unfold decE; rw [if_neg (by rintro (h | h); exact h hS; exact h hw)]
  refine ⟨e, ?_⟩
  rw [decL, e]
  show l.map (decW X) = ws
  apply List.ext_getElem
  · simp [hlen]
  · intro i h1 h2
    have hi : i < l.length := by omega
    have hf := hfit i h2
    have hR := right_len hm hr hi
    have eg : getV X l[i].fld = valF l[i].fld X := by
      have e0 : getE X l[i].fld = 0 := if_pos ⟨hR, hw⟩
      unfold getV; rw [e0]; rfl
    rw [List.getElem_map]
    show (⟨l[i].kind, l[i].unit, (getV X l[i].fld : Nat)⟩ : Wr) = ws[i]
    rw [eg, hv i hi h2, ← hf.kind, ← hf.unit]
    have := hf.ge
    rw [Int.toNat_of_nonneg this]
end
theorem tmod_len {a : Int} {n : Nat} (ha : 0 ≤ a) (hn : 0 < n) : ∃ k : Nat, a.tmod n = k ∧ k < n := by
  have h1 : 0 ≤ a.tmod n := Int.tmod_nonneg _ ha
  have h2 : a.tmod n < n := Int.tmod_lt_of_pos _ (by omega)
  exact ⟨(a.tmod n).toNat, by omega, by omega⟩
end Go.Proofs.Ytdaggbjphopohaa
