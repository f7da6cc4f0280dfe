/- Pinning: groups that are renamed. -/
import Derived.Test.YtnogpkaehiapfaapgT
import Derived.Test.YtnogpkaehiapfaapinA
namespace Go.Proofs.Ytnogpkaehiapfaa
set_option linter.unusedSimpArgs false
set_option linter.unusedVariables false
set_option linter.unnecessarySimpa false
open Go.Abs
/-- A group with another name. -/
def renF (g : Grp) : Grp := ⟨⟨#[120]⟩ ++ g.name, g.pn, g.pins, g.fn, g.funs⟩
def renG (gs : List Grp) : List Grp := gs.map renF
theorem ren_getD (gs : List Grp) (i : Nat) : ((renG gs).getD i default).pins = (gs.getD i default).pins ∧ ((renG gs).getD i default).funs = (gs.getD i default).funs := by
  unfold renG
  rw [List.getD_eq_getElem?_getD, List.getD_eq_getElem?_getD, List.getElem?_map]
  cases gs[i]? <;> exact ⟨rfl, rfl⟩
theorem pinsOf_ren (gs : List Grp) (v : Int) : pinsOf (renG gs) v = pinsOf gs v := (ren_getD gs v.toNat).1
theorem freeG_ren (gs : List Grp) : freeG_ (renG gs) = freeG_ gs := by
  funext us g
  unfold freeG_
  simp only [pinsOf_ren]
theorem srch_ren (gs : List Grp) : ∀ (opts : List (List Int)) (us : List Int), srch (renG gs) opts us = srch gs opts us
  | [], _ => rfl
  | o :: r, us => by
    rw [srch, srch, freeG_ren]
    simp only [srch_ren gs r]
theorem offG_ren (gs : List Grp) (f : ByteArray) (c : Nat) : offG (renG gs) f c = offG gs f c := by
  unfold offG
  congr 1
  refine List.filter_congr fun i _ => ?_
  rw [(ren_getD gs i).2]
theorem nmG_x_word : ∀ c, c < 6 → wordF (⟨#[120]⟩ ++ nmG c) = true := by decide +kernel
theorem nmG_x_ne : ∀ c, c < 6 → ∀ d, d < c → (⟨#[120]⟩ : ByteArray) ++ nmG d ≠ ⟨#[120]⟩ ++ nmG c := by decide +kernel
theorem ren_valid {p q : Pin} (hp : MadeP p) (hn : q.n = p.n) (hg : q.gs = renG p.gs) : VP q := by
  have hP := hp.valid
  have hl := hp.len
  have hql : q.gs.length = p.gs.length := by rw [hg, renG, List.length_map]
  have hat : ∀ i, (h : i < q.gs.length) → q.gs[i] = renF (p.gs[i]'(by omega)) := fun i h => by
    have : q.gs[i]? = (renG p.gs)[i]? := by rw [hg]
    rw [renG, List.getElem?_map, List.getElem?_eq_getElem h, List.getElem?_eq_getElem (by omega)] at this
    injection this
  refine ⟨by rw [hn]; exact hP.n, by rw [hql]; exact hP.len, fun g hgm => ?_, fun i j hij hj e => ?_⟩
  · obtain ⟨i, hi, rfl⟩ := List.getElem_of_mem hgm
    have h0 := hP.ok _ (List.getElem_mem (show i < p.gs.length by omega))
    have h1 := (hp.gs i (by omega)).name
    rw [hat i hi, hn]
    obtain ⟨k1, k2, k3, k4, k5, k6, k7, k8⟩ := h0
    exact ⟨by show wordF (⟨#[120]⟩ ++ _) = true; rw [h1]; exact nmG_x_word i (by omega), k2, k3, k4, k5, k6, k7, k8⟩
  · rw [gs_getD (by omega), gs_getD hj, hat i (by omega), hat j hj] at e
    have e : (⟨#[120]⟩ : ByteArray) ++ (p.gs[i]'(by omega)).name = ⟨#[120]⟩ ++ (p.gs[j]'(by omega)).name := e
    rw [(hp.gs i (by omega)).name, (hp.gs j (by omega)).name] at e
    exact nmG_x_ne j (by omega) i hij e
theorem opts_ren {p q : Pin} (hp : MadeP p) (hn : q.n = p.n) (hg : q.gs = renG p.gs) (l : List ByteArray) : optsL q l = optsL p l := by
  unfold optsL
  refine List.map_congr_left fun f _ => ?_
  have hql : q.gs.length = p.gs.length := by rw [hg, renG, List.length_map]
  rw [offersF, offersF, if_pos (valid_mk (ren_valid hp hn hg)), if_pos (valid_mk hp.valid), hql, hg, offG_ren]
/-- Names play no part. -/
theorem asg_ren {p q : Pin} (hp : MadeP p) (hn : q.n = p.n) (hg : q.gs = renG p.gs) (l : List ByteArray) : asgF q l [] = asgF p l [] := by
  have hr : rightP q l ↔ rightP p l := by
    unfold rightP
    rw [valid_mk (ren_valid hp hn hg), valid_mk hp.valid]
  have hb : badF q l [] = badF p l [] := by
    have f1 : ∀ gs opts us, fitsB gs opts us [] = true := fun gs opts us => by cases opts <;> rfl
    unfold badF
    rw [f1, f1]
    by_cases h : rightP p l
    · rw [if_pos h, if_pos (hr.2 h)]
    · rw [if_neg h, if_neg fun h2 => h (hr.1 h2)]
  unfold asgF
  rw [hb, opts_ren hp hn hg, hg, srch_ren]
end Go.Proofs.Ytnogpkaehiapfaa
