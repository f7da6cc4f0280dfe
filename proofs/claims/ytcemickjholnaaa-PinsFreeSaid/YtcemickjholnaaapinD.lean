/- PinsTogether. -/
import Derived.Test.YtcemickjholnaaapinA
import Derived.Test.YtcemickjholnaaapinC
namespace Go.Proofs.Ytcemickjholnaaa
set_option linter.unusedSimpArgs false
set_option linter.unusedVariables false
set_option linter.unnecessarySimpa false
open Go.Abs
set_option maxRecDepth 100000
theorem mem2 {a b u : Us} (h : u ∈ [b, a]) : u ∈ [a, b] := by
  simp at h ⊢; exact h.symm
theorem apart_comm {gs : List Grp} {a b : Us} (h : Apart gs a b) : Apart gs b a := ⟨fun e => h.1 e.symm, fun x h1 h2 => h.2 x h2 h1⟩
theorem goods_swap {p : Pin} {a b : Us} (h : Goods p [a, b]) : Goods p [b, a] := by
  obtain ⟨h1, h2⟩ := h
  have h3 := (List.pairwise_cons.1 h2).1 b List.mem_cons_self
  refine ⟨fun u hu => h1 u (mem2 hu), List.pairwise_cons.2 ⟨fun u hu => ?_, List.pairwise_singleton ..⟩⟩
  rw [List.mem_singleton.1 hu]
  exact apart_comm h3
theorem owners_at {p : Pin} (hP : VP p) {us : List Us} (h : Goods p us) (i : Nat) : (ownersF p us).1.getD i (-1) = -1 ∧ (∀ u ∈ us, (i : Int) ∉ pinsOf p.gs u.g) ∨ ∃ u ∈ us, (ownersF p us).1.getD i (-1) = u.g ∧ (i : Int) ∈ pinsOf p.gs u.g := by
  rcases Decidable.em (∃ u ∈ us, (i : Int) ∈ pinsOf p.gs u.g) with ⟨u, hu, hm⟩ | hn
  · have := (owners_spec hP h).own u hu _ hm
    rw [Int.toNat_natCast] at this
    exact .inr ⟨u, hu, this, hm⟩
  · have hn2 : ∀ u ∈ us, (i : Int) ∉ pinsOf p.gs u.g := fun u hu hm => hn ⟨u, hu, hm⟩
    exact .inl ⟨owners_free hP h hn2, hn2⟩
theorem owners_swap {p : Pin} (hP : VP p) {a b : Us} (h : Goods p [a, b]) : (ownersF p [b, a]).1 = (ownersF p [a, b]).1 := by
  have h2 := goods_swap h
  have s1 := owners_spec hP h
  have s2 := owners_spec hP h2
  refine List.ext_getElem (by rw [s1.len, s2.len]) fun i hi hj => ?_
  have e1 : (ownersF p [b, a]).1.getD i (-1) = (ownersF p [b, a]).1[i] := by rw [List.getD_eq_getElem?_getD, List.getElem?_eq_getElem hi]; rfl
  have e2 : (ownersF p [a, b]).1.getD i (-1) = (ownersF p [a, b]).1[i] := by rw [List.getD_eq_getElem?_getD, List.getElem?_eq_getElem hj]; rfl
  rw [← e1, ← e2]
  rcases owners_at hP h2 i with ⟨h3, h4⟩ | ⟨u, hu, h3, h4⟩
  · rw [h3, owners_free hP h fun u hu => h4 u (mem2 hu)]
  · have := s1.own u (mem2 hu) _ h4
    rw [Int.toNat_natCast] at this
    rw [h3, this]
/-- The error of two uses. -/
def togE (p : Pin) (x y : Nat) : Int := if x = y then 5 else if commonF p x y ≠ [] then 40 else 0
theorem useOK {p : Pin} (hP : VP p) {x : Nat} (hx : x < p.gs.length) : ¬ badU p.gs ⟨(x : Int), 0⟩ := by
  have hg := hP.ok _ (List.getElem_mem hx)
  have := List.length_pos_iff.2 hg.fne
  unfold badU
  show ¬ ((x : Int) < 0 ∨ (p.gs.length : Int) ≤ (x : Int) ∨ (0 : Int) < 0 ∨ ((p.gs.getD (x : Int).toNat default).funs.length : Int) ≤ 0)
  rw [Int.toNat_natCast, gs_getD hx]
  omega
theorem common_mem {p : Pin} (hP : VP p) {x y : Nat} (hx : x < p.gs.length) (hy : y < p.gs.length) : commonF p x y = comF (pinsOf p.gs x) (pinsOf p.gs y) := by
  rw [commonF, if_pos ⟨valid_mk hP, by omega, by omega⟩]; rfl
theorem tog_err {p : Pin} (hP : VP p) {x y : Nat} (hx : x < p.gs.length) (hy : y < p.gs.length) : (ownersF p [⟨(x : Int), 0⟩, ⟨(y : Int), 0⟩]).2 = togE p x y := by
  have hn := hP.n
  have bx := useOK hP hx
  have b_y := useOK hP hy
  obtain ⟨gx0, gx1, gx2, gx3, gx4⟩ := good_ps hP bx
  obtain ⟨gy0, gy1, gy2, gy3, gy4⟩ := good_ps hP b_y
  have hlen : ((List.replicate p.n.toNat (-1 : Int)).length : Int) = p.n := by rw [List.length_replicate]; omega
  rw [ownersF, if_pos (valid_mk hP), ownG, if_neg bx, if_neg (by simp)]
  rcases setOwn_spec (v := (x : Int)) (by omega) (o := List.replicate p.n.toNat (-1)) gx2 (fun z hz => by have := gx3 z hz; rw [hlen]; exact this) with ⟨⟨z, hz, h3⟩, h4⟩ | ⟨h3, o', h4, h5, h6, h7, h8⟩
  · exact absurd (repl_getD _ _) h3
  have h4' : setOwn (x : Int) (p.gs.getD ((x : Int)).toNat default).pins (List.replicate p.n.toNat (-1)) = some o' := h4
  simp only [h4']
  rw [ownG, if_neg b_y]
  unfold togE
  rcases Decidable.em (x = y) with e | e
  · rw [if_pos e, if_pos (by simp; omega)]
  rw [if_neg e, if_neg (by simp; omega), common_mem hP hx hy]
  rcases setOwn_spec (v := (y : Int)) (by omega) (o := o') gy2 (fun z hz => by have := gy3 z hz; rw [h5, hlen]; exact this) with ⟨⟨z, hz, k3⟩, k4⟩ | ⟨k3, o2, k4, _⟩
  · have k4' : setOwn (y : Int) (p.gs.getD ((y : Int)).toNat default).pins o' = none := k4
    have hz0 := gy3 z hz
    have hzx : z ∈ pinsOf p.gs x := Decidable.byContradiction fun hn => by
      have := h7 z.toNat (by rw [Int.toNat_of_nonneg hz0.1]; exact hn)
      rw [repl_getD] at this
      exact k3 this
    have : comF (pinsOf p.gs x) (pinsOf p.gs y) ≠ [] := List.ne_nil_of_mem (a := z) (List.mem_filter.2 ⟨hzx, List.contains_iff_mem.2 hz⟩)
    simp only [k4', if_pos this]
  · have k4' : setOwn (y : Int) (p.gs.getD ((y : Int)).toNat default).pins o' = some o2 := k4
    have : comF (pinsOf p.gs x) (pinsOf p.gs y) = [] := List.filter_eq_nil_iff.2 fun z hz hc => by
      have h9 := h6 z hz
      have h10 := k3 z (List.contains_iff_mem.1 hc)
      omega
    simp only [k4', this, ownG]
    rw [if_neg (by simp)]
theorem tog_comm {p : Pin} (hP : VP p) {x y : Nat} (hx : x < p.gs.length) (hy : y < p.gs.length) : togE p y x = togE p x y := by
  unfold togE
  rcases Decidable.em (x = y) with e | e
  · rw [if_pos e, if_pos e.symm]
  rw [if_neg e, if_neg (fun h => e h.symm), common_mem hP hx hy, common_mem hP hy hx]
  have : comF (pinsOf p.gs y) (pinsOf p.gs x) ≠ [] ↔ comF (pinsOf p.gs x) (pinsOf p.gs y) ≠ [] := by
    have key : ∀ a b : List Int, comF a b ≠ [] → comF b a ≠ [] := fun a b h => by
      obtain ⟨z, hz⟩ := List.exists_mem_of_ne_nil _ h
      have h1 := List.mem_filter.1 hz
      exact List.ne_nil_of_mem (a := z) (List.mem_filter.2 ⟨List.contains_iff_mem.1 h1.2, List.contains_iff_mem.2 h1.1⟩)
    exact ⟨key _ _, key _ _⟩
  simp only [this]
theorem tog_eq {p : Pin} (hP : VP p) {x y : Nat} (hx : x < p.gs.length) (hy : y < p.gs.length) : ownersF p [⟨(y : Int), 0⟩, ⟨(x : Int), 0⟩] = ownersF p [⟨(x : Int), 0⟩, ⟨(y : Int), 0⟩] := by
  have e1 := tog_err hP hx hy
  have e2 := tog_err hP hy hx
  rw [tog_comm hP hx hy, ← e1] at e2
  refine Prod.ext ?_ e2
  rcases Decidable.em ((ownersF p [⟨(x : Int), 0⟩, ⟨(y : Int), 0⟩]).2 = 0) with h | h
  · exact owners_swap hP ((owners_ok hP).1 h)
  · rw [ownersF_bad h, ownersF_bad (by rw [e2]; exact h)]
end Go.Proofs.Ytcemickjholnaaa
