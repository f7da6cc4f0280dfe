/- Pinning: the reference's free groups, fits, search, Assign. -/
import Derived.Test.YtnogpkaehiapfaapgC
namespace Go.Proofs.Ytnogpkaehiapfaa
set_option linter.unusedSimpArgs false
set_option linter.unusedVariables false
set_option linter.unnecessarySimpa false
open Go.Abs
set_option maxRecDepth 100000
theorem inc_pw : ∀ {l : List Int}, incP l → l.Pairwise (· < ·) := fun {l} h => by
  refine List.pairwise_iff_getElem.2 fun i j hi hj hij => ?_
  obtain ⟨d, rfl⟩ : ∃ d, j = i + 1 + d := ⟨j - (i + 1), by omega⟩
  induction d with
  | zero => exact h (i + 1) hj (by omega)
  | succ d ih =>
    have h1 := ih (by omega) (by omega)
    have h2 := h (i + 1 + (d + 1)) hj (by omega)
    have e : l[i + 1 + (d + 1) - 1]'(by omega) = l[i + 1 + d]'(by omega) := rfl
    rw [e] at h2
    omega
theorem share_apart {gs : List Grp} {u g : Int} : shareF (pinsOf gs u) (pinsOf gs g) = true ↔ ¬ apartG gs u g := by
  unfold shareF apartG
  rw [List.any_eq_true]
  constructor
  · rintro ⟨x, hx, hc⟩ h
    exact h x hx (List.contains_iff_mem.1 hc)
  · intro h
    refine Classical.byContradiction fun hn => h fun x hx hc => hn ⟨x, hx, List.contains_iff_mem.2 hc⟩
/-- A group that has no pin in common with those that were given (negative: none). -/
def freeN (gs : List Grp) (us : List Int) (g : Int) : Bool := freeG_ gs (us.filter fun u => decide (0 ≤ u)) g
theorem freeN_iff {gs : List Grp} {us : List Int} {g : Int} : freeN gs us g = true ↔ ∀ u ∈ us, 0 ≤ u → apartG gs u g := by
  rw [freeN, freeG_iff]
  constructor
  · intro h u hu h0
    exact h u (List.mem_filter.2 ⟨hu, decide_eq_true h0⟩)
  · intro h u hu
    have hu := List.mem_filter.1 hu
    exact h u hu.1 (of_decide_eq_true hu.2)
theorem freeN_eq {gs : List Grp} {us : List Int} {g : Int} (h : ∀ u ∈ us, 0 ≤ u) : freeN gs us g = freeG_ gs us g := by
  rw [freeN, List.filter_eq_self.2 fun u hu => decide_eq_true (h u hu)]
theorem pinsOf_at {gs : List Grp} {z : Nat} {g : Grp} (h : gs[((z : Nat) : Int).toNat]? = some g) : pinsOf gs z = g.pins := by
  rw [pinsOf, List.getD_eq_getElem?_getD, h]; rfl
theorem pins_pw {p : Pin} (hP : VP p) {z : Nat} {g : Grp} (h : p.gs[((z : Nat) : Int).toNat]? = some g) : g.pins.Pairwise (· < ·) := inc_pw (hP.ok g (List.mem_of_getElem? h)).inc
/-- Kept for later: a goal of a walk's step. -/
theorem park_pgD {P : Prop} (x : P) (_ : x = x) : P := x
/-- One step of a walk. -/
theorem go_pgD {P : Prop} (h : P := by
  (first | ((first | apply LenA.map | apply NilA.map | apply NilA.mk); intro _) | ((first | apply NW.as | apply ValA.as); with_reducible assumption) | ((first | apply NW.i64 | apply NW.u32 | apply NW.u64 | apply NW.u8 | apply InA.nat | apply InA.map | apply AppA.snoc (f := pI) (a := _) rfl | apply AppA.one (f := pI) (a := _) rfl | apply AppA.snoc (f := pB) (a := _) rfl | apply AppA.one (f := pB) (a := _) rfl | apply AppA.map | apply AppA.nil | apply CutA.lo | apply CutA.hi); (first | omega | (simp only [lenS] at *; omega) | grind)) | ((first | (apply RemA.as; assumption) | apply RemA.self); (first | omega | (simp only [lenS] at *; omega) | grind)) | (apply ValA.as; assumption) | apply ValA.self | (apply NW.as; assumption) | (apply SzA.map; (intro _; rfl)) | with_reducible apply br_pt | with_reducible apply br_pf | with_reducible apply br_mt | with_reducible apply br_mf | apply Both.mk | ((first | apply br_T | apply br_F | apply br_mT | apply br_mF); assumption) | ((first | apply br_lss | apply br_leq | apply br_gtr | apply br_geq | apply br_dec | apply br_beq | apply br_bne | apply br_beqB | apply br_bneB | apply br_not | apply br_m | apply br_intro) <;> intro h0 <;> first | (exfalso; first | omega | exact tf h0 (by assumption) | exact tf (by assumption) h0 | exact h0 (by assumption) | exact h0 rfl | exact of_decide_eq_false h0 rfl) | skip) | refine ArrA.mk _ rfl rfl ?_ | (apply IdxA.lit; omega; exact rfl) | ((first | apply IdxA.of_nat | (apply IdxA.of_map; (first | omega | (simp only [lenS] at *; omega) | grind))); rotate_left; (first | omega | (simp only [lenS] at *; omega) | grind)) | apply AppC.own | apply CutO.part | apply IsL.set (f := pI) (a := _) rfl | apply IsL.rep (f := pI) (a := _) rfl | apply IsL.set (f := pB) (a := _) rfl | apply IsL.rep (f := pB) (a := _) rfl | apply IsL.lit (f := pI) [] rfl | apply IsL.lit (f := pI) [_] rfl | apply IsL.lit (f := pB) [] rfl | apply IsL.lit (f := pB) [_] rfl | (apply And.intro; (first | with_reducible rfl | (show (_ : AV) = _; rfl) | (first | omega | (simp only [lenS] at *; omega) | grind)))) <;> (solve_by_elim (newGoals := .nonDependentOnly) (symm := false) (exfalso := false) (transparency := .reducible) only [rfl, park_pgD])) : P := h
set_option maxHeartbeats 4000000 in
theorem rfree_call {p : Pin} (hP : VP p) (nu : Bool) (us : List Int) (g : Nat) (hr : ∀ u ∈ us, u < p.gs.length) (hg : g < p.gs.length) :
    ACall Try.prog 65 [.p p.pv, .p (.list nu (us.map pI)), .p (pI g)] [] fun r H => r = .p (pB (freeN p.gs us g)) ∧ H = [] := by
  refine acall_enter Try.func65 rfl rfl tabOK rfl ?_
  obtain ⟨G, hG⟩ : ∃ G, p.gs[g] = G := ⟨_, rfl⟩
  have hG1 : p.gs[((g : Nat) : Int).toNat]? = some G := by rw [Int.toNat_natCast, List.getElem?_eq_getElem hg, hG]
  have hGp := pins_pw hP hG1
  have hGe := pinsOf_at hG1
  (conv => whnf); repeat' ((first | apply CondA.plain | refine' go_pgD | (apply DrawA.quiet (by kernel_rfl) (by kernel_rfl); (conv => whnf); fail_if_success (show False))) <;> (conv => whnf))
  refine loop_rule (fun (c : Nat) => ⟨[(1, .p (.list nu (us.map pI))), (2, .p (pI g)), (3, .ptr 0 0), (7, .p (pI c))], [some (.cells [.p (pI p.n), .p (.list p.nl (p.gs.map Grp.pv))])]⟩) (fun (c : Nat) => c ≤ us.length ∧ ∀ u ∈ us.take c, 0 ≤ u → apartG p.gs u g) (fun (c : Nat) => us.length - c) 0 ?_ ?_ ?_; (refine SubA.auto rfl rfl rfl rfl ?_ ?_ <;> repeat' (first | exact trivial | refine And.intro ?_ ?_ | with_reducible rfl | (refine pIEq ?_; (first | omega | (simp only [lenS] at *; omega) | grind)) | (refine bufMap ?_) | (refine bufNil ?_) | (refine bufEq ?_) | rfl))
  · exact ⟨Nat.zero_le _, fun u hu => by cases hu⟩
  rintro c ⟨hc, hall⟩
  rcases Nat.lt_or_ge c us.length with hlt | hge
  rotate_left
  · rw [List.take_of_length_le hge] at hall
    rw [freeN_iff.2 hall]
    (conv => whnf); repeat' ((first | apply CondA.plain | refine' go_pgD | (apply DrawA.quiet (by kernel_rfl) (by kernel_rfl); (conv => whnf); fail_if_success (show False))) <;> (conv => whnf))
    (refine RetK.p ?_ <;> repeat' (first | exact trivial | refine And.intro ?_ ?_ | with_reducible rfl | (refine pIEq ?_; (first | omega | (simp only [lenS] at *; omega) | grind)) | (refine bufMap ?_) | (refine bufNil ?_) | (refine bufEq ?_) | rfl); all_goals try first | refine pBEq ?_ | refine pIEq ?_)
  obtain ⟨u, hu⟩ : ∃ u, us[c] = u := ⟨_, rfl⟩
  have hu1 : us[((c : Nat) : Int).toNat]? = some u := by rw [Int.toNat_natCast, List.getElem?_eq_getElem hlt, hu]
  have hur := hr u (by rw [← hu]; exact List.getElem_mem _)
  have hc0 := Int.natCast_nonneg c
  have hnx : (0 ≤ u → apartG p.gs u g) → ∀ v ∈ us.take (c + 1), 0 ≤ v → apartG p.gs v g := fun h v hv => by
    rw [List.take_succ_eq_append_getElem hlt, hu] at hv
    rcases List.mem_append.1 hv with hv | hv
    · exact hall v hv
    · rw [List.mem_singleton.1 hv]; exact h
  rcases Int.lt_or_le u 0 with hneg | hpos
  · (conv => whnf); repeat' ((first | apply CondA.plain | refine' go_pgD | fail) <;> (conv => whnf))
    apply DrawA.quiet (by kernel_rfl) (by kernel_rfl)
    (conv => whnf); repeat' ((first | (apply IdxA.at_ (f := pI) u hc0 hu1) | apply CondA.plain | refine' go_pgD | fail) <;> (conv => whnf))
    (refine' ⟨c + 1, _, _, _⟩; rotate_right; (refine SubA.auto rfl rfl rfl rfl ?_ ?_ <;> repeat' (first | exact trivial | refine And.intro ?_ ?_ | with_reducible rfl | (refine pIEq ?_; (first | omega | (simp only [lenS] at *; omega) | grind)) | (refine bufMap ?_) | (refine bufNil ?_) | (refine bufEq ?_) | rfl)); rotate_right; (first | omega | (simp only []; omega) | (simp; omega) | (first | omega | (simp only [lenS] at *; omega) | grind)))
    exact ⟨by omega, hnx fun h => by omega⟩
  obtain ⟨z, rfl⟩ : ∃ z : Nat, u = z := ⟨u.toNat, by omega⟩
  have hzl : z < p.gs.length := by omega
  obtain ⟨Z, hZ⟩ : ∃ Z, p.gs[z] = Z := ⟨_, rfl⟩
  have hZ1 : p.gs[((z : Nat) : Int).toNat]? = some Z := by rw [Int.toNat_natCast, List.getElem?_eq_getElem hzl, hZ]
  have hZp := pins_pw hP hZ1
  have hsa := share_apart (gs := p.gs) (u := z) (g := g)
  rw [pinsOf_at hZ1, hGe] at hsa
  cases hs : shareF Z.pins G.pins with
  | true =>
    have e : freeN p.gs us g = false := by
      refine Bool.eq_false_iff.2 fun h => hsa.1 hs (freeN_iff.1 h z ?_ hpos)
      rw [← hu]; exact List.getElem_mem _
    rw [e]
    (conv => whnf); repeat' ((first | apply CondA.plain | refine' go_pgD | fail) <;> (conv => whnf))
    apply DrawA.quiet (by kernel_rfl) (by kernel_rfl)
    (conv => whnf); repeat' ((first | (apply IdxA.at_ (f := pI) (z : Int) hc0 hu1) | (apply IdxA.at_ (f := Grp.pv) Z hpos hZ1) | (apply IdxA.at_ (f := Grp.pv) G (Int.natCast_nonneg g) hG1) | apply CondA.plain | refine' go_pgD | ((refine CallQ.mk' (rshare_call _ _ Z.pins G.pins hZp hGp) ?_; rw [hs]))) <;> (conv => whnf))
    (refine RetK.p ?_ <;> repeat' (first | exact trivial | refine And.intro ?_ ?_ | with_reducible rfl | (refine pIEq ?_; (first | omega | (simp only [lenS] at *; omega) | grind)) | (refine bufMap ?_) | (refine bufNil ?_) | (refine bufEq ?_) | rfl); all_goals try first | refine pBEq ?_ | refine pIEq ?_)
  | false =>
    have ha : apartG p.gs z g := Classical.byContradiction fun h => by rw [hsa.2 h] at hs; cases hs
    (conv => whnf); repeat' ((first | apply CondA.plain | refine' go_pgD | fail) <;> (conv => whnf))
    apply DrawA.quiet (by kernel_rfl) (by kernel_rfl)
    (conv => whnf); repeat' ((first | (apply IdxA.at_ (f := pI) (z : Int) hc0 hu1) | (apply IdxA.at_ (f := Grp.pv) Z hpos hZ1) | (apply IdxA.at_ (f := Grp.pv) G (Int.natCast_nonneg g) hG1) | apply CondA.plain | refine' go_pgD | ((refine CallQ.mk' (rshare_call _ _ Z.pins G.pins hZp hGp) ?_; rw [hs]))) <;> (conv => whnf))
    (refine' ⟨c + 1, _, _, _⟩; rotate_right; (refine SubA.auto rfl rfl rfl rfl ?_ ?_ <;> repeat' (first | exact trivial | refine And.intro ?_ ?_ | with_reducible rfl | (refine pIEq ?_; (first | omega | (simp only [lenS] at *; omega) | grind)) | (refine bufMap ?_) | (refine bufNil ?_) | (refine bufEq ?_) | rfl)); rotate_right; (first | omega | (simp only []; omega) | (simp; omega) | (first | omega | (simp only [lenS] at *; omega) | grind)))
    exact ⟨by omega, hnx fun _ => ha⟩
theorem offers_at {p : Pin} (hP : VP p) {f : ByteArray} {z : Nat} {g : Grp} (h : p.gs[((z : Nat) : Int).toNat]? = some g) : (offersF p f).contains (z : Int) = decide (f ∈ g.funs) := by
  rw [offersF, if_pos (valid_mk hP), Bool.eq_iff_iff, List.contains_iff_mem, decide_eq_true_iff, offG]
  have h' : p.gs.getD z default = g := by rw [List.getD_eq_getElem?_getD, ← Int.toNat_natCast z, h]; rfl
  have hz : z < p.gs.length := by
    rw [Int.toNat_natCast] at h
    exact (List.getElem?_eq_some_iff.1 h).1
  constructor
  · intro hm
    obtain ⟨i, hi, he⟩ := List.mem_map.1 hm
    obtain rfl : i = z := by omega
    have := of_decide_eq_true (List.mem_filter.1 hi).2
    rwa [h'] at this
  · intro hm
    exact List.mem_map.2 ⟨z, List.mem_filter.2 ⟨List.mem_range.2 hz, decide_eq_true (by rw [h']; exact hm)⟩, rfl⟩
theorem optsL_at {p : Pin} {l : List ByteArray} {c : Nat} (h : c < l.length) : (optsL p l)[c]'(by rw [opts_len]; exact h) = offersF p l[c] := by simp [optsL]
set_option maxHeartbeats 4000000 in
theorem rfits_call {p : Pin} (hP : VP p) (nl nu : Bool) (l : List ByteArray) (us : List Int) :
    ACall Try.prog 60 [.p p.pv, .p (.list nl (l.map pS)), .p (.list nu (us.map pI))] [] fun r H => r = .p (pB (fitsB p.gs (optsL p l) [] us)) ∧ H = [] := by
  refine acall_enter Try.func60 rfl rfl tabOK rfl ?_
  have hol := opts_len p l
  have h24 := hP.len
  rcases Nat.lt_or_ge l.length us.length with hlg | hlg
  · rw [fitsB_long (by omega)]
    (conv => whnf); repeat' ((first | apply CondA.plain | refine' go_pgD | (apply DrawA.quiet (by kernel_rfl) (by kernel_rfl); (conv => whnf); fail_if_success (show False))) <;> (conv => whnf))
    (refine RetK.p ?_ <;> repeat' (first | exact trivial | refine And.intro ?_ ?_ | with_reducible rfl | (refine pIEq ?_; (first | omega | (simp only [lenS] at *; omega) | grind)) | (refine bufMap ?_) | (refine bufNil ?_) | (refine bufEq ?_) | rfl); all_goals try first | refine pBEq ?_ | refine pIEq ?_)
  (conv => whnf); repeat' ((first | apply CondA.plain | refine' go_pgD | (apply DrawA.quiet (by kernel_rfl) (by kernel_rfl); (conv => whnf); fail_if_success (show False))) <;> (conv => whnf))
  refine loop_rule (fun (c : Nat) => ⟨[(1, .p (.list nl (l.map pS))), (2, .p (.list nu (us.map pI))), (3, .ptr 0 0), (7, .p (pI c))], [some (.cells [.p (pI p.n), .p (.list p.nl (p.gs.map Grp.pv))])]⟩) (fun (c : Nat) => c ≤ us.length ∧ (∀ g ∈ us.take c, 0 ≤ g ∧ g < p.gs.length) ∧ fitsB p.gs (optsL p l) [] us = fitsB p.gs ((optsL p l).drop c) (us.take c) (us.drop c)) (fun (c : Nat) => us.length - c) 0 ?_ ?_ ?_; (refine SubA.auto rfl rfl rfl rfl ?_ ?_ <;> repeat' (first | exact trivial | refine And.intro ?_ ?_ | with_reducible rfl | (refine pIEq ?_; (first | omega | (simp only [lenS] at *; omega) | grind)) | (refine bufMap ?_) | (refine bufNil ?_) | (refine bufEq ?_) | rfl))
  · exact ⟨Nat.zero_le _, fun g hg => (by cases hg), rfl⟩
  rintro c ⟨hc, hrg, hfit⟩
  rcases Nat.lt_or_ge c us.length with hlt | hge
  rotate_left
  · rw [List.drop_of_length_le hge] at hfit
    rw [hfit, fitsB]
    (conv => whnf); repeat' ((first | apply CondA.plain | refine' go_pgD | (apply DrawA.quiet (by kernel_rfl) (by kernel_rfl); (conv => whnf); fail_if_success (show False))) <;> (conv => whnf))
    (refine RetK.p ?_ <;> repeat' (first | exact trivial | refine And.intro ?_ ?_ | with_reducible rfl | (refine pIEq ?_; (first | omega | (simp only [lenS] at *; omega) | grind)) | (refine bufMap ?_) | (refine bufNil ?_) | (refine bufEq ?_) | rfl); all_goals try first | refine pBEq ?_ | refine pIEq ?_)
  obtain ⟨g, hg⟩ : ∃ g, us[c] = g := ⟨_, rfl⟩
  have hg1 : us[((c : Nat) : Int).toNat]? = some g := by rw [Int.toNat_natCast, List.getElem?_eq_getElem hlt, hg]
  have hc0 := Int.natCast_nonneg c
  rw [fitsB_at hlt (by omega), hg, optsL_at (by omega)] at hfit
  obtain ⟨f, hf⟩ : ∃ f, l[c]'(by omega) = f := ⟨_, rfl⟩
  have hf1 : l[((c : Nat) : Int).toNat]? = some f := by rw [Int.toNat_natCast, List.getElem?_eq_getElem (by omega), hf]
  rw [hf] at hfit
  rcases Decidable.em (0 ≤ g ∧ g < p.gs.length) with hgr | hgr
  rotate_left
  · have e : (offersF p f).contains g = false := Bool.eq_false_iff.2 fun h => hgr (offersF_in (List.contains_iff_mem.1 h))
    rw [e] at hfit
    have hfit : fitsB p.gs (optsL p l) [] us = false := hfit
    rw [hfit]
    rcases Int.lt_or_le g 0 with hneg | hpos
    · (conv => whnf); repeat' ((first | (apply IdxA.at_ (f := pI) g hc0 hg1) | apply CondA.plain | refine' go_pgD | fail) <;> (conv => whnf))
      apply DrawA.quiet (by kernel_rfl) (by kernel_rfl)
      (conv => whnf); repeat' ((first | apply CondA.plain | refine' go_pgD | fail) <;> (conv => whnf))
      (refine RetK.p ?_ <;> repeat' (first | exact trivial | refine And.intro ?_ ?_ | with_reducible rfl | (refine pIEq ?_; (first | omega | (simp only [lenS] at *; omega) | grind)) | (refine bufMap ?_) | (refine bufNil ?_) | (refine bufEq ?_) | rfl); all_goals try first | refine pBEq ?_ | refine pIEq ?_)
    · have hgl : ¬ g < p.gs.length := fun h => hgr ⟨hpos, h⟩
      (conv => whnf); repeat' ((first | (apply IdxA.at_ (f := pI) g hc0 hg1) | apply CondA.plain | refine' go_pgD | fail) <;> (conv => whnf))
      apply DrawA.quiet (by kernel_rfl) (by kernel_rfl)
      (conv => whnf); repeat' ((first | apply CondA.plain | refine' go_pgD | fail) <;> (conv => whnf))
      (refine RetK.p ?_ <;> repeat' (first | exact trivial | refine And.intro ?_ ?_ | with_reducible rfl | (refine pIEq ?_; (first | omega | (simp only [lenS] at *; omega) | grind)) | (refine bufMap ?_) | (refine bufNil ?_) | (refine bufEq ?_) | rfl); all_goals try first | refine pBEq ?_ | refine pIEq ?_)
  obtain ⟨hpos, hgl⟩ := hgr
  obtain ⟨z, rfl⟩ : ∃ z : Nat, g = z := ⟨g.toNat, by omega⟩
  have hzl : z < p.gs.length := by omega
  obtain ⟨Z, hZ⟩ : ∃ Z, p.gs[z] = Z := ⟨_, rfl⟩
  have hZ1 : p.gs[((z : Nat) : Int).toNat]? = some Z := by rw [Int.toNat_natCast, List.getElem?_eq_getElem hzl, hZ]
  rw [offers_at hP hZ1] at hfit
  have hv2 := idxS_ge (xs := Z.funs) (x := f)
  obtain ⟨v, hvv⟩ : ∃ v, idxS Z.funs f = v := ⟨_, rfl⟩
  rw [hvv] at hv2
  rcases Decidable.em (f ∈ Z.funs) with hin | hin
  rotate_left
  · have hvn : v < 0 := Int.not_le.1 fun h => hin (hv2.1 h)
    rw [decide_eq_false hin] at hfit
    have hfit : fitsB p.gs (optsL p l) [] us = false := hfit
    rw [hfit]
    (conv => whnf); repeat' ((first | (apply IdxA.at_ (f := pI) (z : Int) hc0 hg1) | apply CondA.plain | refine' go_pgD | fail) <;> (conv => whnf))
    apply DrawA.quiet (by kernel_rfl) (by kernel_rfl)
    (conv => whnf); repeat' ((first | (apply IdxA.at_ (f := Grp.pv) Z hpos hZ1) | (apply IdxA.at_ (f := pS) f hc0 hf1) | apply CondA.plain | refine' go_pgD | ((refine CallQ.mk' (At_call Z f) ?_; rw [hvv]))) <;> (conv => whnf))
    (refine RetK.p ?_ <;> repeat' (first | exact trivial | refine And.intro ?_ ?_ | with_reducible rfl | (refine pIEq ?_; (first | omega | (simp only [lenS] at *; omega) | grind)) | (refine bufMap ?_) | (refine bufNil ?_) | (refine bufEq ?_) | rfl); all_goals try first | refine pBEq ?_ | refine pIEq ?_)
  have hvp := hv2.2 hin
  rw [decide_eq_true hin, Bool.true_and] at hfit
  have hfe := freeN_eq (gs := p.gs) (g := (z : Int)) (fun u hu => (hrg u hu).1)
  have htk : List.take ((c : Nat) : Int).toNat (us.map pI) = (us.take c).map pI := by rw [Int.toNat_natCast, List.map_take]
  have hfc := fun nb => rfree_call hP nb (us.take c) z (fun u hu => (hrg u hu).2) hzl
  rw [hfe] at hfc
  cases hfv : freeG_ p.gs (us.take c) (z : Int) with
  | false =>
    rw [hfv] at hfit
    have hfit : fitsB p.gs (optsL p l) [] us = false := hfit
    rw [hfit]
    rw [hfv] at hfc
    (conv => whnf); repeat' ((first | (apply IdxA.at_ (f := pI) (z : Int) hc0 hg1) | apply CondA.plain | refine' go_pgD | fail) <;> (conv => whnf))
    apply DrawA.quiet (by kernel_rfl) (by kernel_rfl)
    (conv => whnf); repeat' ((first | (apply IdxA.at_ (f := Grp.pv) Z hpos hZ1) | (apply IdxA.at_ (f := pS) f hc0 hf1) | (refine CutA.mk ((us.take c).map pI) (by omega) htk ?_) | apply CondA.plain | refine' go_pgD | ((refine CallQ.mk' (At_call Z f) ?_; rw [hvv])) | ((refine CallQ.mk' (hfc _) ?_))) <;> (conv => whnf))
    (refine RetK.p ?_ <;> repeat' (first | exact trivial | refine And.intro ?_ ?_ | with_reducible rfl | (refine pIEq ?_; (first | omega | (simp only [lenS] at *; omega) | grind)) | (refine bufMap ?_) | (refine bufNil ?_) | (refine bufEq ?_) | rfl); all_goals try first | refine pBEq ?_ | refine pIEq ?_)
  | true =>
    rw [hfv, Bool.true_and] at hfit
    rw [hfv] at hfc
    (conv => whnf); repeat' ((first | (apply IdxA.at_ (f := pI) (z : Int) hc0 hg1) | apply CondA.plain | refine' go_pgD | fail) <;> (conv => whnf))
    apply DrawA.quiet (by kernel_rfl) (by kernel_rfl)
    (conv => whnf); repeat' ((first | (apply IdxA.at_ (f := Grp.pv) Z hpos hZ1) | (apply IdxA.at_ (f := pS) f hc0 hf1) | (refine CutA.mk ((us.take c).map pI) (by omega) htk ?_) | apply CondA.plain | refine' go_pgD | ((refine CallQ.mk' (At_call Z f) ?_; rw [hvv])) | ((refine CallQ.mk' (hfc _) ?_))) <;> (conv => whnf))
    (refine' ⟨c + 1, _, _, _⟩; rotate_right; (refine SubA.auto rfl rfl rfl rfl ?_ ?_ <;> repeat' (first | exact trivial | refine And.intro ?_ ?_ | with_reducible rfl | (refine pIEq ?_; (first | omega | (simp only [lenS] at *; omega) | grind)) | (refine bufMap ?_) | (refine bufNil ?_) | (refine bufEq ?_) | rfl)); rotate_right; (first | omega | (simp only []; omega) | (simp; omega) | (first | omega | (simp only [lenS] at *; omega) | grind)))
    refine ⟨by omega, fun y hy => ?_, hfit⟩
    rw [List.take_succ_eq_append_getElem hlt, hg] at hy
    rcases List.mem_append.1 hy with hy | hy
    · exact hrg y hy
    · rw [List.mem_singleton.1 hy]; exact ⟨hpos, hgl⟩
end Go.Proofs.Ytnogpkaehiapfaa
