/- For TopRefusals: part 6 of 15. -/
import Derived.Test.YtnhifaofkndclaaGreatDoorM5
set_option linter.unusedSimpArgs false
set_option linter.unusedVariables false
set_option linter.unnecessarySimpa false
set_option maxHeartbeats 8000000
namespace Go.Proofs.YtnhifaofkndclaaGreatDoor
open Go.Abs
set_option maxRecDepth 100000
def pN (n : Nat) : PV := .v (.int .i64 n)
theorem gpN {P : Prop} (h : P := by
 (first | ((first | apply AppA.snoc (f := pN) (a := _) rfl | apply AppA.one (f := pN) (a := _) rfl); exact ar_) | apply IsL.set (f := pN) (a := _) rfl | apply IsL.rep (f := pN) (a := _) rfl | apply IsL.lit (f := pN) [] rfl | apply IsL.lit (f := pN) [_] rfl | apply IsL.lit (f := pN) [_, _] rfl | apply IsL.lit (f := pN) [_, _, _] rfl) <;> (solve_by_elim (newGoals := .nonDependentOnly) (symm := false) (exfalso := false) (transparency := .reducible) only [rfl, park_])) : P := h
theorem y8256 {P : Prop} (h : P := by
 ((conv => whnf); repeat' ((first | apply CondA.plain | refine' gC | refine' gpS | refine' gpN | refine' gpI | refine' gpB | refine' gPrpv | refine' gNdpv | refine' gE | (apply DrawA.quiet (by kernel_rfl) (by kernel_rfl); (conv => whnf); fail_if_success (show False))) <;> (conv => whnf))) <;> (solve_by_elim (newGoals := .nonDependentOnly) (symm := false) (exfalso := false) (transparency := .reducible) only [rfl, park_])) : P := h
theorem z8256 {P : Prop} (h : P := by
 ((first | apply CondA.plain | refine' gC | refine' gpS | refine' gpN | refine' gpI | refine' gpB | refine' gPrpv | refine' gNdpv | refine' gE | (apply DrawA.quiet (by kernel_rfl) (by kernel_rfl); (conv => whnf); fail_if_success (show False))) <;> (conv => whnf)) <;> (solve_by_elim (newGoals := .nonDependentOnly) (symm := false) (exfalso := false) (transparency := .reducible) only [rfl, park_])) : P := h
theorem rNames_call (nl : Bool) (ns : List Nd) (hs : Sm ns) (hf : Few ns) : ACall Tryz.prog 72 [.p (.agg [.list nl (ns.map Nd.pv)])] [] fun r H => (∃ b, r = .p (pB b) /\ (b = true ↔ Nam ns)) /\ H = [] := by
 refine acall_enter Tryz.func72 rfl rfl tabOK rfl ?_
 have hl := hf.1
 refine' y8256
 refine loop_rule (fun (c : Nat) => ⟨[(8, .p (.list nl (ns.map Nd.pv))), (9, .p (pI ns.length)), (10, .p (pI c))], []⟩) (fun c => c <= ns.length /\ ∀ i (h : i < ns.length), i < c -> NamAt i ns[i]) (fun c => ns.length - c) 0 ?_ ?_ ?_; (refine SubA.auto rfl rfl rfl rfl ?_ ?_ <;> refine' fin_)
 ·exact ⟨Nat.zero_le _, fun i _ hi => by omega⟩
 rintro c ⟨hc, hall⟩
 rcases Nat.lt_or_ge c ns.length with hlt | hge
 rotate_left
 ·refine' y8256
  (refine' RetK.auto (.p (pB true)) ([]) rfl rfl rfl rfl _ _ _ <;> refine' fin_)
  exact ⟨true, rfl, fun _ i h => hall i h (by omega), fun _ => rfl⟩
 have hsx := hs ns[c] (List.getElem_mem hlt)
 have hfx := hf.2 ns[c] (List.getElem_mem hlt)
 have he := eq_emp ns[c].nm
 have no : ¬ NamAt c ns[c] -> (false = true ↔ Nam ns) := fun h => ⟨fun h => (by cases h), fun k => absurd (k c hlt) h⟩
 rcases Nat.eq_zero_or_pos c with h0c | h0c
 ·by_cases hp : ns[c].par = -1
  rotate_left
  ·refine' y8256
   (refine' RetK.auto (.p (pB false)) ([]) rfl rfl rfl rfl _ _ _ <;> refine' fin_)
   exact ⟨false, rfl, no fun h => hp (h.1 h0c).1⟩
  by_cases hm : ns[c].nm = ByteArray.empty
  rotate_left
  ·rw [decide_eq_false hm] at he
   refine' y8256
   (refine' RetK.auto (.p (pB false)) ([]) rfl rfl rfl rfl _ _ _ <;> refine' fin_)
   exact ⟨false, rfl, no fun h => hm (h.1 h0c).2⟩
  rw [decide_eq_true hm] at he
  have hA : (c = 0 -> ns[c].par = -1 /\ ns[c].nm = ByteArray.empty) /\ (0 < c -> 0 <= ns[c].par /\ ns[c].par < c /\ nameOK ns[c].nm = true) := ⟨fun _ => ⟨hp, hm⟩, fun h => by omega⟩
  refine' y8256
  refine loop_rule (fun (d : Nat) => ⟨[(8, .p (.list nl (ns.map Nd.pv))), (9, .p (pI ns.length)), (10, .p (pI c)), (49, .p (.list ns[c].nl (ns[c].ps.map Pr.pv))), (50, .p (pI ns[c].ps.length)), (51, .p (pI d))], []⟩) (fun d => d <= ns[c].ps.length /\ ∀ k (h : k < ns[c].ps.length), k < d -> propOK ns[c].ps[k].1 = true) (fun d => ns[c].ps.length - d) 0 ?_ ?_ ?_; (refine SubA.auto rfl rfl rfl rfl ?_ ?_ <;> refine' fin_)
  ·exact ⟨Nat.zero_le _, fun i _ hi => by omega⟩
  rintro d ⟨hd, hpr⟩
  rcases Nat.lt_or_ge d ns[c].ps.length with hdl | hdg
  ·have hP := rProp_call ns[c].ps[d].1
   generalize hpd : propOK ns[c].ps[d].1 = B at hP
   cases B with
   | false =>
    (conv => whnf); repeat' ((first | refine' z8256 | (refine CallA.scalar (hP) ?_)) <;> (conv => whnf))
    (refine' RetK.auto (.p (pB false)) ([]) rfl rfl rfl rfl _ _ _ <;> refine' fin_)
    exact ⟨false, rfl, no fun h => by have := h.2.2 _ (List.getElem_mem hdl); rw [hpd] at this; cases this⟩
   | true =>
    (conv => whnf); repeat' ((first | refine' z8256 | (refine CallA.scalar (hP) ?_)) <;> (conv => whnf))
    (refine' ⟨d + 1, _, _, _⟩; rotate_right; (refine SubA.auto rfl rfl rfl rfl ?_ ?_ <;> refine' fin_); rotate_right; exact ar2_)
    exact ⟨by omega, fun k hk hkd => by
     rcases Nat.lt_or_ge k d with h | h
     ·exact hpr k hk h
     ·have : k = d := by omega
      subst this; exact hpd⟩
  ·refine' y8256
   (refine' ⟨c + 1, _, _, _⟩; rotate_right; (refine SubA.auto rfl rfl rfl rfl ?_ ?_ <;> refine' fin_); rotate_right; exact ar2_)
   exact ⟨by omega, fun i hi hic => by
    rcases Nat.lt_or_ge i c with h | h
    ·exact hall i hi h
    ·have : i = c := by omega
     subst this
     exact ⟨hA.1, hA.2, fun p hp => by
      obtain ⟨k, hk, rfl⟩ := List.getElem_of_mem hp
      exact hpr k hk (by omega)⟩⟩
 ·rcases Int.lt_or_le ns[c].par 0 with hp | hp
  ·refine' y8256
   (refine' RetK.auto (.p (pB false)) ([]) rfl rfl rfl rfl _ _ _ <;> refine' fin_)
   exact ⟨false, rfl, no fun h => by have := (h.2.1 h0c).1; omega⟩
  rcases Int.lt_or_le ns[c].par c with hq | hq
  rotate_left
  ·refine' y8256
   (refine' RetK.auto (.p (pB false)) ([]) rfl rfl rfl rfl _ _ _ <;> refine' fin_)
   exact ⟨false, rfl, no fun h => by have := (h.2.1 h0c).2.1; omega⟩
  have hN := rName_call ns[c].nm
  generalize hm : nameOK ns[c].nm = B at hN
  cases B with
  | false =>
   (conv => whnf); repeat' ((first | refine' z8256 | (refine CallA.scalar (hN) ?_)) <;> (conv => whnf))
   (refine' RetK.auto (.p (pB false)) ([]) rfl rfl rfl rfl _ _ _ <;> refine' fin_)
   exact ⟨false, rfl, no fun h => by have := (h.2.1 h0c).2.2; rw [hm] at this; cases this⟩
  | true =>
   have hA : (c = 0 -> ns[c].par = -1 /\ ns[c].nm = ByteArray.empty) /\ (0 < c -> 0 <= ns[c].par /\ ns[c].par < c /\ nameOK ns[c].nm = true) := ⟨fun h => by omega, fun h => ⟨hp, hq, hm⟩⟩
   (conv => whnf); repeat' ((first | refine' z8256 | (refine CallA.scalar (hN) ?_)) <;> (conv => whnf))
   refine loop_rule (fun (d : Nat) => ⟨[(8, .p (.list nl (ns.map Nd.pv))), (9, .p (pI ns.length)), (10, .p (pI c)), (49, .p (.list ns[c].nl (ns[c].ps.map Pr.pv))), (50, .p (pI ns[c].ps.length)), (51, .p (pI d))], []⟩) (fun d => d <= ns[c].ps.length /\ ∀ k (h : k < ns[c].ps.length), k < d -> propOK ns[c].ps[k].1 = true) (fun d => ns[c].ps.length - d) 0 ?_ ?_ ?_; (refine SubA.auto rfl rfl rfl rfl ?_ ?_ <;> refine' fin_)
   ·exact ⟨Nat.zero_le _, fun i _ hi => by omega⟩
   rintro d ⟨hd, hpr⟩
   rcases Nat.lt_or_ge d ns[c].ps.length with hdl | hdg
   ·have hP := rProp_call ns[c].ps[d].1
    generalize hpd : propOK ns[c].ps[d].1 = B at hP
    cases B with
    | false =>
     (conv => whnf); repeat' ((first | refine' z8256 | (refine CallA.scalar (hP) ?_)) <;> (conv => whnf))
     (refine' RetK.auto (.p (pB false)) ([]) rfl rfl rfl rfl _ _ _ <;> refine' fin_)
     exact ⟨false, rfl, no fun h => by have := h.2.2 _ (List.getElem_mem hdl); rw [hpd] at this; cases this⟩
    | true =>
     (conv => whnf); repeat' ((first | refine' z8256 | (refine CallA.scalar (hP) ?_)) <;> (conv => whnf))
     (refine' ⟨d + 1, _, _, _⟩; rotate_right; (refine SubA.auto rfl rfl rfl rfl ?_ ?_ <;> refine' fin_); rotate_right; exact ar2_)
     exact ⟨by omega, fun k hk hkd => by
      rcases Nat.lt_or_ge k d with h | h
      ·exact hpr k hk h
      ·have : k = d := by omega
       subst this; exact hpd⟩
   ·refine' y8256
    (refine' ⟨c + 1, _, _, _⟩; rotate_right; (refine SubA.auto rfl rfl rfl rfl ?_ ?_ <;> refine' fin_); rotate_right; exact ar2_)
    exact ⟨by omega, fun i hi hic => by
     rcases Nat.lt_or_ge i c with h | h
     ·exact hall i hi h
     ·have : i = c := by omega
      subst this
      exact ⟨hA.1, hA.2, fun p hp => by
       obtain ⟨k, hk, rfl⟩ := List.getElem_of_mem hp
       exact hpr k hk (by omega)⟩⟩
theorem rLevel_call (nl : Bool) (ns : List Nd) (hn : Nam ns) (hf : Few ns) (j : Nat) (hj : j < ns.length) : ACall Tryz.prog 74 [.p (.agg [.list nl (ns.map Nd.pv)]), .p (pI j)] [] fun r H => r = .p (pI (dep ns j)) /\ H = [] := by
 refine acall_enter Tryz.func74 rfl rfl tabOK rfl ?_
 have hl := hf.1
 have hp := hn.par
 have hdl : dep ns j <= j + 1 := dpF_le ns _ _
 refine' y8256
 refine loop_rule (fun (⟨w, n⟩ : Nat × Nat) => ⟨[(1, .p (pI w)), (2, .rptr [.list nl (ns.map Nd.pv)]), (5, .p (pI n))], []⟩) (fun ⟨w, n⟩ => w < ns.length /\ n + dep ns w = dep ns j) (fun ⟨w, n⟩ => w) (j, 0) ?_ ?_ ?_; (refine SubA.ret _ 2 0 [.list nl (ns.map Nd.pv)] rfl rfl ?_; refine SubA.auto rfl rfl rfl rfl ?_ ?_ <;> refine' fin_)
 ·exact ⟨hj, by simp⟩
 rintro ⟨w, n⟩ ⟨hw, hd⟩
 try simp only at hw hd
 rcases Nat.eq_zero_or_pos w with h0 | h0
 ·have : n = dep ns j := by have := dep_zero ns; rw [h0] at hd; omega
  refine' y8256
  (refine' RetK.auto (.p (pI n)) ([]) rfl rfl rfl rfl _ _ _ <;> refine' fin_)
 ·have h1 := dep_succ hp h0 hw
  have h2 := (hn w hw).2.1 h0
  have h3 := pf_at hw
  refine' y8256
  (refine' ⟨(ns[w].par.toNat, n + 1), _, _, _⟩; rotate_right; (refine SubA.auto rfl rfl rfl rfl ?_ ?_ <;> refine' fin_); rotate_right; exact ar2_)
  show _ /\ _
  rw [h3] at h1
  exact ⟨by omega, by omega⟩
theorem rPath_call (nl : Bool) (ns : List Nd) (hn : Nam ns) (hf : Few ns) (j : Nat) (hj : j < ns.length) : ACall Tryz.prog 75 [.p (.agg [.list nl (ns.map Nd.pv)]), .p (pI j)] [] fun r H => r = .p (pS (pathOf ns j)) /\ H = [] := by
 refine acall_enter Tryz.func75 rfl rfl tabOK rfl ?_
 have hl := hf.1
 have hp := hn.par
 rcases Nat.eq_zero_or_pos j with hz | hz
 ·subst hz
  refine' y8256
  (refine' RetK.auto (.p (pS slS)) ([]) rfl rfl rfl rfl _ _ _ <;> refine' fin_)
 refine' y8256
 refine loop_rule (fun (⟨w, s⟩ : Nat × ByteArray) => ⟨[(1, .p (pI w)), (2, .rptr [.list nl (ns.map Nd.pv)]), (5, .p (pS s))], []⟩) (fun ⟨w, s⟩ => w < ns.length /\ pth ns w ++ s = pth ns j) (fun ⟨w, s⟩ => w) (j, ByteArray.empty) ?_ ?_ ?_; (refine SubA.ret _ 2 0 [.list nl (ns.map Nd.pv)] rfl rfl ?_; refine SubA.auto rfl rfl rfl rfl ?_ ?_ <;> refine' fin_)
 ·exact ⟨hj, ba_ext (by simp [app_list])⟩
 rintro ⟨w, s⟩ ⟨hw, hd⟩
 try simp only at hw hd
 rcases Nat.eq_zero_or_pos w with h0 | h0
 ·have : s = pathOf ns j := by
   rw [pathOf_pos hz, <- hd, h0, pth_zero]
   exact ba_ext (by simp [app_list])
  refine' y8256
  (refine' RetK.auto (.p (pS s)) ([]) rfl rfl rfl rfl _ _ _ <;> refine' fin_)
  rw [this]
 ·have h1 := pth_succ hp h0 hw
  have h2 := (hn w hw).2.1 h0
  have h3 := pf_at hw
  have h4 := nmf_at hw
  have h5 := nameOK_size h2.2.2
  have h6 := pthF_size hn (j + 1) j hj
  have h7 := app_size (pth ns w) s
  rw [hd] at h7
  have h8 : (pth ns j).size <= 32 * (j + 1) := h6
  have h9 : (⟨#[47]⟩ : ByteArray).size = 1 := rfl
  have hx : (⟨#[47]⟩ : ByteArray).size + ns[w].nm.size <= 9223372036854775807 := by omega
  have hy : ((⟨#[47]⟩ : ByteArray) ++ ns[w].nm).size + s.size <= 9223372036854775807 := by rw [app_size]; omega
  (conv => whnf); repeat' ((first | (refine StrA.mk hx ?_) | (refine StrA.mk hy ?_) | refine' z8256 | fail) <;> (conv => whnf))
  (refine' ⟨(ns[w].par.toNat, (slS ++ ns[w].nm) ++ s), _, _, _⟩; rotate_right; (refine SubA.auto rfl rfl rfl rfl ?_ ?_ <;> refine' fin_); rotate_right; exact ar2_)
  show _ /\ _
  refine ⟨by omega, ?_⟩
  rw [<- hd, h1, h3, h4]
  exact ba_ext (by simp [app_list])
theorem rLimits_call (nl : Bool) (ns : List Nd) (hf : Few ns) : ACall Tryz.prog 71 [.p (.agg [.list nl (ns.map Nd.pv)])] [] fun r H => (∃ b, r = .p (pB b) /\ (b = false ↔ Lim ns)) /\ H = [] := by
 refine acall_enter Tryz.func71 rfl rfl tabOK rfl ?_
 have hl := hf.1
 have no : ¬ Lim ns -> (true = false ↔ Lim ns) := fun h => ⟨fun k => (by cases k), fun k => absurd k h⟩
 by_cases hz0 : 1 <= ns.length
 rotate_left
 ·refine' y8256
  (refine' RetK.auto (.p (pB true)) ([]) rfl rfl rfl rfl _ _ _ <;> refine' fin_)
  exact ⟨true, rfl, no fun h => hz0 h.1⟩
 by_cases h120 : ns.length <= 120
 rotate_left
 ·refine' y8256
  (refine' RetK.auto (.p (pB true)) ([]) rfl rfl rfl rfl _ _ _ <;> refine' fin_)
  exact ⟨true, rfl, no fun h => h120 h.2.1⟩
 refine' y8256
 refine loop_rule (fun (c : Nat) => ⟨[(18, .p (.list nl (ns.map Nd.pv))), (19, .p (pI ns.length)), (20, .p (pI c))], []⟩) (fun c => c <= ns.length /\ ∀ i (h : i < ns.length), i < c -> ns[i].ps.length <= 24 /\ ∀ p ∈ ns[i].ps, p.2.size <= 256) (fun c => ns.length - c) 0 ?_ ?_ ?_; (refine SubA.auto rfl rfl rfl rfl ?_ ?_ <;> refine' fin_)
 ·exact ⟨by omega, fun i _ h => by omega⟩
 rintro c ⟨hc, hall⟩
 rcases Nat.lt_or_ge c ns.length with hlt | hge
 ·have hfx := hf.2 ns[c] (List.getElem_mem hlt)
  by_cases h24 : ns[c].ps.length <= 24
  rotate_left
  ·refine' y8256
   (refine' RetK.auto (.p (pB true)) ([]) rfl rfl rfl rfl _ _ _ <;> refine' fin_)
   exact ⟨true, rfl, no fun h => h24 (h.2.2 _ (List.getElem_mem hlt)).1⟩
  refine' y8256
  refine loop_rule (fun (d : Nat) => ⟨[(18, .p (.list nl (ns.map Nd.pv))), (19, .p (pI ns.length)), (20, .p (pI c)), (29, .p (.list ns[c].nl (ns[c].ps.map Pr.pv))), (30, .p (pI ns[c].ps.length)), (31, .p (pI d))], []⟩) (fun d => d <= ns[c].ps.length /\ ∀ k (h : k < ns[c].ps.length), k < d -> ns[c].ps[k].2.size <= 256) (fun d => ns[c].ps.length - d) 0 ?_ ?_ ?_; (refine SubA.auto rfl rfl rfl rfl ?_ ?_ <;> refine' fin_)
  ·exact ⟨by omega, fun i _ h => by omega⟩
  rintro d ⟨hd, hpr⟩
  rcases Nat.lt_or_ge d ns[c].ps.length with hdl | hdg
  ·by_cases h256 : ns[c].ps[d].2.size <= 256
   ·refine' y8256
    (refine' ⟨d + 1, _, _, _⟩; rotate_right; (refine SubA.auto rfl rfl rfl rfl ?_ ?_ <;> refine' fin_); rotate_right; exact ar2_)
    refine ⟨by omega, fun k hk hkd => ?_⟩
    rcases Nat.lt_or_ge k d with h | h
    ·exact hpr k hk h
    ·have : k = d := by omega
     subst this; exact h256
   ·refine' y8256
    (refine' RetK.auto (.p (pB true)) ([]) rfl rfl rfl rfl _ _ _ <;> refine' fin_)
    exact ⟨true, rfl, no fun h => h256 ((h.2.2 _ (List.getElem_mem hlt)).2 _ (List.getElem_mem hdl))⟩
  ·refine' y8256
   (refine' ⟨c + 1, _, _, _⟩; rotate_right; (refine SubA.auto rfl rfl rfl rfl ?_ ?_ <;> refine' fin_); rotate_right; exact ar2_)
   refine ⟨by omega, fun i hi hic => ?_⟩
   rcases Nat.lt_or_ge i c with h | h
   ·exact hall i hi h
   ·have : i = c := by omega
    subst this
    refine ⟨h24, fun p hp => ?_⟩
    obtain ⟨k, hk, rfl⟩ := List.getElem_of_mem hp
    exact hpr k hk (by omega)
 ·refine' y8256
  (refine' RetK.auto (.p (pB false)) ([]) rfl rfl rfl rfl _ _ _ <;> refine' fin_)
  exact ⟨false, rfl, fun _ => ⟨by omega, h120, fun n hn => by
   obtain ⟨i, hi, rfl⟩ := List.getElem_of_mem hn
   exact hall i hi (by omega)⟩, fun _ => rfl⟩
theorem insN_cut (ns : List Nd) (i : Nat) : ∀ (cl : List Nat) (k : Nat), k <= cl.length -> (∀ j (h : j < cl.length), j < k -> bless (nmf ns i) (nmf ns cl[j]) = false) -> (∀ h : k < cl.length, bless (nmf ns i) (nmf ns cl[k]) = true) -> insN ns i cl = cl.take k ++ ([i] ++ cl.drop k)
 | [], k, hk, _, _ => by simp [insN]
 | c :: r, 0, _, _, h2 => by
  have := h2 (by simp)
  simp only [List.getElem_cons_zero] at this
  simp [insN, this]
 | c :: r, k + 1, hk, h1, h2 => by
  have h0 := h1 0 (by simp) (by omega)
  simp only [List.getElem_cons_zero] at h0
  have ih := insN_cut ns i r k (by simpa using hk) (fun j h hj => by have := h1 (j + 1) (by simpa using h) (by omega); simpa using this) (fun h => by have := h2 (by simpa using h); simpa using this)
  simp only [insN, h0, List.take_succ_cons, List.drop_succ_cons, List.cons_append]
  rw [ih]
  simp
theorem leS (a b : ByteArray) : (Op.bytesLess a.toList b.toList || a.toList == b.toList) = !(bless b a) := by
 rw [seqS]
 show (bless a b || decide (a = b)) = _
 cases h : bless b a with
 | true =>
  rw [bless_asymm h]
  have : a ≠ b := fun e => by rw [e, bless_irrefl] at h; cases h
  simp [this]
 | false =>
  cases k : bless a b with
  | true => rfl
  | false => rw [bless_total k h]; simp
theorem vis_len {ns : List Nd} (hp : Par ns) {k u : Nat} (hu : u < ns.length) (hk : ns.length <= u + k) : (vis ns k u).length <= ns.length := by
 have h : (vis ns k u).Perm ((List.range ns.length).filter fun j => decide (j ∈ vis ns k u)) := by
  refine (List.perm_ext_iff_of_nodup (vis_nodup hp k u hu hk) (List.Pairwise.filter _ List.nodup_range)).2 fun j => ?_
  rw [List.mem_filter, List.mem_range, decide_eq_true_iff]
  exact ⟨fun h => ⟨((vis_mem hp k u hu hk j).1 h).1, h⟩, fun h => h.2⟩
 rw [h.length_eq]
 exact Nat.le_trans (List.length_filter_le ..) (by simp)
open Go.Abs
set_option maxRecDepth 100000
set_option maxHeartbeats 4000000 in
theorem walk_step (nl : Bool) (ns : List Nd) (hp : Par ns) (hr : ∀ h : 0 < ns.length, ns[0].par = -1) (hl : ns.length <= 1000) (k u : Nat) (hu : u < ns.length) (hk : ns.length <= u + (k + 1)) (ih : ∀ u, u < ns.length -> ns.length <= u + k -> ACall Tryz.prog 123 [.p (.agg [.list nl (ns.map Nd.pv)]), .p (pI u)] [] fun r H => r = .p (.list false ((vis ns k u).map pN)) /\ H = []) : ACall Tryz.prog 123 [.p (.agg [.list nl (ns.map Nd.pv)]), .p (pI u)] [] fun r H => r = .p (.list false ((vis ns (k + 1) u).map pN)) /\ H = [] := by
 refine acall_enter Tryz.func123 rfl rfl tabOK rfl ?_
 refine' y8256
 refine loop_rule (fun (⟨c, cl, nc⟩ : Nat × List Nat × Bool) => ⟨[(1, .p (pI u)), (2, .rptr [.list nl (ns.map Nd.pv)]), (5, .buf 1), (6, .p (.list nc (cl.map pN))), (16, .p (.list nl (ns.map Nd.pv))), (17, .p (pI ns.length)), (18, .p (pI c))], [none, some (AO.buf 3 false ([u].map pN))]⟩) (fun ⟨c, cl, nc⟩ => c <= ns.length /\ cl = kidsT ns u c) (fun ⟨c, cl, nc⟩ => ns.length - c) (0, [], true) ?_ ?_ ?_; (refine SubA.ret _ 2 0 [.list nl (ns.map Nd.pv)] rfl rfl ?_; refine SubA.auto rfl rfl rfl rfl ?_ ?_ <;> refine' fin_)
 ·exact ⟨by omega, rfl⟩
 rintro ⟨c, cl, nc⟩ ⟨hc, hcl⟩
 try simp only at hc hcl
 have hcm : ∀ x ∈ cl, x < c := fun x hx => by
  rw [hcl, (kidsT_perm ns u c).mem_iff, List.mem_filter, List.mem_range] at hx
  exact hx.1
 have hcl2 : cl.length <= c := by
  rw [hcl, (kidsT_perm ns u c).length_eq]
  exact Nat.le_trans (List.length_filter_le ..) (by simp)
 rcases Nat.lt_or_ge c ns.length with hlt | hge
 ·have hgd : (ns[c]?).getD default = ns[c] := by rw [List.getElem?_eq_getElem hlt]; rfl
  by_cases hk1 : ns[c].par = (u : Int)
  rotate_left
  ·have e : isKid ns u c = false := decide_eq_false fun h => hk1 (by rw [hgd] at h; exact h.1)
   refine' y8256
   (refine' ⟨(c + 1, cl, nc), _, _, _⟩; rotate_right; (refine SubA.auto rfl rfl rfl rfl ?_ ?_ <;> refine' fin_); rotate_right; exact ar2_)
   refine ⟨by omega, ?_⟩
   show cl = match isKid ns u c with | true => _ | false => _
   rw [e]; exact hcl
  rcases Nat.eq_zero_or_pos c with hz | hz
  ·subst hz
   have := hr hlt
   omega
  have e : kidsT ns u (c + 1) = insN ns c cl := by
   show (match isKid ns u c with | true => _ | false => _) = _
   rw [show isKid ns u c = true from decide_eq_true ⟨by rw [hgd]; exact hk1, hz⟩, hcl]
  have hnc := nmf_at hlt
  refine' y8256
  refine loop_rule (fun (j : Nat) => ⟨[(1, .p (pI u)), (2, .rptr [.list nl (ns.map Nd.pv)]), (5, .buf 1), (6, .p (.list nc (cl.map pN))), (7, .p (pI c)), (8, .rptr [pI ns[c].par, pS ns[c].nm, .list ns[c].nl (ns[c].ps.map Pr.pv)]), (9, .p (pI j)), (16, .p (.list nl (ns.map Nd.pv))), (17, .p (pI ns.length)), (18, .p (pI c))], [none, some (AO.buf 3 false ([u].map pN))]⟩) (fun j => j <= cl.length /\ ∀ i (h : i < cl.length), i < j -> bless (nmf ns c) (nmf ns cl[i]) = false) (fun j => cl.length - j) 0 ?_ ?_ ?_; (refine SubA.ret _ 8 2 [pI ns[c].par, pS ns[c].nm, .list ns[c].nl (ns[c].ps.map Pr.pv)] rfl rfl ?_; refine SubA.auto rfl rfl rfl rfl ?_ ?_ <;> refine' fin_)
  ·exact ⟨by omega, fun i _ h => by omega⟩
  rintro j ⟨hj, hall⟩
  rcases Nat.lt_or_ge j cl.length with hjl | hjg
  ·have ha := hcm _ (List.getElem_mem hjl)
   have ha2 : cl[j] < ns.length := by omega
   have hcmp := leS ns[cl[j]].nm ns[c].nm
   rw [<- nmf_at ha2, <- hnc] at hcmp
   generalize hb : bless (nmf ns c) (nmf ns cl[j]) = B at hcmp
   rw [nmf_at ha2, hnc] at hcmp
   cases B with
   | false =>
    refine' y8256
    (refine' ⟨j + 1, _, _, _⟩; rotate_right; (refine SubA.auto rfl rfl rfl rfl ?_ ?_ <;> refine' fin_); rotate_right; exact ar2_)
    exact ⟨by omega, all_succ hall fun _ => hb⟩
   | true =>
    have hfin := insN_cut ns c cl j hj hall fun _ => hb
    refine' y8256
    refine IsL.mk ((cl.take j).map pN) (by simp [List.map_take]) ?_
    refine' y8256
    (refine' ⟨(c + 1, cl.take j ++ ([c] ++ cl.drop j), _), _, _, _⟩; rotate_right; (refine SubA.thawed _ [4] [6] ?_; refine SubA.auto rfl rfl rfl rfl ?_ ?_ <;> refine' fin_); rotate_right; exact ar2_)
    exact ⟨by omega, by rw [e, hfin]⟩
  ·have hfin := insN_cut ns c cl j hj hall fun h => absurd h (by omega)
   refine' y8256
   refine IsL.mk ((cl.take j).map pN) (by simp [List.map_take]) ?_
   refine' y8256
   (refine' ⟨(c + 1, cl.take j ++ ([c] ++ cl.drop j), _), _, _, _⟩; rotate_right; (refine SubA.thawed _ [4] [6] ?_; refine SubA.auto rfl rfl rfl rfl ?_ ?_ <;> refine' fin_); rotate_right; exact ar2_)
   exact ⟨by omega, by rw [e, hfin]⟩
 ·obtain rfl : c = ns.length := by omega
  have hmem : ∀ x ∈ cl, x < ns.length /\ u < x := fun x hx => by
   have hx2 : x ∈ kids ns u := by rw [kids, <- hcl]; exact hx
   exact ⟨((kids_par hp).1 hx2).1, kids_gt hp hx2⟩
  have hvis : u :: cl.flatMap (vis ns k) = vis ns (k + 1) u := by rw [hcl]; rfl
  refine' y8256
  refine loop_rule (fun (⟨d, nb⟩ : Nat × Bool) => ⟨[(2, .rptr [.list nl (ns.map Nd.pv)]), (5, .buf 1), (64, .p (.list nc (cl.map pN))), (65, .p (pI cl.length)), (66, .p (pI d))], [none, some (AO.buf 3 nb ((u :: (cl.take d).flatMap (vis ns k)).map pN))]⟩) (fun ⟨d, nb⟩ => d <= cl.length /\ nb = false) (fun ⟨d, nb⟩ => cl.length - d) (0, false) ?_ ?_ ?_; (refine SubA.auto rfl rfl rfl rfl ?_ ?_ <;> refine' fin_)
  ·exact ⟨by omega, rfl⟩
  rintro ⟨d, nb⟩ ⟨hd, hnb⟩
  try simp only at hd hnb
  rcases Nat.lt_or_ge d cl.length with hdl | hdg
  ·have ha := hmem _ (List.getElem_mem hdl)
   have e2 : u :: (cl.take (d + 1)).flatMap (vis ns k) = (u :: (cl.take d).flatMap (vis ns k)) ++ vis ns k cl[d] := by rw [List.take_succ_eq_append_getElem hdl, List.flatMap_append, List.flatMap_singleton]; rfl
   (conv => whnf); repeat' ((first | refine' z8256 | ((refine CallA.loc [] [] rfl rfl ((ih cl[d] ha.1 (by omega)).mono ?_); rintro _ _ ⟨rfl, rfl⟩))) <;> (conv => whnf))
   have hL : (u :: (cl.take d).flatMap (vis ns k)).length + (vis ns k cl[d]).length <= 1000 := by
    have h1 := vis_len hp (k := k + 1) hu hk
    have h2 : (u :: (cl.take (d + 1)).flatMap (vis ns k)).length <= (u :: cl.flatMap (vis ns k)).length := by
     rw [<- List.take_append_drop (d + 1) cl, List.flatMap_append]
     simp
    rw [e2, List.length_append, hvis] at h2
    omega
   refine AppA.map ⟨by omega, by omega⟩ ?_
   rw [<- e2]
   refine' y8256
   (refine' ⟨(d + 1, _), _, _, _⟩; rotate_right; (refine SubA.auto rfl rfl rfl rfl ?_ ?_ <;> refine' fin_); rotate_right; exact ar2_)
   exact ⟨by omega, by rw [hnb, Bool.and_false]⟩
  ·obtain rfl : d = cl.length := by omega
   subst hnb
   refine' y8256
   rw [List.take_length, hvis]
   (refine RetK.frz _ _ _ [1] ?_; refine' RetK.auto (.p (.list false ((vis ns (k + 1) u).map pN))) ([]) rfl rfl rfl rfl _ _ _ <;> refine' fin_)
theorem rWalk_call (nl : Bool) (ns : List Nd) (hp : Par ns) (hr : ∀ h : 0 < ns.length, ns[0].par = -1) (hl : ns.length <= 1000) : ∀ (k u : Nat), u < ns.length -> ns.length <= u + k -> ACall Tryz.prog 123 [.p (.agg [.list nl (ns.map Nd.pv)]), .p (pI u)] [] fun r H => r = .p (.list false ((vis ns k u).map pN)) /\ H = []
 | 0, u, hu, hk => by omega
 | k + 1, u, hu, hk => walk_step nl ns hp hr hl k u hu hk (rWalk_call nl ns hp hr hl k)
open Go.Abs
set_option maxRecDepth 100000
theorem rOrdered_call (nl : Bool) (ns : List Nd) (h0 : 0 < ns.length) (hn : Nam ns) (hf : Few ns) : ACall Tryz.prog 73 [.p (.agg [.list nl (ns.map Nd.pv)])] [] fun r H => (∃ b, r = .p (pB b) /\ (Val ns -> b = true)) /\ H = [] := by
 refine acall_enter Tryz.func73 rfl rfl tabOK rfl ?_
 have hl := hf.1
 have hp := hn.par
 have hW := rWalk_call nl ns hp (fun h => ((hn 0 h).1 rfl).1) hl ns.length 0 h0 (by omega)
 have hWl := vis_len hp h0 (k := ns.length) (by omega)
 have hord : Val ns -> vis ns ns.length 0 = List.range ns.length := fun h => ord_self hp h.pre h.asc h0
 generalize vis ns ns.length 0 = l at hW hWl hord
 (conv => whnf); repeat' ((first | refine' z8256 | ((refine CallA.loc [] [] rfl rfl (hW.mono ?_); rintro _ _ ⟨rfl, rfl⟩))) <;> (conv => whnf))
 refine loop_rule (fun (c : Nat) => ⟨[(1, .rptr [.list nl (ns.map Nd.pv)]), (9, .p (.list false (l.map pN))), (10, .p (pI l.length)), (11, .p (pI c))], []⟩) (fun c => c <= l.length) (fun c => l.length - c) 0 ?_ ?_ ?_; (refine SubA.ret _ 1 0 [.list nl (ns.map Nd.pv)] rfl rfl ?_; refine SubA.auto rfl rfl rfl rfl ?_ ?_ <;> refine' fin_)
 ·omega
 rintro c hc
 rcases Nat.lt_or_ge c l.length with hlt | hge
 ·by_cases he : l[c] = c
  ·refine' y8256
   (refine' ⟨c + 1, _, _, _⟩; rotate_right; (refine SubA.auto rfl rfl rfl rfl ?_ ?_ <;> refine' fin_); rotate_right; exact ar2_)
   omega
  ·refine' y8256
   (refine' RetK.auto (.p (pB false)) ([]) rfl rfl rfl rfl _ _ _ <;> refine' fin_)
   refine ⟨false, rfl, fun h => absurd ?_ he⟩
   simp [hord h]
 refine' y8256
 refine loop_rule (fun (c : Nat) => ⟨[(21, .p (.list nl (ns.map Nd.pv))), (22, .p (pI ns.length)), (23, .p (pI c))], []⟩) (fun c => c <= ns.length) (fun c => ns.length - c) 0 ?_ ?_ ?_; (refine SubA.auto rfl rfl rfl rfl ?_ ?_ <;> refine' fin_)
 ·omega
 rintro c hc
 rcases Nat.lt_or_ge c ns.length with hlt | hge
 ·have hfx := hf.2 ns[c] (List.getElem_mem hlt)
  refine' y8256
  refine loop_rule (fun (d : Nat) => ⟨[(6, .rptr [pI ns[c].par, pS ns[c].nm, .list ns[c].nl (ns[c].ps.map Pr.pv)]), (7, .p (pI d)), (21, .p (.list nl (ns.map Nd.pv))), (22, .p (pI ns.length)), (23, .p (pI c))], []⟩) (fun d => 1 <= d) (fun d => ns[c].ps.length - d) 1 ?_ ?_ ?_; (refine SubA.ret _ 6 0 [pI ns[c].par, pS ns[c].nm, .list ns[c].nl (ns[c].ps.map Pr.pv)] rfl rfl ?_; refine SubA.auto rfl rfl rfl rfl ?_ ?_ <;> refine' fin_)
  ·omega
  rintro d hd
  rcases Nat.lt_or_ge d ns[c].ps.length with hdl | hdg
  ·have hz : ((d : Int) - 1).toNat = d - 1 := by omega
   refine' y8256
   ·(refine' RetK.auto (.p (pB false)) ([]) rfl rfl rfl rfl _ _ _ <;> refine' fin_)
    refine ⟨false, rfl, fun h => ?_⟩
    have := (h.wk c hlt).1 d hdl (by omega)
    simp only [hz] at h0
    unfold bless at this
    rw [h0] at this; cases this
   ·(refine' ⟨d + 1, _, _, _⟩; rotate_right; (refine SubA.auto rfl rfl rfl rfl ?_ ?_ <;> refine' fin_); rotate_right; exact ar2_)
    omega
  ·refine' y8256
   (refine' ⟨c + 1, _, _, _⟩; rotate_right; (refine SubA.auto rfl rfl rfl rfl ?_ ?_ <;> refine' fin_); rotate_right; exact ar2_)
   omega
 ·refine' y8256
  (refine' RetK.auto (.p (pB true)) ([]) rfl rfl rfl rfl _ _ _ <;> refine' fin_)
  exact ⟨true, rfl, fun _ => rfl⟩
theorem rCheck_call (nl : Bool) (ns : List Nd) (hs : Sm ns) (hf : Few ns) : ACall Tryz.prog 33 [.p (.agg [.list nl (ns.map Nd.pv)])] [] fun r H => (∃ e : Int, r = .p (pI e) /\ (e = 0 -> Lim ns /\ Nam ns) /\ (Val ns -> e = 0)) /\ H = [] := by
 refine acall_enter Tryz.func33 rfl rfl tabOK rfl ?_
 have hl := hf.1
 have no : ∀ e : Int, e ≠ 0 -> ¬ Val ns -> ∃ e', AV.p (pI e) = .p (pI e') /\ (e' = 0 -> Lim ns /\ Nam ns) /\ (Val ns -> e' = 0) := fun e he h => ⟨e, rfl, fun k => absurd k he, fun k => absurd k h⟩
 refine' y8256
 refine CallA.loc [] [] rfl rfl ((rLimits_call nl ns hf).mono ?_)
 rintro _ _ ⟨⟨b, rfl, hb⟩, rfl⟩
 cases b with
 | true =>
  refine' y8256
  (refine' RetK.auto (.p (pI 3)) ([]) rfl rfl rfl rfl _ _ _ <;> refine' fin_)
  exact no 3 (by omega) fun h => by have := hb.2 h.lim; cases this
 | false =>
 have hlim := hb.1 rfl
 refine' y8256
 refine CallA.loc [] [] rfl rfl ((rNames_call nl ns hs hf).mono ?_)
 rintro _ _ ⟨⟨b1, rfl, hb1⟩, rfl⟩
 cases b1 with
 | false =>
  refine' y8256
  (refine' RetK.auto (.p (pI 1)) ([]) rfl rfl rfl rfl _ _ _ <;> refine' fin_)
  exact no 1 (by omega) fun h => by have := hb1.2 h.nam; cases this
 | true =>
 have hn := hb1.1 rfl
 refine' y8256
 refine CallA.loc [] [] rfl rfl ((rOrdered_call nl ns hlim.1 hn hf).mono ?_)
 rintro _ _ ⟨⟨b2, rfl, hb2⟩, rfl⟩
 cases b2 with
 | false =>
  refine' y8256
  (refine' RetK.auto (.p (pI 12)) ([]) rfl rfl rfl rfl _ _ _ <;> refine' fin_)
  exact no 12 (by omega) fun h => by have := hb2 h; cases this
 | true =>
 refine' y8256
 refine loop_rule (fun (c : Nat) => ⟨[(1, .rptr [.list nl (ns.map Nd.pv)]), (16, .p (.list nl (ns.map Nd.pv))), (17, .p (pI ns.length)), (18, .p (pI c))], []⟩) (fun c => c <= ns.length) (fun c => ns.length - c) 0 ?_ ?_ ?_; (refine SubA.ret _ 1 0 [.list nl (ns.map Nd.pv)] rfl rfl ?_; refine SubA.auto rfl rfl rfl rfl ?_ ?_ <;> refine' fin_)
 ·omega
 rintro c hc
 rcases Nat.lt_or_ge c ns.length with hlt | hge
 ·refine' y8256
  refine loop_rule (fun (k : Nat) => ⟨[(1, .rptr [.list nl (ns.map Nd.pv)]), (3, .p (pI c)), (4, .rptr [pI ns[c].par, pS ns[c].nm, .list ns[c].nl (ns[c].ps.map Pr.pv)]), (5, .p (pI k)), (16, .p (.list nl (ns.map Nd.pv))), (17, .p (pI ns.length)), (18, .p (pI c))], []⟩) (fun k => 1 <= k) (fun k => c - k) 1 ?_ ?_ ?_; (refine SubA.ret _ 4 0 [pI ns[c].par, pS ns[c].nm, .list ns[c].nl (ns[c].ps.map Pr.pv)] rfl rfl ?_; refine SubA.auto rfl rfl rfl rfl ?_ ?_ <;> refine' fin_)
  ·omega
  rintro k hk
  rcases Nat.lt_or_ge k c with hkl | hkg
  ·have hq := seqS ns[k].nm ns[c].nm
   by_cases he : ns[k].par = ns[c].par
   ·by_cases hm : ns[k].nm = ns[c].nm
    ·rw [decide_eq_true hm] at hq
     refine' y8256
     (refine' RetK.auto (.p (pI 5)) ([]) rfl rfl rfl rfl _ _ _ <;> refine' fin_)
     exact no 5 (by omega) fun h => h.dis k c hkl hlt ⟨hm, he⟩
    ·rw [decide_eq_false hm] at hq
     refine' y8256
     (refine' ⟨k + 1, _, _, _⟩; rotate_right; (refine SubA.auto rfl rfl rfl rfl ?_ ?_ <;> refine' fin_); rotate_right; exact ar2_)
     omega
   ·refine' y8256
    (refine' ⟨k + 1, _, _, _⟩; rotate_right; (refine SubA.auto rfl rfl rfl rfl ?_ ?_ <;> refine' fin_); rotate_right; exact ar2_)
    omega
  ·refine' y8256
   (refine' ⟨c + 1, _, _, _⟩; rotate_right; (refine SubA.auto rfl rfl rfl rfl ?_ ?_ <;> refine' fin_); rotate_right; exact ar2_)
   omega
 ·refine' y8256
  refine loop_rule (fun (c : Nat) => ⟨[(1, .rptr [.list nl (ns.map Nd.pv)]), (51, .p (pI ns.length)), (52, .p (pI c))], []⟩) (fun c => c <= ns.length) (fun c => ns.length - c) 0 ?_ ?_ ?_; (refine SubA.auto rfl rfl rfl rfl ?_ ?_ <;> refine' fin_)
  ·omega
  rintro c hc
  rcases Nat.lt_or_ge c ns.length with hlt | hge
  ·have hD := rLevel_call nl ns hn hf c hlt
   by_cases h8 : dep ns c <= 8
   ·(conv => whnf); repeat' ((first | refine' z8256 | (refine CallA.scalar (hD) ?_)) <;> (conv => whnf))
    (refine' ⟨c + 1, _, _, _⟩; rotate_right; (refine SubA.auto rfl rfl rfl rfl ?_ ?_ <;> refine' fin_); rotate_right; exact ar2_)
    omega
   ·(conv => whnf); repeat' ((first | refine' z8256 | (refine CallA.scalar (hD) ?_)) <;> (conv => whnf))
    (refine' RetK.auto (.p (pI 2)) ([]) rfl rfl rfl rfl _ _ _ <;> refine' fin_)
    exact no 2 (by omega) fun h => h8 (h.dep c hlt)
  ·refine' y8256
   (refine' RetK.auto (.p (pI 0)) ([]) rfl rfl rfl rfl _ _ _ <;> refine' fin_)
   exact ⟨0, rfl, fun _ => ⟨hlim, hn⟩, fun _ => rfl⟩
theorem rfind_call (nl : Bool) (ns : List Nd) (hn : Nam ns) (hf : Few ns) (s : ByteArray) : ACall Tryz.prog 34 [.p (.agg [.list nl (ns.map Nd.pv)]), .p (pS s)] [] fun r H => (∃ v : Int, r = .p (pI v) /\ -1 <= v /\ v < ns.length /\ (0 <= v -> pathOf ns v.toNat = s) /\ (v < 0 -> ∀ j, j < ns.length -> pathOf ns j ≠ s)) /\ H = [] := by
 refine acall_enter Tryz.func34 rfl rfl tabOK rfl ?_
 have hl := hf.1
 refine' y8256
 refine loop_rule (fun (c : Nat) => ⟨[(1, .p (pS s)), (2, .rptr [.list nl (ns.map Nd.pv)]), (8, .p (pI ns.length)), (9, .p (pI c))], []⟩) (fun c => c <= ns.length /\ ∀ j, j < c -> pathOf ns j ≠ s) (fun c => ns.length - c) 0 ?_ ?_ ?_; (refine SubA.ret _ 2 0 [.list nl (ns.map Nd.pv)] rfl rfl ?_; refine SubA.auto rfl rfl rfl rfl ?_ ?_ <;> refine' fin_)
 ·exact ⟨by omega, fun j h => by omega⟩
 rintro c ⟨hc, hall⟩
 rcases Nat.lt_or_ge c ns.length with hlt | hge
 ·have hP := rPath_call nl ns hn hf c hlt
  have hq := seqS (pathOf ns c) s
  by_cases he : pathOf ns c = s
  ·rw [decide_eq_true he] at hq
   (conv => whnf); repeat' ((first | refine' z8256 | (refine CallA.scalar (hP) ?_)) <;> (conv => whnf))
   (refine' RetK.auto (.p (pI c)) ([]) rfl rfl rfl rfl _ _ _ <;> refine' fin_)
   exact ⟨c, rfl, by omega, by omega, fun _ => he, fun h => by omega⟩
  ·rw [decide_eq_false he] at hq
   (conv => whnf); repeat' ((first | refine' z8256 | (refine CallA.scalar (hP) ?_)) <;> (conv => whnf))
   (refine' ⟨c + 1, _, _, _⟩; rotate_right; (refine SubA.auto rfl rfl rfl rfl ?_ ?_ <;> refine' fin_); rotate_right; exact ar2_)
   refine ⟨by omega, fun j hj => ?_⟩
   rcases Nat.lt_or_ge j c with h1 | h1
   ·exact hall j h1
   ·have : j = c := by omega
    subst this; exact he
 ·refine' y8256
  (refine' RetK.auto (.p (pI (-1))) ([]) rfl rfl rfl rfl _ _ _ <;> refine' fin_)
  exact ⟨-1, rfl, by omega, by omega, fun h => by omega, fun _ j hj => hall j (by omega)⟩
theorem rFind_call (nl : Bool) (ns : List Nd) (hv : Val ns) (s : ByteArray) : ACall Tryz.prog 9 [.p (.agg [.list nl (ns.map Nd.pv)]), .p (pS s)] [] fun r H => (∃ (k : Nat) (b : Bool), r = .tup [.p (pI k), .p (pB b)] /\ (b = true -> ∃ h : k < ns.length, pathOf ns k = s) /\ (b = false -> ∀ j, j < ns.length -> pathOf ns j ≠ s)) /\ H = [] := by
 refine acall_enter Tryz.func9 rfl rfl tabOK rfl ?_
 refine' y8256
 refine CallA.loc [] [] rfl rfl ((rCheck_call nl ns hv.sm hv.few).mono ?_)
 rintro _ _ ⟨⟨e, rfl, _, he⟩, rfl⟩
 obtain rfl := he hv
 refine' y8256
 refine CallA.loc [] [] rfl rfl ((rfind_call nl ns hv.nam hv.few s).mono ?_)
 rintro _ _ ⟨⟨v, rfl, h1, h2, h3, h4⟩, rfl⟩
 rcases Int.lt_or_le v 0 with h | h
 ·obtain rfl : v = -1 := by omega
  refine' y8256
  (refine' RetK.auto (.tup [.p (pI 0), .p (pB false)]) ([]) rfl rfl rfl rfl _ _ _ <;> refine' fin_)
  exact ⟨0, false, rfl, fun h => (by cases h), fun _ => h4 (by omega)⟩
 ·obtain ⟨k, rfl⟩ := Int.eq_ofNat_of_zero_le h
  refine' y8256
  (refine' RetK.auto (.tup [.p (pI k), .p (pB true)]) ([]) rfl rfl rfl rfl _ _ _ <;> refine' fin_)
  exact ⟨k, true, rfl, fun _ => ⟨by omega, h3 h⟩, fun h => by cases h⟩
theorem rFind_any (nl : Bool) (ns : List Nd) (hs : Sm ns) (hf : Few ns) (s : ByteArray) : ACall Tryz.prog 9 [.p (.agg [.list nl (ns.map Nd.pv)]), .p (pS s)] [] fun r H => (∃ (k : Nat) (b : Bool), r = .tup [.p (pI k), .p (pB b)] /\ (b = true -> k < ns.length)) /\ H = [] := by
 refine acall_enter Tryz.func9 rfl rfl tabOK rfl ?_
 refine' y8256
 refine CallA.loc [] [] rfl rfl ((rCheck_call nl ns hs hf).mono ?_)
 rintro _ _ ⟨⟨e, rfl, he, _⟩, rfl⟩
 by_cases h0 : e = 0
 rotate_left
 ·refine' y8256
  (refine' RetK.auto (.tup [.p (pI 0), .p (pB false)]) ([]) rfl rfl rfl rfl _ _ _ <;> refine' fin_)
  exact ⟨0, false, rfl, fun h => by cases h⟩
 have hn := (he h0).2
 subst h0
 refine' y8256
 refine CallA.loc [] [] rfl rfl ((rfind_call nl ns hn hf s).mono ?_)
 rintro _ _ ⟨⟨v, rfl, h1, h2, h3, h4⟩, rfl⟩
 rcases Int.lt_or_le v 0 with h | h
 ·obtain rfl : v = -1 := by omega
  refine' y8256
  (refine' RetK.auto (.tup [.p (pI 0), .p (pB false)]) ([]) rfl rfl rfl rfl _ _ _ <;> refine' fin_)
  exact ⟨0, false, rfl, fun h => by cases h⟩
 ·obtain ⟨k, rfl⟩ := Int.eq_ofNat_of_zero_le h
  refine' y8256
  (refine' RetK.auto (.tup [.p (pI k), .p (pB true)]) ([]) rfl rfl rfl rfl _ _ _ <;> refine' fin_)
  exact ⟨k, true, rfl, fun _ => by omega⟩
theorem rBegin_call (nl : Bool) (ns : List Nd) (hs : Sm ns) (hf : Few ns) (s : ByteArray) : ACall Tryz.prog 85 [.p (.agg [.list nl (ns.map Nd.pv)]), .p (pS s)] [] fun r H => (∃ (k : Nat) (e : Int), r = .tup [.p (pI k), .p (pI e)] /\ (e = 0 -> Lim ns /\ Nam ns /\ k < ns.length)) /\ H = [] := by
 refine acall_enter Tryz.func85 rfl rfl tabOK rfl ?_
 refine' y8256
 refine CallA.loc [] [] rfl rfl ((rCheck_call nl ns hs hf).mono ?_)
 rintro _ _ ⟨⟨e, rfl, he, _⟩, rfl⟩
 by_cases h0 : e = 0
 rotate_left
 ·refine' y8256
  (refine' RetK.auto (.tup [.p (pI 0), .p (pI e)]) ([]) rfl rfl rfl rfl _ _ _ <;> refine' fin_)
  exact ⟨0, e, rfl, fun h => absurd h h0⟩
 have hn := (he h0)
 subst h0
 refine' y8256
 refine CallA.loc [] [] rfl rfl ((rfind_call nl ns hn.2 hf s).mono ?_)
 rintro _ _ ⟨⟨v, rfl, h1, h2, h3, h4⟩, rfl⟩
 rcases Int.lt_or_le v 0 with h | h
 ·obtain rfl : v = -1 := by omega
  refine' y8256
  (refine' RetK.auto (.tup [.p (pI 0), .p (pI 4)]) ([]) rfl rfl rfl rfl _ _ _ <;> refine' fin_)
  exact ⟨0, 4, rfl, fun h => by omega⟩
 ·obtain ⟨k, rfl⟩ := Int.eq_ofNat_of_zero_le h
  refine' y8256
  (refine' RetK.auto (.tup [.p (pI k), .p (pI 0)]) ([]) rfl rfl rfl rfl _ _ _ <;> refine' fin_)
  exact ⟨k, 0, rfl, fun _ => ⟨hn.1, hn.2, by omega⟩⟩
def ofP (s : ByteArray) : List Pr -> Option ByteArray
 | [] => none
 | p :: r => match decide (p.1 = s) with
  | true => some p.2
  | false => ofP s r
theorem ofP_skip {s : ByteArray} : ∀ {ps : List Pr} {c : Nat}, c <= ps.length -> (∀ k (h : k < ps.length), k < c -> ps[k].1 ≠ s) -> ofP s ps = ofP s (ps.drop c)
 | _, 0, _, _ => by simp
 | [], c + 1, h, _ => by simp at h
 | p :: r, c + 1, h, hk => by
  have h0 := hk 0 (by simp) (by omega)
  simp only [List.getElem_cons_zero] at h0
  rw [List.drop_succ_cons, <- ofP_skip (ps := r) (c := c) (by simpa using h) fun k h1 h2 => by
   have := hk (k + 1) (by simpa using h1) (by omega)
   simpa using this]
  show (match decide (p.1 = s) with | true => _ | false => _) = _
  rw [decide_eq_false h0]
theorem rOf_call (n : Nd) (hf : n.ps.length <= 1000) (s : ByteArray) : ACall Tryz.prog 10 [.p n.pv, .p (pS s)] [] fun r H => r = .tup [.p (pS ((ofP s n.ps).getD ByteArray.empty)), .p (pB (ofP s n.ps).isSome)] /\ H = [] := by
 refine acall_enter Tryz.func10 rfl rfl tabOK rfl ?_
 refine' y8256
 refine loop_rule (fun (c : Nat) => ⟨[(1, .p (pS s)), (9, .p (.list n.nl (n.ps.map Pr.pv))), (10, .p (pI n.ps.length)), (11, .p (pI c))], []⟩) (fun c => c <= n.ps.length /\ ∀ k (h : k < n.ps.length), k < c -> n.ps[k].1 ≠ s) (fun c => n.ps.length - c) 0 ?_ ?_ ?_; (refine SubA.auto rfl rfl rfl rfl ?_ ?_ <;> refine' fin_)
 ·exact ⟨by omega, fun k _ h => by omega⟩
 rintro c ⟨hc, hall⟩
 have hsk := ofP_skip hc hall
 rcases Nat.lt_or_ge c n.ps.length with hlt | hge
 ·have hq := seqS n.ps[c].1 s
  rw [List.drop_eq_getElem_cons hlt] at hsk
  by_cases he : n.ps[c].1 = s
  ·rw [decide_eq_true he] at hq
   have e : ofP s n.ps = some n.ps[c].2 := by
    rw [hsk]
    show (match decide (n.ps[c].1 = s) with | true => _ | false => _) = _
    rw [decide_eq_true he]
   rw [e]
   refine' y8256
   (refine' RetK.auto (.tup [.p (pS n.ps[c].2), .p (pB true)]) ([]) rfl rfl rfl rfl _ _ _ <;> refine' fin_)
  ·rw [decide_eq_false he] at hq
   refine' y8256
   (refine' ⟨c + 1, _, _, _⟩; rotate_right; (refine SubA.auto rfl rfl rfl rfl ?_ ?_ <;> refine' fin_); rotate_right; exact ar2_)
   refine ⟨by omega, fun k hk hkc => ?_⟩
   rcases Nat.lt_or_ge k c with h1 | h1
   ·exact hall k hk h1
   ·have : k = c := by omega
    subst this; exact he
 ·have e : ofP s n.ps = none := by rw [hsk, List.drop_eq_nil_of_le hge]; rfl
  rw [e]
  refine' y8256
  (refine' RetK.auto (.tup [.p (pS ByteArray.empty), .p (pB false)]) ([]) rfl rfl rfl rfl _ _ _ <;> refine' fin_)
theorem Path_call (nl : Bool) (ns : List Nd) (hv : Val ns) (j : Nat) (hj : j < ns.length) : ACall Tryz.prog 113 [.p (.agg [.list nl (ns.map Nd.pv)]), .p (pI j)] [] fun r H => r = .p (pS (pathOf ns j)) /\ H = [] := by
 refine acall_enter Tryz.func113 rfl rfl tabOK rfl ?_
 have hl := hv.few.1
 have hC : ACall Tryz.prog 19 [.p (.agg [.list nl (ns.map Nd.pv)])] [] fun r H => r = .p (pI 0) /\ H = [] := (Check_call nl ns hv.sm hv.few).mono fun r H h => by
  obtain ⟨⟨e, h1, h2, _⟩, h3⟩ := h
  rw [h2.2 hv] at h1
  exact ⟨h1, h3⟩
 (conv => whnf); repeat' ((first | refine' z8256 | (refine CallA.scalar (hC) ?_) | (refine CallA.scalar (path_call nl ns hv.nam hv.few j hj) ?_)) <;> (conv => whnf))
 (refine' RetK.auto (.p (pS (pathOf ns j))) ([]) rfl rfl rfl rfl _ _ _ <;> refine' fin_)
theorem Find_call (nl : Bool) (ns : List Nd) (hv : Val ns) (s : ByteArray) : ACall Tryz.prog 27 [.p (.agg [.list nl (ns.map Nd.pv)]), .p (pS s)] [] fun r H => (∃ (k : Nat) (b : Bool), r = .tup [.p (pI k), .p (pB b)] /\ (b = true -> ∃ h : k < ns.length, pathOf ns k = s) /\ (b = false -> k = 0 /\ ∀ j, j < ns.length -> pathOf ns j ≠ s)) /\ H = [] := by
 refine acall_enter Tryz.func27 rfl rfl tabOK rfl ?_
 have hl := hv.few.1
 have hC : ACall Tryz.prog 19 [.p (.agg [.list nl (ns.map Nd.pv)])] [] fun r H => r = .p (pI 0) /\ H = [] := (Check_call nl ns hv.sm hv.few).mono fun r H h => by
  obtain ⟨⟨e, h1, h2, _⟩, h3⟩ := h
  rw [h2.2 hv] at h1
  exact ⟨h1, h3⟩
 (conv => whnf); repeat' ((first | refine' z8256 | (refine CallA.scalar (hC) ?_)) <;> (conv => whnf))
 refine CallA.loc [] [] rfl rfl ((find_call nl ns hv.nam hv.few s).mono ?_)
 rintro _ _ ⟨⟨k, b, rfl, h1, h2⟩, rfl⟩
 refine' y8256
 (refine' RetK.auto (.tup [.p (pI k), .p (pB b)]) ([]) rfl rfl rfl rfl _ _ _ <;> refine' fin_)
 exact ⟨k, b, rfl, h1, h2⟩
open Go.Abs
set_option maxRecDepth 100000
structure Mi (ns : List Nd) : Prop where
 s : Sm ns
 f : Few ns
def Nd.cp (n : Nd) : Nd := ⟨n.par, n.nm, false, n.ps⟩
theorem cp_at {ns : List Nd} {i : Nat} (h : i < (ns.map Nd.cp).length) : (ns.map Nd.cp)[i] = (ns[i]'(by simpa using h)).cp := by simp
theorem Nam.cp {ns : List Nd} (h : Nam ns) : Nam (ns.map Nd.cp) := fun i hi => by
 rw [cp_at hi]
 exact h i (by simpa using hi)
theorem Mi.of {ns ms : List Nd} (h : Mi ns) (hl : ms.length <= 1000) (hp : ∀ n ∈ ms, ∃ m ∈ ns, n.ps = m.ps) : Mi ms := ⟨fun n hn p hpp => by
 obtain ⟨m, hm, e⟩ := hp n hn
 exact h.s m hm p (e ▸ hpp), hl, fun n hn => by
 obtain ⟨m, hm, e⟩ := hp n hn
 rw [e]; exact h.f.2 m hm⟩
theorem Mi.cp {ns : List Nd} (h : Mi ns) : Mi (ns.map Nd.cp) := h.of (by simpa using h.f.1) fun n hn => by
 obtain ⟨m, hm, rfl⟩ := List.mem_map.1 hn
 exact ⟨m, hm, rfl⟩
theorem Nam.sm {ns : List Nd} (h : Nam ns) : Sm ns := fun n hn p hp => by
 obtain ⟨i, hi, rfl⟩ := List.getElem_of_mem hn
 have := propOK_size ((h i hi).2.2 p hp)
 omega
theorem Lim.few {ns : List Nd} (h : Lim ns) : Few ns := ⟨by have := h.2.1; omega, fun n hn => by have := (h.2.2 n hn).1; omega⟩
theorem Mi.ln {ns : List Nd} (h : Lim ns) (hn : Nam ns) : Mi ns := ⟨hn.sm, h.few⟩
theorem y723b {P : Prop} (h : P := by
 ((conv => whnf); repeat' ((first | apply CondA.plain | refine' gC | refine' gpI | refine' gpS | refine' gpN | refine' gpB | refine' gPrpv | refine' gNdpv | refine' gE | (apply DrawA.quiet (by kernel_rfl) (by kernel_rfl); (conv => whnf); fail_if_success (show False))) <;> (conv => whnf))) <;> (solve_by_elim (newGoals := .nonDependentOnly) (symm := false) (exfalso := false) (transparency := .reducible) only [rfl, park_])) : P := h
theorem rCopied_call (nl : Bool) (ns : List Nd) (h : Mi ns) : ACall Tryz.prog 87 [.p (.agg [.list nl (ns.map Nd.pv)])] [] fun r H => ∃ nb, r = .agg [.buf 0] /\ H = [some (AO.buf 50 nb ((ns.map Nd.cp).map Nd.pv))] := by
 refine acall_enter Tryz.func87 rfl rfl tabOK rfl ?_
 have hl1 := h.f.1
 refine' y723b
 refine loop_rule (fun (⟨c, ms, nb⟩ : Nat × List Nd × Bool) => ⟨[(2, .ptr 0 0), (3, .ptr 1 0), (7, .p (.list nl (ns.map Nd.pv))), (8, .p (pI ns.length)), (9, .p (pI c))], [some (AO.cells [.p (.list true [])]), some (AO.cells [.buf 2]), some (AO.buf 50 nb (ms.map Nd.pv))]⟩) (fun ⟨c, ms, nb⟩ => c <= ns.length /\ ms = (ns.take c).map Nd.cp) (fun ⟨c, ms, nb⟩ => ns.length - c) (0, [], true) ?_ ?_ ?_; (refine SubA.cell _ 2 0 50 _ _ _ _ _ rfl rfl rfl ?_; refine SubA.auto rfl rfl rfl rfl ?_ ?_ <;> refine' fin_)
 ·exact ⟨by omega, by simp⟩
 rintro ⟨c, ms, nb⟩ ⟨hc, hms⟩
 try simp only at hc hms
 rcases Nat.lt_or_ge c ns.length with hlt | hge
 ·have h7 := h.f.2 _ (List.getElem_mem hlt)
  have hml : ms.length = c := by rw [hms]; simp; omega
  refine' y723b
  refine IsL.mk ([Nd.cp ns[c]].map Nd.pv) (by show [PV.agg [_, _, PV.list (_ && false) _]] = _; rw [Bool.and_false]; rfl) ?_
  refine' y723b
  (refine' ⟨(c + 1, _, _), _, _, _⟩; rotate_right; (refine SubA.auto rfl rfl rfl rfl ?_ ?_ <;> refine' fin_); rotate_right; exact ar2_)
  refine ⟨by omega, ?_⟩
  show ms ++ [ns[c].cp] = _
  rw [List.take_succ_eq_append_getElem hlt, List.map_append, hms]
  rfl
 ·obtain rfl : c = ns.length := by omega
  refine' y723b
  rw [List.take_length] at hms
  subst hms
  (refine' RetK.auto (.agg [.buf 0]) ([some (AO.buf 50 nb ((ns.map Nd.cp).map Nd.pv))]) rfl rfl rfl rfl _ _ _ <;> refine' fin_)
  exact ⟨nb, rfl, rfl⟩
theorem z723b {P : Prop} (h : P := by
 ((first | apply CondA.plain | refine' gC | refine' gpI | refine' gpS | refine' gpN | refine' gpB | refine' gPrpv | refine' gNdpv | refine' gE | (apply DrawA.quiet (by kernel_rfl) (by kernel_rfl); (conv => whnf); fail_if_success (show False))) <;> (conv => whnf)) <;> (solve_by_elim (newGoals := .nonDependentOnly) (symm := false) (exfalso := false) (transparency := .reducible) only [rfl, park_])) : P := h
theorem rSorted_call (nl : Bool) (ns : List Nd) (h : Mi ns) (hn : Par ns) (h0 : 0 < ns.length) (hr : ∀ h : 0 < ns.length, ns[0].par = -1) : ACall Tryz.prog 133 [.p (.agg [.list nl (ns.map Nd.pv)])] [] fun r H => ∃ (ms : List Nd) (nb : Bool), Mi ms /\ ms.length <= ns.length /\ r = .p (.agg [.list nb (ms.map Nd.pv)]) /\ H = [] := by
 refine acall_enter Tryz.func133 rfl rfl tabOK rfl ?_
 have hl1 := h.f.1
 have hW := rWalk_call nl ns hn hr hl1 ns.length 0 h0 (by omega)
 have hll := vis_len hn h0 (k := ns.length) (by omega)
 have hlt : ∀ (c : Nat) (hc : c < (vis ns ns.length 0).length), (vis ns ns.length 0)[c] < ns.length := fun c hc => ((vis_mem hn ns.length 0 h0 (by omega) _).1 (List.getElem_mem hc)).1
 generalize vis ns ns.length 0 = l at hW hll hlt
 have hpar : ∀ (c : Nat) (hc : c < l.length), 0 < l[c] -> 0 <= (ns[l[c]]'(hlt c hc)).par /\ (ns[l[c]]'(hlt c hc)).par < ns.length := fun c hc h0 => by
  have h1 := hlt c hc
  have h2 := hn _ h0 h1
  have h3 := pf_at h1
  rw [List.getElem?_eq_getElem h1] at h2
  have h4 : 0 <= (ns[l[c]]'h1).par := h2.1
  omega
 refine' y723b
 refine CallA.loc [] [] rfl rfl (hW.mono ?_)
 rintro _ _ ⟨rfl, rfl⟩
 refine' y723b
 refine loop_rule (fun (⟨c, xs⟩ : Nat × List Int) => ⟨[(1, .ptr 0 0), (2, .ptr 1 0), (3, .p (.list false (l.map pN))), (4, .buf 2), (17, .p (.list false (l.map pN))), (18, .p (pI l.length)), (19, .p (pI c))], [some (AO.cells [.p (.list nl (ns.map Nd.pv))]), some (AO.cells [.p (.list true [])]), some (AO.buf 3 false (xs.map pI))]⟩) (fun ⟨c, xs⟩ => c <= l.length /\ xs.length = ns.length) (fun ⟨c, xs⟩ => l.length - c) (0, List.replicate ns.length 0) ?_ ?_ ?_; (refine SubA.auto rfl rfl rfl rfl ?_ ?_ <;> refine' fin_)
 ·exact ⟨by omega, by simp⟩
 rintro ⟨c, xs⟩ ⟨hc, hx⟩
 try simp only at hc hx
 rcases Nat.lt_or_ge c l.length with hcl | hcg
 ·have h1 := hlt c hcl
  refine' y723b
  (refine' ⟨(c + 1, _), _, _, _⟩; rotate_right; (refine SubA.auto rfl rfl rfl rfl ?_ ?_ <;> refine' fin_); rotate_right; exact ar2_)
  exact ⟨by omega, by simp [hx]⟩
 ·refine' y723b
  refine loop_rule (fun (⟨c, ms, nb⟩ : Nat × List Nd × Bool) => ⟨[(1, .ptr 0 0), (2, .ptr 1 0), (4, .buf 2), (7, .ptr 3 0), (29, .p (.list false (l.map pN))), (30, .p (pI l.length)), (31, .p (pI c))], [some (AO.cells [.p (.list nl (ns.map Nd.pv))]), some (AO.cells [.p (.list true [])]), some (AO.buf 3 false (xs.map pI)), some (AO.cells [.buf 4]), some (AO.buf 50 nb (ms.map Nd.pv))]⟩) (fun ⟨c, ms, nb⟩ => c <= l.length /\ ms.length = c /\ ∀ n ∈ ms, ∃ m ∈ ns, n.ps = m.ps) (fun ⟨c, ms, nb⟩ => l.length - c) (0, [], true) ?_ ?_ ?_; (refine SubA.cell _ 3 0 50 _ _ _ _ _ rfl rfl rfl ?_; refine SubA.auto rfl rfl rfl rfl ?_ ?_ <;> refine' fin_)
  ·exact ⟨by omega, rfl, fun n hn => by cases hn⟩
  rintro ⟨c, ms, nb⟩ ⟨hc2, hm, hmn⟩
  try simp only at hc2 hm hmn
  rcases Nat.lt_or_ge c l.length with hcl | hcg
  ·have h1 := hlt c hcl
   have hadd : ∀ x : Nd, x.ps = ns[l[c]].ps -> ∀ n ∈ ms ++ [x], ∃ m ∈ ns, n.ps = m.ps := fun x hx n hn => by
    rcases List.mem_append.1 hn with hn | hn
    ·exact hmn n hn
    ·rw [List.mem_singleton] at hn
     exact ⟨_, List.getElem_mem h1, by rw [hn, hx]⟩
   rcases Nat.eq_zero_or_pos l[c] with hz | hz
   ·(conv => whnf); repeat' ((first | refine' z723b | (apply IsL.lit (f := Nd.pv) [ns[l[c]]] rfl)) <;> (conv => whnf))
    (refine' ⟨(c + 1, _, _), _, _, _⟩; rotate_right; (refine SubA.auto rfl rfl rfl rfl ?_ ?_ <;> refine' fin_); rotate_right; exact ar2_)
    exact ⟨by omega, by simp [hm], hadd _ rfl⟩
   ·have e1 := hpar c hcl hz
    refine' y723b
    (refine' ⟨(c + 1, _, _), _, _, _⟩; rotate_right; (refine SubA.auto rfl rfl rfl rfl ?_ ?_ <;> refine' fin_); rotate_right; exact ar2_)
    exact ⟨by omega, by simp [hm], hadd _ rfl⟩
  ·obtain rfl : c = l.length := by omega
   refine' y723b
   (refine RetK.frz _ _ _ [4] ?_; refine' RetK.auto (.p (.agg [.list nb (ms.map Nd.pv)])) ([]) rfl rfl rfl rfl _ _ _ <;> refine' fin_)
   exact ⟨ms, nb, h.of (by omega) hmn, by omega, rfl, rfl⟩
open Go.Abs
set_option maxRecDepth 100000
theorem rPut_own (nl : Bool) (ps : List Pr) (h : ps.length <= 1000) (p : Pr) : ACall Tryz.prog 88 [.p (.list nl (ps.map Pr.pv)), .p (Pr.pv p)] [] fun r H => ∃ (nb : Bool) (qs : List Pr), r = .buf 0 /\ H = [some (AO.buf 79 nb (qs.map Pr.pv))] /\ qs.length <= ps.length + 1 /\ ∀ q ∈ qs, q ∈ ps \/ q = p := by
 refine acall_enter Tryz.func88 rfl rfl tabOK rfl ?_
 refine' y723b
 refine loop_rule (fun (k : Nat) => ⟨[(0, .p (.list nl (ps.map Pr.pv))), (3, .ptr 0 0), (5, .p (pI k))], [some (AO.cells [.p (pS p.1), .p (pS p.2)])]⟩) (fun k => k <= ps.length) (fun k => ps.length - k) 0 ?_ ?_ ?_; (refine SubA.auto rfl rfl rfl rfl ?_ ?_ <;> refine' fin_)
 ·omega
 rintro k hk
 have hmem : ∀ j, ∀ q ∈ ps.take k ++ p :: ps.drop j, q ∈ ps \/ q = p := fun j q hq => by
  rcases List.mem_append.1 hq with h | h
  ·exact .inl (List.mem_of_mem_take h)
  ·rcases List.mem_cons.1 h with h | h
   ·exact .inr h
   ·exact .inl (List.mem_of_mem_drop h)
 have hlen : ∀ j, k <= j -> (ps.take k ++ p :: ps.drop j).length <= ps.length + 1 := fun j hj => by simp; omega
 rcases Nat.lt_or_ge k ps.length with hkl | hkg
 ·generalize hcmp : Op.bytesLess ps[k].1.toList p.1.toList = B
  cases B with
  | true =>
   refine' y723b
   (refine' ⟨k + 1, _, _, _⟩; rotate_right; (refine SubA.auto rfl rfl rfl rfl ?_ ?_ <;> refine' fin_); rotate_right; exact ar2_)
   omega
  | false =>
   generalize heq : (ps[k].1.toList == p.1.toList) = C
   cases C with
   | true =>
    refine' y723b
    (refine' RetK.auto (.buf 0) ([some (AO.buf 79 _ ((ps.take k ++ p :: ps.drop (k + 1)).map Pr.pv))]) rfl rfl rfl rfl _ _ _ <;> try refine' fin_)
    ·simp [show ((k : Int) + 1).toNat = k + 1 by omega]
    ·exact ⟨_, _, rfl, rfl, hlen _ (by omega), hmem _⟩
   | false =>
    refine' y723b
    (refine' RetK.auto (.buf 0) ([some (AO.buf 79 _ ((ps.take k ++ p :: ps.drop k).map Pr.pv))]) rfl rfl rfl rfl _ _ _ <;> try refine' fin_)
    ·simp
    ·exact ⟨_, _, rfl, rfl, hlen _ (by omega), hmem _⟩
 ·refine' y723b
  (refine' RetK.auto (.buf 0) ([some (AO.buf 79 _ ((ps.take k ++ p :: ps.drop k).map Pr.pv))]) rfl rfl rfl rfl _ _ _ <;> try refine' fin_)
  ·simp
  ·exact ⟨_, _, rfl, rfl, hlen _ (by omega), hmem _⟩
theorem rPut_call (nl : Bool) (ps : List Pr) (h : ps.length <= 1000) (p : Pr) : ACall Tryz.prog 88 [.p (.list nl (ps.map Pr.pv)), .p (Pr.pv p)] [] fun r H => ∃ (nb : Bool) (qs : List Pr), (qs.length <= ps.length + 1 /\ ∀ q ∈ qs, q ∈ ps \/ q = p) /\ r = .p (.list nb (qs.map Pr.pv)) /\ H = [some (AO.frz nb (qs.map Pr.pv))] :=
 (rPut_own nl ps h p).frz [0] fun r H ⟨nb, qs, h1, h2, h3⟩ => by subst h1; subst h2; exact ⟨nb, qs, h3, rfl, rfl⟩
theorem rWithout_own (nl : Bool) (ps : List Pr) (h : ps.length <= 1000) (s : ByteArray) : ACall Tryz.prog 187 [.p (.list nl (ps.map Pr.pv)), .p (pS s)] [] fun r H => ∃ (nb : Bool) (qs : List Pr), (qs.length <= ps.length + 1 /\ ∀ q ∈ qs, q ∈ ps) /\ r = .p (.list nb (qs.map Pr.pv)) /\ H = [] := by
 refine acall_enter Tryz.func187 rfl rfl tabOK rfl ?_
 refine' y723b
 refine loop_rule (fun (⟨c, qs, nb⟩ : Nat × List Pr × Bool) => ⟨[(1, .p (pS s)), (5, .buf 0), (8, .p (.list nl (ps.map Pr.pv))), (9, .p (pI ps.length)), (10, .p (pI c))], [some (AO.buf 79 nb (qs.map Pr.pv))]⟩) (fun ⟨c, qs, nb⟩ => c <= ps.length /\ qs.length <= c /\ ∀ q ∈ qs, q ∈ ps) (fun ⟨c, qs, nb⟩ => ps.length - c) (0, [], true) ?_ ?_ ?_; (refine SubA.auto1 (79, 5) rfl rfl rfl rfl rfl ?_ ?_ <;> refine' fin_)
 ·exact ⟨by omega, by simp, fun q hq => by cases hq⟩
 rintro ⟨c, qs, nb⟩ ⟨hc, hq, hm⟩
 try simp only at hc hq hm
 rcases Nat.lt_or_ge c ps.length with hlt | hge
 ·generalize heq : (ps[c].1.toList == s.toList) = C
  cases C with
  | true =>
   refine' y723b
   (refine' ⟨(c + 1, _, _), _, _, _⟩; rotate_right; (refine SubA.auto rfl rfl rfl rfl ?_ ?_ <;> refine' fin_); rotate_right; exact ar2_)
   exact ⟨by omega, by omega, hm⟩
  | false =>
   (conv => whnf); repeat' ((first | refine' z723b | (apply IsL.lit (f := Pr.pv) [ps[c]] rfl)) <;> (conv => whnf))
   (refine' ⟨(c + 1, _, _), _, _, _⟩; rotate_right; (refine SubA.auto rfl rfl rfl rfl ?_ ?_ <;> refine' fin_); rotate_right; exact ar2_)
   refine ⟨by omega, by simp; omega, fun q hq => ?_⟩
   rcases List.mem_append.1 hq with h | h
   ·exact hm q h
   ·rw [List.mem_singleton.1 h]; exact List.getElem_mem hlt
 ·refine' y723b
  (refine RetK.frz _ _ _ [0] ?_; refine' RetK.auto (.p (.list nb (qs.map Pr.pv))) ([]) rfl rfl rfl rfl _ _ _ <;> refine' fin_)
  exact ⟨nb, qs, ⟨by omega, hm⟩, rfl, rfl⟩
def stASC0 : Sc := (.one 4 (.take 6 (.take 7 (.one 8 (.one 12 (.take 13 (.take 14 (.one 15 .done))))))))
def stASC1 : Sc := (.one 8 (.one 12 (.take 13 (.take 14 (.one 15 .done)))))
def stASC2 : Sc := (.one 12 (.take 13 (.take 14 (.one 15 .done))))
def stASC3 : Sc := (.one 1 (.take 13 (.take 14 (.one 15 .done))))
def stASC4 : Sc := (.two 1 12 stASC2 stASC3)
def stASC5 : Sc := (.take 6 (.take 7 (.two 1 8 stASC1 stASC4)))
def stA : Sc := (.take 0 (.take 2 (.take 3 (.take 5 (.take 9 (.take 10 (.take 11 (.two 1 4 stASC0 stASC5))))))))
theorem Mi.setC {ns : List Nd} (h : Lim ns) (hn : Nam ns) {k : Nat} (hk : k < (ns.map Nd.cp).length) (b : Bool) {ps : List Pr} (hl : ps.length <= 100) (hp : ∀ p ∈ ps, p.1.size <= 1000000) : ∃ ms, (ns.map Nd.cp).set k ⟨(ns.map Nd.cp)[k].par, (ns.map Nd.cp)[k].nm, b, ps⟩ = ms /\ Mi ms := by
 refine ⟨_, rfl, ⟨fun n hn' p hp' => ?_, by simp; have := h.2.1; omega, fun n hn' => ?_⟩⟩
 ·rcases List.mem_or_eq_of_mem_set hn' with h1 | rfl
  ·exact (Mi.ln h hn).cp.s n h1 p hp'
  ·exact hp p hp'
 ·rcases List.mem_or_eq_of_mem_set hn' with h1 | rfl
  ·exact (Mi.ln h hn).cp.f.2 n h1
  ·show ps.length <= 1000
   omega
theorem zd706 {P : Prop} (h : P := by
 ((first | apply CondA.plain | refine' gC | refine' gpI | refine' gpS | refine' gpN | refine' gpB | refine' gPrpv | refine' gNdpv | refine' gE | fail) <;> (conv => whnf)) <;> (solve_by_elim (newGoals := .nonDependentOnly) (symm := false) (exfalso := false) (transparency := .reducible) only [rfl, park_])) : P := h
set_option maxHeartbeats 4000000 in
theorem rSet_call (nl : Bool) (ns : List Nd) (h : Mi ns) (s nm vl : ByteArray) : ACall Tryz.prog 39 [.p (.agg [.list nl (ns.map Nd.pv)]), .p (pS s), .p (pS nm), .p (pS vl)] [] fun r H => ∃ (e : Int) (ms : List Nd) (nb : Bool), r = .tup [.p (.agg [.list nb (ms.map Nd.pv)]), .p (pI e)] /\ Mi ms /\ H = [] := by
 refine acall_enter Tryz.func39 rfl rfl tabOK rfl ?_
 have hl1 := h.f.1
 have no : Mi [] := ⟨fun n hn => (by cases hn), by simp, fun n hn => by cases hn⟩
 refine' y723b
 refine CallA.loc [] [] rfl rfl ((rBegin_call nl ns h.s h.f s).mono ?_)
 rintro _ _ ⟨⟨k, e, rfl, he⟩, rfl⟩
 by_cases h0 : e = 0
 rotate_left
 ·refine' y723b
  (refine' RetK.auto (.tup [.p (.agg [.list true []]), .p (pI e)]) ([]) rfl rfl rfl rfl _ _ _ <;> refine' fin_)
  exact ⟨e, [], true, rfl, no, rfl⟩
 obtain ⟨hlim, hn, hk⟩ := he h0
 subst h0
 have hP := rProp_call nm
 generalize hb : propOK nm = B at hP
 cases B with
 | false =>
  (conv => whnf); repeat' ((first | refine' z723b | (refine CallA.scalar (hP) ?_)) <;> (conv => whnf))
  (refine' RetK.auto (.tup [.p (.agg [.list true []]), .p (pI 1)]) ([]) rfl rfl rfl rfl _ _ _ <;> refine' fin_)
  exact ⟨1, [], true, rfl, no, rfl⟩
 | true =>
 have h31 := propOK_size hb
 have h24 := (hlim.2.2 _ (List.getElem_mem hk)).1
 (conv => whnf); repeat' ((first | refine' z723b | (refine CallA.scalar (hP) ?_)) <;> (conv => whnf))
 refine CallA.loc [] [] rfl rfl ((rCopied_call nl ns h).mono ?_)
 rintro _ _ ⟨nb, rfl, rfl⟩
 have hkc : k < (ns.map Nd.cp).length := by simpa using hk
 (conv => whnf); repeat' ((first | refine' zd706 | (apply DrawA.orders stA (by kernel_rfl) (by kernel_rfl) (by kernel_rfl)) | ((refine CallA.loc [] [] rfl rfl ((rPut_call ns[k].nl ns[k].ps (by omega) (nm, vl)).mono ?_); rintro _ _ ⟨nb2, qs, ⟨hq1, hq2⟩, rfl, rfl⟩))) <;> (conv => whnf))
 all_goals
  obtain ⟨ms, hms, hf⟩ := Mi.setC hlim hn hkc nb2 (ps := qs) (by omega) (fun p hp => by
   rcases hq2 p hp with h1 | h1
   ·exact hn.sm _ (List.getElem_mem hk) p h1
   ·rw [h1]; show nm.size <= _; omega)
  rw [hms]
  refine CallA.loc [] [2] rfl rfl ((rLimits_call nb ms hf.f).mono ?_)
  rintro _ _ ⟨⟨b, rfl, _⟩, rfl⟩
  cases b with
  | true =>
   refine' y723b
   (refine' RetK.auto (.tup [.p (.agg [.list true []]), .p (pI 3)]) ([]) rfl rfl rfl rfl _ _ _ <;> refine' fin_)
   exact ⟨3, [], true, rfl, no, rfl⟩
  | false =>
   refine' y723b
   (refine RetK.frz _ _ _ [2] ?_; refine' RetK.auto (.tup [.p (.agg [.list nb (ms.map Nd.pv)]), .p (pI 0)]) ([]) rfl rfl rfl rfl _ _ _ <;> refine' fin_)
   exact ⟨0, ms, nb, rfl, hf, rfl⟩
open Go.Abs
set_option maxRecDepth 100000
def dlASC0 : Sc := (.one 4 (.take 6 (.take 7 (.one 8 (.one 10 (.take 11 (.take 12 (.one 13 .done))))))))
def dlASC1 : Sc := (.one 8 (.one 10 (.take 11 (.take 12 (.one 13 .done)))))
def dlASC2 : Sc := (.one 10 (.take 11 (.take 12 (.one 13 .done))))
def dlASC3 : Sc := (.one 1 (.take 11 (.take 12 (.one 13 .done))))
def dlASC4 : Sc := (.two 1 10 dlASC2 dlASC3)
def dlASC5 : Sc := (.take 6 (.take 7 (.two 1 8 dlASC1 dlASC4)))
def dlA : Sc := (.take 0 (.take 2 (.take 3 (.take 5 (.take 9 (.two 1 4 dlASC0 dlASC5))))))
theorem Mi.nil : Mi [] := ⟨fun n hn => (by cases hn), by simp, fun n hn => by cases hn⟩
set_option maxHeartbeats 4000000 in
theorem rDelete_call (nl : Bool) (ns : List Nd) (h : Mi ns) (s nm : ByteArray) : ACall Tryz.prog 137 [.p (.agg [.list nl (ns.map Nd.pv)]), .p (pS s), .p (pS nm)] [] fun r H => ∃ (e : Int) (ms : List Nd) (nb : Bool), r = .tup [.p (.agg [.list nb (ms.map Nd.pv)]), .p (pI e)] /\ Mi ms /\ H = [] := by
 refine acall_enter Tryz.func137 rfl rfl tabOK rfl ?_
 have hl1 := h.f.1
 refine' y723b
 refine CallA.loc [] [] rfl rfl ((rBegin_call nl ns h.s h.f s).mono ?_)
 rintro _ _ ⟨⟨k, e, rfl, he⟩, rfl⟩
 by_cases h0 : e = 0
 rotate_left
 ·refine' y723b
  (refine' RetK.auto (.tup [.p (.agg [.list true []]), .p (pI e)]) ([]) rfl rfl rfl rfl _ _ _ <;> refine' fin_)
  exact ⟨e, [], true, rfl, .nil, rfl⟩
 obtain ⟨hlim, hn, hk⟩ := he h0
 subst h0
 have h24 := (hlim.2.2 _ (List.getElem_mem hk)).1
 refine' y723b
 refine CallA.loc [] [] rfl rfl ((rOf_call ns[k] (by omega) nm).mono ?_)
 rintro _ _ ⟨rfl, rfl⟩
 generalize (ofP nm ns[k].ps).getD ByteArray.empty = val
 generalize (ofP nm ns[k].ps).isSome = B
 cases B with
 | false =>
  refine' y723b
  (refine' RetK.auto (.tup [.p (.agg [.list true []]), .p (pI 4)]) ([]) rfl rfl rfl rfl _ _ _ <;> refine' fin_)
  exact ⟨4, [], true, rfl, .nil, rfl⟩
 | true =>
 refine' y723b
 refine CallA.loc [] [] rfl rfl ((rCopied_call nl ns h).mono ?_)
 rintro _ _ ⟨nb, rfl, rfl⟩
 have hkc : k < (ns.map Nd.cp).length := by simpa using hk
 (conv => whnf); repeat' ((first | refine' zd706 | (apply DrawA.orders dlA (by kernel_rfl) (by kernel_rfl) (by kernel_rfl)) | ((refine CallA.loc [] [] rfl rfl ((rWithout_own ns[k].nl ns[k].ps (by omega) nm).mono ?_); rintro _ _ ⟨nb2, qs, ⟨hq1, hq2⟩, rfl, rfl⟩))) <;> (conv => whnf))
 all_goals
  obtain ⟨ms, hms, hf⟩ := Mi.setC hlim hn hkc nb2 (ps := qs) (by omega) (fun p hp => hn.sm _ (List.getElem_mem hk) p (hq2 p hp))
  rw [hms]
  (refine RetK.frz _ _ _ [2] ?_; refine' RetK.auto (.tup [.p (.agg [.list nb (ms.map Nd.pv)]), .p (pI 0)]) ([]) rfl rfl rfl rfl _ _ _ <;> refine' fin_)
  exact ⟨0, ms, nb, rfl, hf, rfl⟩
set_option maxHeartbeats 4000000 in
theorem rAdd_call (nl : Bool) (ns : List Nd) (h : Mi ns) (s nm : ByteArray) : ACall Tryz.prog 83 [.p (.agg [.list nl (ns.map Nd.pv)]), .p (pS s), .p (pS nm)] [] fun r H => ∃ (e : Int) (ms : List Nd) (nb : Bool), r = .tup [.p (.agg [.list nb (ms.map Nd.pv)]), .p (pI e)] /\ Mi ms /\ H = [] := by
 refine acall_enter Tryz.func83 rfl rfl tabOK rfl ?_
 have hl1 := h.f.1
 refine' y723b
 refine CallA.loc [] [] rfl rfl ((rBegin_call nl ns h.s h.f s).mono ?_)
 rintro _ _ ⟨⟨k, e, rfl, he⟩, rfl⟩
 by_cases h0 : e = 0
 rotate_left
 ·refine' y723b
  (refine' RetK.auto (.tup [.p (.agg [.list true []]), .p (pI e)]) ([]) rfl rfl rfl rfl _ _ _ <;> refine' fin_)
  exact ⟨e, [], true, rfl, .nil, rfl⟩
 obtain ⟨hlim, hn, hk⟩ := he h0
 subst h0
 have hN := rName_call nm
 generalize hb : nameOK nm = B at hN
 cases B with
 | false =>
  (conv => whnf); repeat' ((first | refine' z723b | (refine CallA.scalar (hN) ?_)) <;> (conv => whnf))
  (refine' RetK.auto (.tup [.p (.agg [.list true []]), .p (pI 1)]) ([]) rfl rfl rfl rfl _ _ _ <;> refine' fin_)
  exact ⟨1, [], true, rfl, .nil, rfl⟩
 | true =>
 (conv => whnf); repeat' ((first | refine' z723b | (refine CallA.scalar (hN) ?_)) <;> (conv => whnf))
 refine loop_rule (fun (c : Nat) => ⟨[(2, .p (pS nm)), (3, .ptr 0 0), (6, .ptr 1 0), (8, .p (pI k)), (28, .p (.list nl (ns.map Nd.pv))), (29, .p (pI ns.length)), (30, .p (pI c))], [some (AO.cells [.p (.list nl (ns.map Nd.pv))]), some (AO.cells [.p (.list true [])])]⟩) (fun c => c <= ns.length) (fun c => ns.length - c) 0 ?_ ?_ ?_; (refine SubA.auto rfl rfl rfl rfl ?_ ?_ <;> refine' fin_)
 ·omega
 rintro c hc
 rcases Nat.lt_or_ge c ns.length with hlt | hge
 ·by_cases e1 : ns[c].par = k
  ·generalize e2 : (ns[c].nm.toList == nm.toList) = C
   cases C with
   | true =>
    refine' y723b
    (refine' RetK.auto (.tup [.p (.agg [.list true []]), .p (pI 5)]) ([]) rfl rfl rfl rfl _ _ _ <;> refine' fin_)
    exact ⟨5, [], true, rfl, .nil, rfl⟩
   | false =>
    refine' y723b
    (refine' ⟨c + 1, _, _, _⟩; rotate_right; (refine SubA.auto rfl rfl rfl rfl ?_ ?_ <;> refine' fin_); rotate_right; exact ar2_)
    omega
  ·refine' y723b
   (refine' ⟨c + 1, _, _, _⟩; rotate_right; (refine SubA.auto rfl rfl rfl rfl ?_ ?_ <;> refine' fin_); rotate_right; exact ar2_)
   omega
 ·have hL := rLevel_call nl ns hn h.f k hk
  have h120 := hlim.2.1
  by_cases h8 : dep ns k < 8
  rotate_left
  ·(conv => whnf); repeat' ((first | refine' z723b | (refine CallA.scalar (hL) ?_)) <;> (conv => whnf))
   (refine' RetK.auto (.tup [.p (.agg [.list true []]), .p (pI 2)]) ([]) rfl rfl rfl rfl _ _ _ <;> refine' fin_)
   exact ⟨2, [], true, rfl, .nil, rfl⟩
  by_cases h12 : ns.length < 120
  rotate_left
  ·(conv => whnf); repeat' ((first | refine' z723b | (refine CallA.scalar (hL) ?_)) <;> (conv => whnf))
   (refine' RetK.auto (.tup [.p (.agg [.list true []]), .p (pI 3)]) ([]) rfl rfl rfl rfl _ _ _ <;> refine' fin_)
   exact ⟨3, [], true, rfl, .nil, rfl⟩
  (conv => whnf); repeat' ((first | refine' z723b | (refine CallA.scalar (hL) ?_)) <;> (conv => whnf))
  refine CallA.loc [] [] rfl rfl ((rCopied_call nl ns h).mono ?_)
  rintro _ _ ⟨nb, rfl, rfl⟩
  have hcl : (ns.map Nd.cp).length = ns.length := by simp
  have hP : Par (ns.map Nd.cp ++ [⟨(k : Int), nm, true, []⟩]) := hn.cp.par.app (by show (0 : Int) <= k; omega) (by show (k : Int) < _; omega)
  have hM : Mi (ns.map Nd.cp ++ [⟨(k : Int), nm, true, []⟩]) := by
   refine ⟨fun n hn' p hp => ?_, ?_, fun n hn' => ?_⟩
   ·rcases List.mem_append.1 hn' with h1 | h1
    ·exact h.cp.s n h1 p hp
    ·rw [List.mem_singleton.1 h1] at hp
     cases hp
   ·simp; omega
   ·rcases List.mem_append.1 hn' with h1 | h1
    ·exact h.cp.f.2 n h1
    ·rw [List.mem_singleton.1 h1]; simp
  have hr : ∀ (x : Nd) (h : 0 < (ns.map Nd.cp ++ [x]).length), (ns.map Nd.cp ++ [x])[0].par = -1 := fun x _ => by
   rw [List.getElem_append_left (by omega), cp_at]
   exact ((hn 0 (by omega)).1 rfl).1
  (conv => whnf); repeat' ((first | (refine IsL.lit (f := Nd.pv) [⟨(k : Int), nm, true, []⟩] rfl ?_) | refine' z723b | fail) <;> (conv => whnf))
  refine CallA.loc [] [5] rfl rfl ((rSorted_call _ _ hM hP (by simp) (hr _)).mono ?_)
  rintro _ _ ⟨ms, nb2, hf, hml, rfl, rfl⟩
  refine' y723b
  (refine' RetK.auto (.tup [.p (.agg [.list nb2 (ms.map Nd.pv)]), .p (pI 0)]) ([]) rfl rfl rfl rfl _ _ _ <;> refine' fin_)
  exact ⟨0, ms, nb2, rfl, hf, rfl⟩
open Go.Abs
set_option maxRecDepth 100000
structure Ed where
 k : Int
 p : ByteArray
 n : ByteArray
 v : ByteArray
def Ed.pv (x : Ed) : PV := .agg [pI x.k, pS x.p, pS x.n, pS x.v]
theorem gEdpv {P : Prop} (h : P := by
 (first | ((first | apply AppA.snoc (f := Ed.pv) (a := _) rfl | apply AppA.one (f := Ed.pv) (a := _) rfl | (apply AppA.snoc (f := Ed.pv) (a := ⟨_, _, _, _⟩); dsimp only [Ed.pv]; exact rfl) | (apply AppA.one (f := Ed.pv) (a := ⟨_, _, _, _⟩); dsimp only [Ed.pv]; exact rfl)); exact ar_) | apply IsL.set (f := Ed.pv) (a := _) rfl | apply IsL.rep (f := Ed.pv) (a := _) rfl | (apply IsL.set (f := Ed.pv) (a := ⟨_, _, _, _⟩); dsimp only [Ed.pv]; exact rfl) | (apply IsL.rep (f := Ed.pv) (a := ⟨_, _, _, _⟩); dsimp only [Ed.pv]; exact rfl) | apply IsL.lit (f := Ed.pv) [] rfl | apply IsL.lit (f := Ed.pv) [_] rfl | apply IsL.lit (f := Ed.pv) [_, _] rfl | apply IsL.lit (f := Ed.pv) [_, _, _] rfl | apply IsL.lit (f := Ed.pv) [] rfl | apply IsL.lit (f := Ed.pv) [⟨_, _, _, _⟩] rfl | apply IsL.lit (f := Ed.pv) [⟨_, _, _, _⟩, ⟨_, _, _, _⟩] rfl | apply IsL.lit (f := Ed.pv) [⟨_, _, _, _⟩, ⟨_, _, _, _⟩, ⟨_, _, _, _⟩] rfl) <;> (solve_by_elim (newGoals := .nonDependentOnly) (symm := false) (exfalso := false) (transparency := .reducible) only [rfl, park_])) : P := h
structure Ov where
 nm : ByteArray
 nl : Bool
 es : List Ed
def Ov.pv (o : Ov) : PV := .agg [pS o.nm, .list o.nl (o.es.map Ed.pv)]
theorem gOvpv {P : Prop} (h : P := by
 (first | ((first | apply AppA.snoc (f := Ov.pv) (a := _) rfl | apply AppA.one (f := Ov.pv) (a := _) rfl | (apply AppA.snoc (f := Ov.pv) (a := ⟨_, _, _⟩); dsimp only [Ov.pv]; exact rfl) | (apply AppA.one (f := Ov.pv) (a := ⟨_, _, _⟩); dsimp only [Ov.pv]; exact rfl)); exact ar_) | apply IsL.set (f := Ov.pv) (a := _) rfl | apply IsL.rep (f := Ov.pv) (a := _) rfl | (apply IsL.set (f := Ov.pv) (a := ⟨_, _, _⟩); dsimp only [Ov.pv]; exact rfl) | (apply IsL.rep (f := Ov.pv) (a := ⟨_, _, _⟩); dsimp only [Ov.pv]; exact rfl) | apply IsL.lit (f := Ov.pv) [] rfl | apply IsL.lit (f := Ov.pv) [_] rfl | apply IsL.lit (f := Ov.pv) [_, _] rfl | apply IsL.lit (f := Ov.pv) [_, _, _] rfl | apply IsL.lit (f := Ov.pv) [] rfl | apply IsL.lit (f := Ov.pv) [⟨_, _, _⟩] rfl | apply IsL.lit (f := Ov.pv) [⟨_, _, _⟩, ⟨_, _, _⟩] rfl | apply IsL.lit (f := Ov.pv) [⟨_, _, _⟩, ⟨_, _, _⟩, ⟨_, _, _⟩] rfl) <;> (solve_by_elim (newGoals := .nonDependentOnly) (symm := false) (exfalso := false) (transparency := .reducible) only [rfl, park_])) : P := h
def SmE (x : Ed) : Prop := x.p.size <= 1000000 /\ x.n.size <= 1000000
structure Mo (o : Ov) : Prop where
 l : o.es.length <= 1000
 s : ∀ x ∈ o.es, SmE x
theorem y8bcb {P : Prop} (h : P := by
 ((conv => whnf); repeat' ((first | apply CondA.plain | refine' gC | refine' gpI | refine' gpS | refine' gpN | refine' gpB | refine' gPrpv | refine' gNdpv | refine' gEdpv | refine' gOvpv | refine' gE | (apply DrawA.quiet (by kernel_rfl) (by kernel_rfl); (conv => whnf); fail_if_success (show False))) <;> (conv => whnf))) <;> (solve_by_elim (newGoals := .nonDependentOnly) (symm := false) (exfalso := false) (transparency := .reducible) only [rfl, park_])) : P := h
theorem z8bcb {P : Prop} (h : P := by
 ((first | apply CondA.plain | refine' gC | refine' gpI | refine' gpS | refine' gpN | refine' gpB | refine' gPrpv | refine' gNdpv | refine' gEdpv | refine' gOvpv | refine' gE | (apply DrawA.quiet (by kernel_rfl) (by kernel_rfl); (conv => whnf); fail_if_success (show False))) <;> (conv => whnf)) <;> (solve_by_elim (newGoals := .nonDependentOnly) (symm := false) (exfalso := false) (transparency := .reducible) only [rfl, park_])) : P := h
theorem qPath_call (s : ByteArray) (hs : s.size <= 1000000) : ACall Tryz.prog 186 [.p (pS s)] [] fun r H => (∃ b, r = .p (pB b) /\ (b = true -> 1 <= s.size)) /\ H = [] := by
 refine acall_enter Tryz.func186 rfl rfl tabOK rfl ?_
 have heq := seqS s slS
 by_cases he : s = slS
 ·rw [decide_eq_true he] at heq
  refine' y8bcb
  (refine' RetK.auto (.p (pB true)) ([]) rfl rfl rfl rfl _ _ _ <;> refine' fin_)
  exact ⟨true, rfl, fun _ => by rw [he]; decide⟩
 rw [decide_eq_false he] at heq
 rcases Nat.lt_or_ge s.size 2 with h2 | h2
 ·refine' y8bcb
  (refine' RetK.auto (.p (pB false)) ([]) rfl rfl rfl rfl _ _ _ <;> refine' fin_)
  exact ⟨false, rfl, fun h => by cases h⟩
 obtain ⟨b, hb, hv⟩ := get_bAt (s := s) (i := 0) (by omega)
 by_cases h47 : b.toNat = 47
 rotate_left
 ·(conv => whnf); repeat' ((first | (refine ⟨b, Int.le_refl 0, hb, ?_⟩) | refine' z8bcb | fail) <;> (conv => whnf))
  (refine' RetK.auto (.p (pB false)) ([]) rfl rfl rfl rfl _ _ _ <;> refine' fin_)
  exact ⟨false, rfl, fun h => by cases h⟩
 (conv => whnf); repeat' ((first | (refine ⟨b, Int.le_refl 0, hb, ?_⟩) | refine' z8bcb | fail) <;> (conv => whnf))
 refine loop_rule (fun (⟨i, f⟩ : Nat × Nat) => ⟨[(0, .p (pS s)), (3, .p (pI f)), (4, .p (pI i))], []⟩) (fun ⟨i, f⟩ => 1 <= i /\ i <= s.size + 1 /\ f <= i) (fun ⟨i, f⟩ => s.size + 1 - i) (1, 1) ?_ ?_ ?_; (refine SubA.auto rfl rfl rfl rfl ?_ ?_ <;> refine' fin_)
 ·exact ⟨by omega, by omega, by omega⟩
 rintro ⟨i, f⟩ ⟨hi1, hi2, hf⟩
 try simp only at hi1 hi2 hf
 rcases Nat.lt_or_ge s.size i with hlt | hge
 ·refine' y8bcb
  (refine' RetK.auto (.p (pB true)) ([]) rfl rfl rfl rfl _ _ _ <;> refine' fin_)
  exact ⟨true, rfl, fun _ => by omega⟩
 rcases Nat.eq_or_lt_of_le hge with hie | hil
 ·refine' y8bcb
  refine CallA.loc [] [] rfl rfl ((rName_call _).mono ?_)
  rintro _ _ ⟨rfl, rfl⟩
  generalize nameOK _ = B
  cases B with
  | false =>
   refine' y8bcb
   (refine' RetK.auto (.p (pB false)) ([]) rfl rfl rfl rfl _ _ _ <;> refine' fin_)
   exact ⟨false, rfl, fun h => by cases h⟩
  | true =>
   refine' y8bcb
   (refine' ⟨(i + 1, i + 1), _, _, _⟩; rotate_right; (refine SubA.auto rfl rfl rfl rfl ?_ ?_ <;> refine' fin_); rotate_right; exact ar2_)
   exact ⟨by omega, by omega, by omega⟩
 ·obtain ⟨b, hb, hv⟩ := get_bAt hil
  have hb1 : s[((i : Nat) : Int).toNat]? = some b := hb
  have hc0 : (0 : Int) <= (i : Nat) := Int.natCast_nonneg i
  by_cases h47 : b.toNat = 47
  ·(conv => whnf); repeat' ((first | (refine ⟨b, hc0, hb1, ?_⟩) | refine' z8bcb | fail) <;> (conv => whnf))
   refine CallA.loc [] [] rfl rfl ((rName_call _).mono ?_)
   rintro _ _ ⟨rfl, rfl⟩
   generalize nameOK _ = B
   cases B with
   | false =>
    refine' y8bcb
    (refine' RetK.auto (.p (pB false)) ([]) rfl rfl rfl rfl _ _ _ <;> refine' fin_)
    exact ⟨false, rfl, fun h => by cases h⟩
   | true =>
    refine' y8bcb
    (refine' ⟨(i + 1, i + 1), _, _, _⟩; rotate_right; (refine SubA.auto rfl rfl rfl rfl ?_ ?_ <;> refine' fin_); rotate_right; exact ar2_)
    exact ⟨by omega, by omega, by omega⟩
  ·(conv => whnf); repeat' ((first | (refine ⟨b, hc0, hb1, ?_⟩) | refine' z8bcb | fail) <;> (conv => whnf))
   (refine' ⟨(i + 1, f), _, _, _⟩; rotate_right; (refine SubA.auto rfl rfl rfl rfl ?_ ?_ <;> refine' fin_); rotate_right; exact ar2_)
   exact ⟨by omega, by omega, by omega⟩
theorem qEdit_call (x : Ed) (hs : SmE x) : ACall Tryz.prog 135 [.p x.pv] [] fun r H => (∃ b, r = .p (pB b) /\ (b = true -> 1 <= x.p.size)) /\ H = [] := by
 refine acall_enter Tryz.func135 rfl rfl tabOK rfl ?_
 by_cases h1 : x.k = 1
 ·refine' y8bcb
  refine CallA.loc [] [] rfl rfl ((qPath_call x.p hs.1).mono ?_)
  rintro _ _ ⟨⟨b, rfl, hb⟩, rfl⟩
  cases b with
  | false =>
   refine' y8bcb
   (refine' RetK.auto (.p (pB false)) ([]) rfl rfl rfl rfl _ _ _ <;> refine' fin_)
   exact ⟨false, rfl, fun h => by cases h⟩
  | true =>
   refine' y8bcb
   all_goals
    (refine' RetK.auto (.p (pB _)) ([]) rfl rfl rfl rfl _ _ _ <;> try refine' fin_)
    exact ⟨_, rfl, fun _ => hb rfl⟩
 by_cases h2 : x.k = 2
 ·refine' y8bcb
  refine CallA.loc [] [] rfl rfl ((qPath_call x.p hs.1).mono ?_)
  rintro _ _ ⟨⟨b, rfl, hb⟩, rfl⟩
  cases b with
  | false =>
   refine' y8bcb
   (refine' RetK.auto (.p (pB false)) ([]) rfl rfl rfl rfl _ _ _ <;> refine' fin_)
   exact ⟨false, rfl, fun h => by cases h⟩
  | true =>
   (conv => whnf); repeat' ((first | refine' z8bcb | (refine CallA.scalar (rProp_call x.n) ?_)) <;> (conv => whnf))
   (refine' RetK.auto (.p (pB _)) ([]) rfl rfl rfl rfl _ _ _ <;> try refine' fin_)
   exact ⟨_, rfl, fun _ => hb rfl⟩
 by_cases h3 : x.k = 3
 ·refine' y8bcb
  refine CallA.loc [] [] rfl rfl ((qPath_call x.p hs.1).mono ?_)
  rintro _ _ ⟨⟨b, rfl, hb⟩, rfl⟩
  cases b with
  | false =>
   refine' y8bcb
   (refine' RetK.auto (.p (pB false)) ([]) rfl rfl rfl rfl _ _ _ <;> refine' fin_)
   exact ⟨false, rfl, fun h => by cases h⟩
  | true =>
   (conv => whnf); repeat' ((first | refine' z8bcb | (refine CallA.scalar (rProp_call x.n) ?_)) <;> (conv => whnf))
   all_goals
    (refine' RetK.auto (.p (pB _)) ([]) rfl rfl rfl rfl _ _ _ <;> try refine' fin_)
    exact ⟨_, rfl, fun _ => hb rfl⟩
 ·refine' y8bcb
  (refine' RetK.auto (.p (pB false)) ([]) rfl rfl rfl rfl _ _ _ <;> refine' fin_)
  exact ⟨false, rfl, fun h => by cases h⟩
def befE (x y : Ed) : Bool := bless x.p y.p || decide (x.p = y.p) && bless x.n y.n
theorem before_call (x y : Ed) : ACall Tryz.prog 134 [.p x.pv, .p y.pv] [] fun r H => r = .p (pB (befE x y)) /\ H = [] := by
 refine acall_enter Tryz.func134 rfl rfl tabOK rfl ?_
 have e1 : Op.bytesLess x.p.toList y.p.toList = bless x.p y.p := rfl
 have e2 := seqS x.p y.p
 have e3 : Op.bytesLess x.n.toList y.n.toList = bless x.n y.n := rfl
 have e : befE x y = (bless x.p y.p || decide (x.p = y.p) && bless x.n y.n) := rfl
 generalize bless x.p y.p = A at e e1
 generalize decide (x.p = y.p) = B at e e2
 generalize bless x.n y.n = C at e e3
 rw [e]
 cases A <;> cases B <;> cases C
 all_goals
  refine' y8bcb
  (refine RetK.p ?_ <;> refine' fin_; all_goals try first | refine pBEq ?_ | refine pIEq ?_)
  all_goals first | rfl | exact e3 | (rw [e3]; rfl)
theorem qCheck_call (o : Ov) (h : Mo o) : ACall Tryz.prog 95 [.p o.pv] [] fun r H => (∃ e : Int, r = .p (pI e) /\ (e = 0 -> o.es.length <= 40 /\ ∀ x ∈ o.es, 1 <= x.p.size)) /\ H = [] := by
 refine acall_enter Tryz.func95 rfl rfl tabOK rfl ?_
 have hl := h.l
 have no : ∀ e : Int, e ≠ 0 -> ∃ e', AV.p (pI e) = .p (pI e') /\ (e' = 0 -> o.es.length <= 40 /\ ∀ x ∈ o.es, 1 <= x.p.size) := fun e he => ⟨e, rfl, fun k => absurd k he⟩
 by_cases h40 : o.es.length <= 40
 rotate_left
 ·refine' y8bcb
  (refine' RetK.auto (.p (pI 3)) ([]) rfl rfl rfl rfl _ _ _ <;> refine' fin_)
  exact no 3 (by omega)
 refine' y8bcb
 refine loop_rule (fun (c : Nat) => ⟨[(1, .rptr [pS o.nm, .list o.nl (o.es.map Ed.pv)]), (13, .p (.list o.nl (o.es.map Ed.pv))), (14, .p (pI o.es.length)), (15, .p (pI c))], []⟩) (fun c => c <= o.es.length) (fun c => o.es.length - c) 0 ?_ ?_ ?_; (refine SubA.ret _ 1 0 [pS o.nm, .list o.nl (o.es.map Ed.pv)] rfl rfl ?_; refine SubA.auto rfl rfl rfl rfl ?_ ?_ <;> refine' fin_)
 ·omega
 rintro c hc
 rcases Nat.lt_or_ge c o.es.length with hlt | hge
 ·by_cases h256 : o.es[c].v.size <= 256
  ·refine' y8bcb
   (refine' ⟨c + 1, _, _, _⟩; rotate_right; (refine SubA.auto rfl rfl rfl rfl ?_ ?_ <;> refine' fin_); rotate_right; exact ar2_)
   omega
  ·refine' y8bcb
   (refine' RetK.auto (.p (pI 3)) ([]) rfl rfl rfl rfl _ _ _ <;> refine' fin_)
   exact no 3 (by omega)
 have hN := rName_call o.nm
 generalize nameOK o.nm = B at hN
 cases B with
 | false =>
  (conv => whnf); repeat' ((first | refine' z8bcb | (refine CallA.scalar (hN) ?_)) <;> (conv => whnf))
  (refine' RetK.auto (.p (pI 1)) ([]) rfl rfl rfl rfl _ _ _ <;> refine' fin_)
  exact no 1 (by omega)
 | true =>
 (conv => whnf); repeat' ((first | refine' z8bcb | (refine CallA.scalar (hN) ?_)) <;> (conv => whnf))
 refine loop_rule (fun (c : Nat) => ⟨[(1, .rptr [pS o.nm, .list o.nl (o.es.map Ed.pv)]), (29, .p (.list o.nl (o.es.map Ed.pv))), (30, .p (pI o.es.length)), (31, .p (pI c))], []⟩) (fun c => c <= o.es.length /\ ∀ i (h : i < o.es.length), i < c -> 1 <= o.es[i].p.size) (fun c => o.es.length - c) 0 ?_ ?_ ?_; (refine SubA.auto rfl rfl rfl rfl ?_ ?_ <;> refine' fin_)
 ·exact ⟨by omega, fun i _ h => by omega⟩
 rintro c ⟨hc, hall⟩
 rcases Nat.lt_or_ge c o.es.length with hlt | hge
 ·refine' y8bcb
  refine CallA.loc [] [] rfl rfl ((qEdit_call o.es[c] (h.s _ (List.getElem_mem hlt))).mono ?_)
  rintro _ _ ⟨⟨b, rfl, hb⟩, rfl⟩
  cases b with
  | false =>
   refine' y8bcb
   (refine' RetK.auto (.p (pI 1)) ([]) rfl rfl rfl rfl _ _ _ <;> refine' fin_)
   exact no 1 (by omega)
  | true =>
   refine' y8bcb
   (refine' ⟨c + 1, _, _, _⟩; rotate_right; (refine SubA.auto rfl rfl rfl rfl ?_ ?_ <;> refine' fin_); rotate_right; exact ar2_)
   refine ⟨by omega, fun i hi hic => ?_⟩
   rcases Nat.lt_or_ge i c with h | h
   ·exact hall i hi h
   ·have : i = c := by omega
    subst this; exact hb rfl
 refine' y8bcb
 refine loop_rule (fun (i : Nat) => ⟨[(1, .rptr [pS o.nm, .list o.nl (o.es.map Ed.pv)]), (7, .p (pI i))], []⟩) (fun i => 1 <= i) (fun i => o.es.length - i) 1 ?_ ?_ ?_; (refine SubA.auto rfl rfl rfl rfl ?_ ?_ <;> refine' fin_)
 ·omega
 rintro i hi
 rcases Nat.lt_or_ge i o.es.length with hil | hig
 ·refine' y8bcb
  refine CallQ.mk' (before_call (o.es[((i : Int) - 1).toNat]'(by omega)) o.es[i]) ?_
  generalize befE _ _ = B
  cases B with
  | false =>
   refine' y8bcb
   (refine' RetK.auto (.p (pI 12)) ([]) rfl rfl rfl rfl _ _ _ <;> refine' fin_)
   exact no 12 (by omega)
  | true =>
   refine' y8bcb
   (refine' ⟨i + 1, _, _, _⟩; rotate_right; (refine SubA.auto rfl rfl rfl rfl ?_ ?_ <;> refine' fin_); rotate_right; exact ar2_)
   omega
 ·refine' y8bcb
  (refine' RetK.auto (.p (pI 0)) ([]) rfl rfl rfl rfl _ _ _ <;> refine' fin_)
  exact ⟨0, rfl, fun _ => ⟨h40, fun x hx => by
   obtain ⟨k, hk, rfl⟩ := List.getElem_of_mem hx
   exact hall k hk (by omega)⟩⟩
open Go.Abs
set_option maxRecDepth 100000
def ptA : Sc := (.frz 0 (.take 2 (.take 3 (.take 4 (.one 1 (.one 5 (.take 6 .done)))))))
theorem qParent_call (s : ByteArray) (h1 : 1 <= s.size) (hs : s.size <= 1000000) : ACall Tryz.prog 136 [.p (pS s)] [] fun r H => (∃ a b : ByteArray, r = .tup [.p (pS a), .p (pS b)]) /\ H = [] := by
 refine acall_enter Tryz.func136 rfl rfl tabOK rfl ?_
 refine' y8bcb
 refine loop_rule (fun (⟨i, k⟩ : Nat × Nat) => ⟨[(0, .p (pS s)), (4, .p (pI k)), (5, .p (pI i))], []⟩) (fun ⟨i, k⟩ => i <= s.size /\ k < s.size) (fun ⟨i, k⟩ => s.size - i) (0, 0) ?_ ?_ ?_; (refine SubA.auto rfl rfl rfl rfl ?_ ?_ <;> refine' fin_)
 ·exact ⟨by omega, by omega⟩
 rintro ⟨i, k⟩ ⟨hi, hk⟩
 try simp only at hi hk
 rcases Nat.lt_or_ge i s.size with hlt | hge
 ·obtain ⟨b, hb, hv⟩ := get_bAt hlt
  have hb1 : s[((i : Nat) : Int).toNat]? = some b := hb
  have hc0 : (0 : Int) <= (i : Nat) := Int.natCast_nonneg i
  by_cases h47 : b.toNat = 47
  ·(conv => whnf); repeat' ((first | (refine ⟨b, hc0, hb1, ?_⟩) | refine' z8bcb | fail) <;> (conv => whnf))
   (refine' ⟨(i + 1, i), _, _, _⟩; rotate_right; (refine SubA.auto rfl rfl rfl rfl ?_ ?_ <;> refine' fin_); rotate_right; exact ar2_)
   exact ⟨by omega, by omega⟩
  ·(conv => whnf); repeat' ((first | (refine ⟨b, hc0, hb1, ?_⟩) | refine' z8bcb | fail) <;> (conv => whnf))
   (refine' ⟨(i + 1, k), _, _, _⟩; rotate_right; (refine SubA.auto rfl rfl rfl rfl ?_ ?_ <;> refine' fin_); rotate_right; exact ar2_)
   exact ⟨by omega, by omega⟩
 ·rcases Nat.eq_zero_or_pos k with hz | hz
  ·refine' y8bcb
   (refine' RetK.auto (.tup [.p (pS _), .p (pS _)]) ([]) rfl rfl rfl rfl _ _ _ <;> try refine' fin_)
   exact ⟨_, _, rfl⟩
  ·refine' y8bcb
   (refine' RetK.auto (.tup [.p (pS _), .p (pS _)]) ([]) rfl rfl rfl rfl _ _ _ <;> try refine' fin_)
   exact ⟨_, _, rfl⟩
theorem z668c {P : Prop} (h : P := by
 ((first | apply CondA.plain | refine' gC | refine' gpI | refine' gpS | refine' gpN | refine' gpB | refine' gPrpv | refine' gNdpv | refine' gEdpv | refine' gOvpv | refine' gE | fail) <;> (conv => whnf)) <;> (solve_by_elim (newGoals := .nonDependentOnly) (symm := false) (exfalso := false) (transparency := .reducible) only [rfl, park_])) : P := h
theorem qPut_call (nl : Bool) (es : List Ed) (h : es.length <= 1000) (x : Ed) : ACall Tryz.prog 94 [.p (.list nl (es.map Ed.pv)), .p x.pv] [] fun r H => (∃ (nb : Bool) (fs : List Ed), r = .p (.list nb (fs.map Ed.pv)) /\ fs.length <= es.length + 1 /\ ∀ y ∈ fs, y ∈ es \/ y = x) /\ H = [] := by
 refine acall_enter Tryz.func94 rfl rfl tabOK rfl ?_
 refine' y8bcb
 refine loop_rule (fun (k : Nat) => ⟨[(0, .p (.list nl (es.map Ed.pv))), (3, .rptr [pI x.k, pS x.p, pS x.n, pS x.v]), (5, .p (pI k))], []⟩) (fun k => k <= es.length) (fun k => es.length - k) 0 ?_ ?_ ?_; (refine SubA.ret _ 3 0 [pI x.k, pS x.p, pS x.n, pS x.v] rfl rfl ?_; refine SubA.auto rfl rfl rfl rfl ?_ ?_ <;> refine' fin_)
 ·omega
 rintro k hk
 have fin : (es.take k ++ ([x] ++ es.drop k)).length <= es.length + 1 /\ ∀ y ∈ es.take k ++ ([x] ++ es.drop k), y ∈ es \/ y = x := by
  refine ⟨by simp; omega, fun y hy => ?_⟩
  rcases List.mem_append.1 hy with h | h
  ·exact .inl (List.mem_of_mem_take h)
  rcases List.mem_append.1 h with h | h
  ·exact .inr (List.mem_singleton.1 h)
  ·exact .inl (List.mem_of_mem_drop h)
 rcases Nat.lt_or_ge k es.length with hlt | hge
 ·refine' y8bcb
  refine CallQ.mk' (before_call es[k] x) ?_
  generalize befE _ _ = B
  cases B with
  | true =>
   refine' y8bcb
   (refine' ⟨k + 1, _, _, _⟩; rotate_right; (refine SubA.auto rfl rfl rfl rfl ?_ ?_ <;> refine' fin_); rotate_right; exact ar2_)
   omega
  | false =>
   (conv => whnf); repeat' ((first | refine' z668c | (apply DrawA.orders ptA (by kernel_rfl) (by kernel_rfl) (by kernel_rfl))) <;> (conv => whnf))
   refine IsL.mk ((es.take k).map Ed.pv) (by simp [List.map_take]) ?_
   refine' y8bcb
   (refine RetK.frz _ _ _ [2] ?_; refine' RetK.auto (.p (.list _ ((es.take k ++ ([x] ++ es.drop k)).map Ed.pv))) ([]) rfl rfl rfl rfl _ _ _ <;> try refine' fin_)
   exact ⟨_, _, rfl, fin⟩
 ·(conv => whnf); repeat' ((first | refine' z8bcb | (apply DrawA.orders ptA (by kernel_rfl) (by kernel_rfl) (by kernel_rfl))) <;> (conv => whnf))
  refine IsL.mk ((es.take k).map Ed.pv) (by simp [List.map_take]) ?_
  refine' y8bcb
  (refine RetK.frz _ _ _ [2] ?_; refine' RetK.auto (.p (.list _ ((es.take k ++ ([x] ++ es.drop k)).map Ed.pv))) ([]) rfl rfl rfl rfl _ _ _ <;> try refine' fin_)
  exact ⟨_, _, rfl, fin⟩
def caA : Sc := (.take 0 (.take 2 (.take 5 (.load 6 (.one 1 (.take 3 (.one 4 (.one 7 (.take 8 (.take 9 (.take 10 (.take 11 (.take 12 .done)))))))))))))
def TE (r : AV) : Prop := ∃ (e : Int) (ms : List Nd) (nb : Bool), r = .tup [.p (.agg [.list nb (ms.map Nd.pv)]), .p (pI e)] /\ Mi ms
theorem qCarry_call (nl : Bool) (ns : List Nd) (h : Mi ns) (x : Ed) (hs : SmE x) (h1 : 1 <= x.p.size) : ACall Tryz.prog 96 [.p (.agg [.list nl (ns.map Nd.pv)]), .p x.pv] [] fun r H => TE r /\ H = [] := by
 refine acall_enter Tryz.func96 rfl rfl tabOK rfl ?_
 have hl1 := h.f.1
 by_cases hk1 : x.k = 1
 ·refine' y8bcb
  refine CallA.loc [] [] rfl rfl ((rFind_any nl ns h.s h.f x.p).mono ?_)
  rintro _ _ ⟨⟨k, b, rfl, hb⟩, rfl⟩
  cases b with
  | true =>
   refine' y8bcb
   (refine' RetK.auto (.tup [.p (.agg [.list nl (ns.map Nd.pv)]), .p (pI 0)]) ([]) rfl rfl rfl rfl _ _ _ <;> refine' fin_)
   exact ⟨0, ns, nl, rfl, h⟩
  | false =>
   refine' y8bcb
   refine CallA.loc [] [] rfl rfl ((qParent_call x.p h1 hs.1).mono ?_)
   rintro _ _ ⟨⟨a, c, rfl⟩, rfl⟩
   refine' y8bcb
   refine CallA.loc [] [] rfl rfl ((rAdd_call nl ns h a c).mono ?_)
   rintro _ _ ⟨e, ms, nb, rfl, hm, rfl⟩
   refine' y8bcb
   (refine' RetK.auto (.tup [.p (.agg [.list nb (ms.map Nd.pv)]), .p (pI e)]) ([]) rfl rfl rfl rfl _ _ _ <;> refine' fin_)
   exact ⟨e, ms, nb, rfl, hm⟩
 by_cases hk2 : x.k = 2
 ·refine' y8bcb
  refine CallA.loc [] [] rfl rfl ((rSet_call nl ns h x.p x.n x.v).mono ?_)
  rintro _ _ ⟨e, ms, nb, rfl, hm, rfl⟩
  refine' y8bcb
  (refine' RetK.auto (.tup [.p (.agg [.list nb (ms.map Nd.pv)]), .p (pI e)]) ([]) rfl rfl rfl rfl _ _ _ <;> refine' fin_)
  exact ⟨e, ms, nb, rfl, hm⟩
 refine' y8bcb
 refine CallA.loc [] [] rfl rfl ((rFind_any nl ns h.s h.f x.p).mono ?_)
 rintro _ _ ⟨⟨k, b, rfl, hb⟩, rfl⟩
 cases b with
 | false =>
  refine' y8bcb
  (refine' RetK.auto (.tup [.p (.agg [.list true []]), .p (pI 4)]) ([]) rfl rfl rfl rfl _ _ _ <;> refine' fin_)
  exact ⟨4, [], true, rfl, .nil⟩
 | true =>
  have hk := hb rfl
  have hOf := rOf_call ns[k] (h.f.2 _ (List.getElem_mem hk)) x.n
  cases hof : ofP x.n ns[k].ps with
  | none =>
   rw [hof] at hOf
   (conv => whnf); repeat' ((first | refine' z668c | (apply DrawA.orders caA (by kernel_rfl) (by kernel_rfl) (by kernel_rfl)) | ((refine CallA.loc [] [] rfl rfl (hOf.mono ?_); rintro _ _ ⟨rfl, rfl⟩))) <;> (conv => whnf))
   (refine' RetK.auto (.tup [.p (.agg [.list nl (ns.map Nd.pv)]), .p (pI 0)]) ([]) rfl rfl rfl rfl _ _ _ <;> refine' fin_)
   exact ⟨0, ns, nl, rfl, h⟩
  | some w =>
   rw [hof] at hOf
   (conv => whnf); repeat' ((first | refine' z668c | (apply DrawA.orders caA (by kernel_rfl) (by kernel_rfl) (by kernel_rfl)) | ((refine CallA.loc [] [] rfl rfl (hOf.mono ?_); rintro _ _ ⟨rfl, rfl⟩))) <;> (conv => whnf))
   refine CallA.loc [] [] rfl rfl ((rDelete_call nl ns h x.p x.n).mono ?_)
   rintro _ _ ⟨e, ms, nb, rfl, hm, rfl⟩
   refine' y8bcb
   (refine' RetK.auto (.tup [.p (.agg [.list nb (ms.map Nd.pv)]), .p (pI e)]) ([]) rfl rfl rfl rfl _ _ _ <;> refine' fin_)
   exact ⟨e, ms, nb, rfl, hm⟩
theorem qApply_call (nl : Bool) (ns : List Nd) (h : Mi ns) (o : Ov) (ho : Mo o) : ACall Tryz.prog 44 [.p (.agg [.list nl (ns.map Nd.pv)]), .p o.pv] [] fun r H => (∃ (e i : Int) (ms : List Nd) (nb : Bool), r = .tup [.p (.agg [.list nb (ms.map Nd.pv)]), .p (pI i), .p (pI e)] /\ Mi ms) /\ H = [] := by
 refine acall_enter Tryz.func44 rfl rfl tabOK rfl ?_
 have hl1 := h.f.1
 have hl2 := ho.l
 refine' y8bcb
 refine CallA.loc [] [] rfl rfl ((rCheck_call nl ns h.s h.f).mono ?_)
 rintro _ _ ⟨⟨e, rfl, _, _⟩, rfl⟩
 by_cases h0 : e = 0
 rotate_left
 ·refine' y8bcb
  (refine' RetK.auto (.tup [.p (.agg [.list true []]), .p (pI 0), .p (pI e)]) ([]) rfl rfl rfl rfl _ _ _ <;> refine' fin_)
  exact ⟨e, 0, [], true, rfl, .nil⟩
 subst h0
 refine' y8bcb
 refine CallA.loc [] [] rfl rfl ((qCheck_call o ho).mono ?_)
 rintro _ _ ⟨⟨e, rfl, he⟩, rfl⟩
 by_cases h0 : e = 0
 rotate_left
 ·refine' y8bcb
  (refine' RetK.auto (.tup [.p (.agg [.list true []]), .p (pI 0), .p (pI e)]) ([]) rfl rfl rfl rfl _ _ _ <;> refine' fin_)
  exact ⟨e, 0, [], true, rfl, .nil⟩
 obtain ⟨h40, hsz⟩ := he h0
 subst h0
 refine' y8bcb
 refine loop_rule (fun (⟨c, ms, nb⟩ : Nat × List Nd × Bool) => ⟨[(2, .ptr 0 0), (4, .ptr 1 0), (26, .p (.list o.nl (o.es.map Ed.pv))), (27, .p (pI o.es.length)), (28, .p (pI c))], [some (AO.cells [.p (.list nb (ms.map Nd.pv))]), some (AO.cells [.p (.list true [])])]⟩) (fun ⟨c, ms, nb⟩ => c <= o.es.length /\ Mi ms) (fun ⟨c, ms, nb⟩ => o.es.length - c) (0, ns, nl) ?_ ?_ ?_; (refine SubA.auto rfl rfl rfl rfl ?_ ?_ <;> refine' fin_)
 ·exact ⟨by omega, h⟩
 rintro ⟨c, ms, nb⟩ ⟨hc, hm⟩
 try simp only at hc hm
 rcases Nat.lt_or_ge c o.es.length with hlt | hge
 ·have hx := List.getElem_mem hlt
  refine' y8bcb
  refine CallA.loc [] [] rfl rfl ((qCarry_call nb ms hm o.es[c] (ho.s _ hx) (hsz _ hx)).mono ?_)
  rintro _ _ ⟨⟨e, ms2, nb2, rfl, hm2⟩, rfl⟩
  by_cases h0 : e = 0
  ·subst h0
   refine' y8bcb
   (refine' ⟨(c + 1, ms2, nb2), _, _, _⟩; rotate_right; (refine SubA.auto rfl rfl rfl rfl ?_ ?_ <;> refine' fin_); rotate_right; exact ar2_)
   exact ⟨by omega, hm2⟩
  ·refine' y8bcb
   (refine' RetK.auto (.tup [.p (.agg [.list true []]), .p (pI c), .p (pI e)]) ([]) rfl rfl rfl rfl _ _ _ <;> refine' fin_)
   exact ⟨e, c, [], true, rfl, .nil⟩
 ·refine' y8bcb
  (refine' RetK.auto (.tup [.p (.agg [.list nb (ms.map Nd.pv)]), .p (pI 0), .p (pI 0)]) ([]) rfl rfl rfl rfl _ _ _ <;> refine' fin_)
  exact ⟨0, 0, ms, nb, rfl, hm⟩
open Go.Abs
set_option maxRecDepth 100000
def pB8 (n : Int) : PV := .v (.int .u8 n)
theorem gpB8 {P : Prop} (h : P := by
 (first | ((first | apply AppA.snoc (f := pB8) (a := _) rfl | apply AppA.one (f := pB8) (a := _) rfl); exact ar_) | apply IsL.set (f := pB8) (a := _) rfl | apply IsL.rep (f := pB8) (a := _) rfl | apply IsL.lit (f := pB8) [] rfl | apply IsL.lit (f := pB8) [_] rfl | apply IsL.lit (f := pB8) [_, _] rfl | apply IsL.lit (f := pB8) [_, _, _] rfl) <;> (solve_by_elim (newGoals := .nonDependentOnly) (symm := false) (exfalso := false) (transparency := .reducible) only [rfl, park_])) : P := h
def nmL : List ByteArray := [⟨#[97]⟩, ⟨#[98]⟩, ⟨#[99]⟩, ⟨#[99, 112, 117]⟩, ⟨#[99, 108, 107]⟩, ⟨#[98, 117, 115, 64, 49, 48]⟩, ⟨#[100, 101, 118, 64, 50]⟩, ⟨#[120, 95, 49]⟩, ⟨#[122]⟩]
def prL : List ByteArray := [⟨#[114, 101, 103]⟩, ⟨#[99, 111, 109, 112, 97, 116, 105, 98, 108, 101]⟩, ⟨#[115, 116, 97, 116, 117, 115]⟩, ⟨#[99, 108, 111, 99, 107, 115]⟩, ⟨#[35, 99, 101, 108, 108, 115]⟩, ⟨#[112]⟩, ⟨#[113]⟩, ⟨#[108, 97, 98, 101, 108]⟩, ⟨#[118, 97, 108, 117, 101]⟩]
def vlL : List ByteArray := [⟨#[97, 0]⟩, ⟨#[111, 107, 97, 121, 0]⟩, ⟨#[102, 105, 114, 115, 116, 0, 115, 101, 99, 111, 110, 100, 0]⟩, ⟨#[119, 105, 116, 104, 32, 34, 113, 117, 111, 116, 101, 34, 32, 97, 110, 100, 32, 92, 0]⟩, ⟨#[116, 97, 98, 9, 0]⟩, ⟨#[97, 98, 0, 0]⟩]
def TS (nl : Bool) (ts : List Int) (r : AV) (H : AH) : Prop := ∃ (s : ByteArray) (i' : Nat), s.size <= 100 /\ i' <= ts.length /\ r = .p (pS s) /\ H = src nl ts i'
theorem y8c2a {P : Prop} (h : P := by
 ((conv => whnf); repeat' ((first | apply CondA.plain | refine' gC | refine' gpI | refine' gpS | refine' gpN | refine' gpB | refine' gpB8 | refine' gE | (apply DrawA.quiet (by kernel_rfl) (by kernel_rfl); (conv => whnf); fail_if_success (show False))) <;> (conv => whnf))) <;> (solve_by_elim (newGoals := .nonDependentOnly) (symm := false) (exfalso := false) (transparency := .reducible) only [rfl, park_])) : P := h
theorem Name_tape (nl : Bool) (ts : List Int) (i : Nat) (h : i <= ts.length) : ACall Tryz.prog 84 [.ptr 0 0] (src nl ts i) fun r H => TS nl ts r H := by
 refine acall_enter Tryz.func84 rfl rfl tabOK rfl ?_
 have key : ∀ x ∈ nmL, x.size <= 100 := by decide
 have hl : nmL.length = 9 := rfl
 refine' y8c2a
 refine IsL.lit (f := pS) nmL rfl ?_
 generalize nmL = l at key hl
 refine' y8c2a
 refine CallA.loc [0] [] rfl rfl ((N_call nl ts i h _ (by omega)).mono ?_)
 rintro r H ⟨v, i', hv, hv2, hi', rfl, rfl⟩
 refine' y8c2a
 (refine' RetK.auto (.p (pS (l[v.toNat]'(by omega)))) (src nl ts i') rfl rfl rfl rfl _ _ _ <;> refine' fin_)
 exact ⟨_, i', key _ (List.getElem_mem _), hi', rfl, rfl⟩
theorem Property_tape (nl : Bool) (ts : List Int) (i : Nat) (h : i <= ts.length) : ACall Tryz.prog 41 [.ptr 0 0] (src nl ts i) fun r H => TS nl ts r H := by
 refine acall_enter Tryz.func41 rfl rfl tabOK rfl ?_
 have key : ∀ x ∈ prL, x.size <= 100 := by decide
 have hl : prL.length = 9 := rfl
 refine' y8c2a
 refine IsL.lit (f := pS) prL rfl ?_
 generalize prL = l at key hl
 refine' y8c2a
 refine CallA.loc [0] [] rfl rfl ((N_call nl ts i h _ (by omega)).mono ?_)
 rintro r H ⟨v, i', hv, hv2, hi', rfl, rfl⟩
 refine' y8c2a
 (refine' RetK.auto (.p (pS (l[v.toNat]'(by omega)))) (src nl ts i') rfl rfl rfl rfl _ _ _ <;> refine' fin_)
 exact ⟨_, i', key _ (List.getElem_mem _), hi', rfl, rfl⟩
theorem Number_tape (nl : Bool) (ts : List Int) (i : Nat) (h : i <= ts.length) : ACall Tryz.prog 91 [.ptr 0 0] (src nl ts i) fun r H => ∃ (v : Int) (i' : Nat), i' <= ts.length /\ r = .p (pI v) /\ H = src nl ts i' := by
 refine acall_enter Tryz.func91 rfl rfl tabOK rfl ?_
 refine' y8c2a
 refine CallA.loc [0] [] rfl rfl ((Range_call nl ts i h 0 300 (by omega) (by omega)).mono ?_)
 rintro r H ⟨v1, i1, _, _, hi1, rfl, rfl⟩
 refine' y8c2a
 refine CallA.loc [0] [] rfl rfl ((Range_call nl ts i1 hi1 0 4294967295 (by omega) (by omega)).mono ?_)
 rintro r H ⟨v2, i2, _, _, hi2, rfl, rfl⟩
 refine' y8c2a
 refine IsL.lit (f := pI) [0, 1, 2, 3, 5, 31, 32, v1, 4294967295, 2147483648, v2] rfl ?_
 refine' y8c2a
 refine CallA.loc [0] [1] rfl rfl ((Pick_call nl false ts i2 hi2 _ (by simp) (by simp)).mono ?_)
 rintro r H ⟨v3, i3, _, hi3, rfl, rfl⟩
 refine' y8c2a
 (refine' RetK.auto (.p (pI v3)) (src nl ts i3) rfl rfl rfl rfl _ _ _ <;> refine' fin_)
 exact ⟨v3, i3, hi3, rfl, rfl⟩
theorem z8c2a {P : Prop} (h : P := by
 ((first | apply CondA.plain | refine' gC | refine' gpI | refine' gpS | refine' gpN | refine' gpB | refine' gpB8 | refine' gE | (apply DrawA.quiet (by kernel_rfl) (by kernel_rfl); (conv => whnf); fail_if_success (show False))) <;> (conv => whnf)) <;> (solve_by_elim (newGoals := .nonDependentOnly) (symm := false) (exfalso := false) (transparency := .reducible) only [rfl, park_])) : P := h
theorem Cells_call (nl : Bool) (xs : List Int) (h : xs.length <= 100) : ACall Tryz.prog 92 [.p (.list nl (xs.map pI))] [] fun r H => (∃ s : ByteArray, r = .p (pS s)) /\ H = [] := by
 refine acall_enter Tryz.func92 rfl rfl tabOK rfl ?_
 refine' y8c2a
 refine loop_rule (fun (⟨c, bs, nb⟩ : Nat × List Int × Bool) => ⟨[(3, .buf 0), (6, .p (.list nl (xs.map pI))), (7, .p (pI xs.length)), (8, .p (pI c))], [some (AO.buf 5 nb (bs.map pB8))]⟩) (fun ⟨c, bs, nb⟩ => c <= xs.length /\ bs.length = 4 * c) (fun ⟨c, bs, nb⟩ => xs.length - c) (0, [], true) ?_ ?_ ?_; (refine SubA.auto1 (5, 3) rfl rfl rfl rfl rfl ?_ ?_ <;> refine' fin_)
 ·exact ⟨by omega, by simp⟩
 rintro ⟨c, bs, nb⟩ ⟨hc, hl⟩
 try simp only at hc hl
 (conv => whnf); repeat' ((first | (refine NW.mk (kd := .u8) _ rfl ?_) | refine' z8c2a | (apply IsL.lit (f := pB8) [_, _, _, _] rfl)) <;> (conv => whnf))
 ·(refine' ⟨(c + 1, _, _), _, _, _⟩; rotate_right; (refine SubA.auto rfl rfl rfl rfl ?_ ?_ <;> refine' fin_); rotate_right; exact ar2_)
  exact ⟨by omega, by simp; omega⟩
 ·refine BytesA.mk bs rfl ?_
  refine' y8c2a
  (refine' RetK.auto (.p (pS (bstr bs))) ([]) rfl rfl rfl rfl _ _ _ <;> refine' fin_)
  exact ⟨bstr bs, rfl⟩
def TV (nl : Bool) (ts : List Int) (r : AV) (H : AH) : Prop := ∃ (s : ByteArray) (i' : Nat), i' <= ts.length /\ r = .p (pS s) /\ H = src nl ts i'
theorem Value_tape (nl : Bool) (ts : List Int) (i : Nat) (h : i <= ts.length) : ACall Tryz.prog 42 [.ptr 0 0] (src nl ts i) fun r H => TV nl ts r H := by
 refine acall_enter Tryz.func42 rfl rfl tabOK rfl ?_
 refine' y8c2a
 refine CallA.loc [0] [] rfl rfl ((N_call nl ts i h 7 (by omega)).mono ?_)
 rintro r H ⟨v, i1, hv, hv2, hi1, rfl, rfl⟩
 by_cases h0 : v = 0
 ·subst h0
  refine' y8c2a
  (refine' RetK.auto (.p (pS ⟨#[]⟩)) (src nl ts i1) rfl rfl rfl rfl _ _ _ <;> refine' fin_)
  exact ⟨_, i1, hi1, rfl, rfl⟩
 by_cases h12 : v = 1 \/ v = 2
 ·have cells : ∀ (v : Int), True := fun _ => trivial
  rcases h12 with rfl | rfl
  all_goals
   refine' y8c2a
   refine CallA.loc [0] [] rfl rfl ((Range_call nl ts i1 hi1 1 3 (by omega) (by omega)).mono ?_)
   rintro r H ⟨n, i3, hn1, hn2, hi3, rfl, rfl⟩
   refine' y8c2a
   refine loop_rule (fun (⟨c, xs, nb, i2⟩ : Int × List Int × Bool × Nat) => ⟨[(0, .ptr 0 0), (3, .buf 1), (4, .p (pI c))], [some (.cells [.p (.list nl (ts.map pI)), .p (pI i2)]), some (AO.buf 3 nb (xs.map pI))]⟩) (fun ⟨c, xs, nb, i2⟩ => 0 <= c /\ xs.length + c <= 3 /\ i2 <= ts.length) (fun ⟨c, xs, nb, i2⟩ => c.toNat) (n, [], true, i3) ?_ ?_ ?_; (refine SubA.auto1 (3, 3) rfl rfl rfl rfl rfl ?_ ?_ <;> refine' fin_)
   ·exact ⟨by omega, by simp; omega, hi3⟩
   rintro ⟨c, xs, nb, i2⟩ ⟨hc, hx, hi2⟩
   try simp only at hc hx hi2
   rcases Int.lt_or_le 0 c with hlt | hge
   ·refine' y8c2a
    refine CallA.loc [0] [] rfl rfl ((Number_tape nl ts i2 hi2).mono ?_)
    rintro r H ⟨w, i4, hi4, rfl, rfl⟩
    refine' y8c2a
    (refine' ⟨(c - 1, _, _, i4), _, _, _⟩; rotate_right; (refine SubA.auto rfl rfl rfl rfl ?_ ?_ <;> refine' fin_); rotate_right; exact ar2_)
    exact ⟨by omega, by simp; omega, hi4⟩
   ·refine' y8c2a
    refine CallA.loc [] [1] rfl rfl ((Cells_call nb xs (by omega)).mono ?_)
    rintro r H ⟨⟨s, rfl⟩, rfl⟩
    refine' y8c2a
    (refine' RetK.auto (.p (pS s)) (src nl ts i2) rfl rfl rfl rfl _ _ _ <;> refine' fin_)
    exact ⟨_, i2, hi2, rfl, rfl⟩
 by_cases h3 : v = 3
 ·subst h3
  have hl : vlL.length = 6 := rfl
  refine' y8c2a
  refine IsL.lit (f := pS) vlL rfl ?_
  generalize vlL = l at hl
  refine' y8c2a
  refine CallA.loc [0] [] rfl rfl ((N_call nl ts i1 hi1 6 (by omega)).mono ?_)
  rintro r H ⟨v, i', hv, hv2, hi', rfl, rfl⟩
  refine' y8c2a
  (refine' RetK.auto (.p (pS (l[v.toNat]'(by omega)))) (src nl ts i') rfl rfl rfl rfl _ _ _ <;> refine' fin_)
  exact ⟨_, i', hi', rfl, rfl⟩
 by_cases h4 : v = 4
 ·subst h4
  refine' y8c2a
  (refine' RetK.auto (.p (pS _)) (src nl ts i1) rfl rfl rfl rfl _ _ _ <;> try refine' fin_)
  exact ⟨_, i1, hi1, rfl, rfl⟩
 refine' y8c2a
 refine CallA.loc [0] [] rfl rfl ((N_call nl ts i1 hi1 9 (by omega)).mono ?_)
 rintro r H ⟨n, i3, hn1, hn2, hi3, rfl, rfl⟩
 refine' y8c2a
 refine loop_rule (fun (⟨c, xs, nb, i2⟩ : Int × List Int × Bool × Nat) => ⟨[(0, .ptr 0 0), (5, .buf 1), (6, .p (pI c))], [some (.cells [.p (.list nl (ts.map pI)), .p (pI i2)]), some (AO.buf 5 nb (xs.map pB8))]⟩) (fun ⟨c, xs, nb, i2⟩ => 0 <= c /\ xs.length + c <= 9 /\ i2 <= ts.length) (fun ⟨c, xs, nb, i2⟩ => c.toNat) (n, [], true, i3) ?_ ?_ ?_; (refine SubA.auto1 (5, 5) rfl rfl rfl rfl rfl ?_ ?_ <;> refine' fin_)
 ·exact ⟨by omega, by simp; omega, hi3⟩
 rintro ⟨c, xs, nb, i2⟩ ⟨hc, hx, hi2⟩
 try simp only at hc hx hi2
 rcases Int.lt_or_le 0 c with hlt | hge
 ·refine' y8c2a
  refine CallA.loc [0] [] rfl rfl ((N_call nl ts i2 hi2 256 (by omega)).mono ?_)
  rintro r H ⟨w, i4, hw1, hw2, hi4, rfl, rfl⟩
  refine' y8c2a
  refine IsL.lit (f := pI) [0, 1, 65, 255, w] rfl ?_
  refine' y8c2a
  refine CallA.loc [0] [2] rfl rfl ((Pick_call nl false ts i4 hi4 _ (by simp) (by simp)).mono ?_)
  rintro r H ⟨q, i5, _, hi5, rfl, rfl⟩
  (conv => whnf); repeat' ((first | (refine NW.mk (kd := .u8) _ rfl ?_) | refine' z8c2a | (apply IsL.lit (f := pB8) [_] rfl)) <;> (conv => whnf))
  (refine' ⟨(c - 1, _, _, i5), _, _, _⟩; rotate_right; (refine SubA.auto rfl rfl rfl rfl ?_ ?_ <;> refine' fin_); rotate_right; exact ar2_)
  exact ⟨by omega, by simp; omega, hi5⟩
 ·refine' y8c2a
  refine BytesA.mk xs rfl ?_
  refine' y8c2a
  (refine' RetK.auto (.p (pS (bstr xs))) (src nl ts i2) rfl rfl rfl rfl _ _ _ <;> refine' fin_)
  exact ⟨_, i2, hi2, rfl, rfl⟩
open Go.Abs
set_option maxRecDepth 100000
def gpA : Sc := (.frz 0 (.take 1 (.take 2 (.frz 3 (.take 4 (.one 5 (.one 6 (.take 7 .done))))))))
def gsASC0 : Sc := (.take 7 (.take 8 (.take 9 (.one 10 (.one 11 (.take 12 .done))))))
def gsASC1 : Sc := (.one 6 (.take 7 (.take 8 (.take 9 (.one 11 (.take 12 .done))))))
def gsASC2 : Sc := (.two 6 10 gsASC0 gsASC1)
def gsASC3 : Sc := (.one 5 (.one 6 (.take 7 (.take 8 (.take 9 (.one 11 (.take 12 .done)))))))
def gsASC4 : Sc := (.two 5 10 gsASC2 gsASC3)
def gsASC5 : Sc := (.one 3 (.one 5 (.one 6 (.take 7 (.take 8 (.take 9 (.one 11 (.take 12 .done))))))))
def gsA : Sc := (.frz 0 (.take 1 (.frz 2 (.take 4 (.two 3 10 gsASC4 gsASC5)))))
def gtASC0 : Sc := (.take 9 (.take 10 (.take 11 (.one 12 (.one 13 (.take 14 .done))))))
def gtASC1 : Sc := (.one 8 (.take 9 (.take 10 (.take 11 (.one 13 (.take 14 .done))))))
def gtASC2 : Sc := (.two 8 12 gtASC0 gtASC1)
def gtASC3 : Sc := (.one 7 (.one 8 (.take 9 (.take 10 (.take 11 (.one 13 (.take 14 .done)))))))
def gtASC4 : Sc := (.two 7 12 gtASC2 gtASC3)
def gtASC5 : Sc := (.one 5 (.one 7 (.one 8 (.take 9 (.take 10 (.take 11 (.one 13 (.take 14 .done))))))))
def gtASC6 : Sc := (.two 5 12 gtASC4 gtASC5)
def gtASC7 : Sc := (.one 3 (.one 5 (.one 7 (.one 8 (.take 9 (.take 10 (.take 11 (.one 13 (.take 14 .done)))))))))
def gtASC8 : Sc := (.two 3 12 gtASC6 gtASC7)
def gtASC9 : Sc := (.one 2 (.one 3 (.one 5 (.one 7 (.one 8 (.take 9 (.take 10 (.take 11 (.one 13 (.take 14 .done))))))))))
def gtASC10 : Sc := (.two 2 12 gtASC8 gtASC9)
def gtASC11 : Sc := (.one 0 (.one 8 (.take 9 (.take 10 (.take 11 (.one 13 (.take 14 .done)))))))
def gtASC12 : Sc := (.two 0 12 gtASC2 gtASC11)
def gtASC13 : Sc := (.two 0 7 gtASC3 gtASC11)
def gtASC14 : Sc := (.three 0 7 12 gtASC4 gtASC12 gtASC13)
def gtASC15 : Sc := (.two 0 5 gtASC5 gtASC13)
def gtASC16 : Sc := (.three 0 5 12 gtASC6 gtASC14 gtASC15)
def gtASC17 : Sc := (.two 0 3 gtASC7 gtASC15)
def gtASC18 : Sc := (.three 0 3 12 gtASC8 gtASC16 gtASC17)
def gtASC19 : Sc := (.two 0 2 gtASC9 gtASC17)
def gtA : Sc := (.take 1 (.take 4 (.take 6 (.three 0 2 12 gtASC10 gtASC18 gtASC19))))
theorem rPath_any (n2 : Bool) (ns : List Nd) (h : Mi ns) (j : Nat) : ACall Tryz.prog 89 [.p (.agg [.list n2 (ns.map Nd.pv)]), .p (pI j)] [] fun r H => (∃ s : ByteArray, s.size <= 5000 /\ r = .p (pS s)) /\ H = [] := by
 refine acall_enter Tryz.func89 rfl rfl tabOK rfl ?_
 have hl := h.f.1
 refine' y723b
 refine CallA.loc [] [] rfl rfl ((rCheck_call n2 ns h.s h.f).mono ?_)
 rintro _ _ ⟨⟨e, rfl, he, _⟩, rfl⟩
 by_cases h0 : e = 0
 rotate_left
 ·refine' y723b
  (refine' RetK.auto (.p (pS ⟨#[]⟩)) ([]) rfl rfl rfl rfl _ _ _ <;> refine' fin_)
  exact ⟨_, by decide, rfl⟩
 obtain ⟨hlim, hn⟩ := he h0
 subst h0
 rcases Nat.lt_or_ge j ns.length with hlt | hge
 ·refine' y723b
  refine CallA.loc [] [] rfl rfl ((rPath_call n2 ns hn h.f j hlt).mono ?_)
  rintro _ _ ⟨rfl, rfl⟩
  have hs : (pathOf ns j).size <= 5000 := by
   rcases Nat.eq_zero_or_pos j with hz | hz
   ·subst hz; exact (by decide : slS.size <= 5000)
   ·rw [pathOf_pos hz]
    have := pthF_size hn (j + 1) j hlt
    have h2 : (pth ns j).size <= 32 * (j + 1) := this
    have h3 := hlim.2.1
    omega
  refine' y723b
  (refine' RetK.auto (.p (pS (pathOf ns j))) ([]) rfl rfl rfl rfl _ _ _ <;> refine' fin_)
  exact ⟨_, hs, rfl⟩
 ·refine' y723b
  (refine' RetK.auto (.p (pS ⟨#[]⟩)) ([]) rfl rfl rfl rfl _ _ _ <;> refine' fin_)
  exact ⟨_, by decide, rfl⟩
def TP (nl : Bool) (ts : List Int) (r : AV) (H : AH) : Prop := ∃ (s : ByteArray) (i' : Nat), s.size <= 5000 /\ i' <= ts.length /\ r = .p (pS s) /\ H = src nl ts i'
def ptL : List ByteArray := [⟨#[]⟩, ⟨#[47, 113]⟩, ⟨#[47, 47]⟩, ⟨#[97]⟩, ⟨#[47, 97, 47]⟩]
theorem yd706 {P : Prop} (h : P := by
 ((conv => whnf); repeat' ((first | apply CondA.plain | refine' gC | refine' gpI | refine' gpS | refine' gpN | refine' gpB | refine' gPrpv | refine' gNdpv | refine' gE | fail) <;> (conv => whnf))) <;> (solve_by_elim (newGoals := .nonDependentOnly) (symm := false) (exfalso := false) (transparency := .reducible) only [rfl, park_])) : P := h
set_option maxHeartbeats 4000000 in
theorem gPath_call (nl : Bool) (ts : List Int) (i : Nat) (hi : i <= ts.length) (n2 : Bool) (ns : List Nd) (h : Mi ns) : ACall Tryz.prog 40 [.ptr 0 0, .p (.agg [.list n2 (ns.map Nd.pv)])] (src nl ts i) fun r H => TP nl ts r H := by
 refine acall_enter Tryz.func40 rfl rfl tabOK rfl ?_
 have hl := h.f.1
 refine' y723b
 refine CallA.loc [0] [] rfl rfl ((N_call nl ts i hi 30 (by omega)).mono ?_)
 rintro r H ⟨v, i1, hv, hv2, hi1, rfl, rfl⟩
 by_cases h29 : v = 29
 ·subst h29
  have key : ∀ x ∈ ptL, x.size <= 5000 := by decide
  have hl : ptL.length = 5 := rfl
  refine' y723b
  refine IsL.lit (f := pS) ptL rfl ?_
  generalize ptL = l at key hl
  refine' y723b
  refine CallA.loc [0] [] rfl rfl ((N_call nl ts i1 hi1 5 (by omega)).mono ?_)
  rintro r H ⟨v, i', hv, hv2, hi', rfl, rfl⟩
  refine' y723b
  (refine' RetK.auto (.p (pS (l[v.toNat]'(by omega)))) (src nl ts i') rfl rfl rfl rfl _ _ _ <;> refine' fin_)
  exact ⟨_, i', key _ (List.getElem_mem _), hi', rfl, rfl⟩
 ·refine' yd706
  refine DrawA.retire 3 1 [.list n2 (ns.map Nd.pv)] rfl rfl ?_
  (conv => whnf); repeat' ((first | refine' zd706 | (apply DrawA.orders gpA (by kernel_rfl) (by kernel_rfl) (by kernel_rfl)) | ((refine CallA.loc [0] [] rfl rfl ((N_call nl ts i1 hi1 ns.length (by omega)).mono ?_); rintro r H ⟨w, i2, hw, hw2, hi2, rfl, rfl⟩))) <;> (conv => whnf))
  obtain ⟨k, rfl⟩ := Int.eq_ofNat_of_zero_le hw
  refine CallA.loc [] [] rfl rfl ((rPath_any n2 ns h k).mono ?_)
  rintro r H ⟨⟨s, hs, rfl⟩, rfl⟩
  refine' y723b
  (refine' RetK.auto (.p (pS s)) (src nl ts i2) rfl rfl rfl rfl _ _ _ <;> refine' fin_)
  exact ⟨s, i2, hs, hi2, rfl, rfl⟩
def TT (nl : Bool) (ts : List Int) (r : AV) (H : AH) : Prop := ∃ (n2 : Bool) (ns : List Nd) (i' : Nat), Mi ns /\ i' <= ts.length /\ r = .p (.agg [.list n2 (ns.map Nd.pv)]) /\ H = src nl ts i'
set_option maxHeartbeats 4000000 in
theorem gStep_call (nl : Bool) (ts : List Int) (i : Nat) (hi : i <= ts.length) (n2 : Bool) (ns : List Nd) (h : Mi ns) : ACall Tryz.prog 38 [.ptr 0 0, .p (.agg [.list n2 (ns.map Nd.pv)])] (src nl ts i) fun r H => TT nl ts r H := by
 refine acall_enter Tryz.func38 rfl rfl tabOK rfl ?_
 have hl := h.f.1
 refine' yd706
 refine DrawA.retire 3 1 [.list n2 (ns.map Nd.pv)] rfl rfl ?_
 (conv => whnf); repeat' ((first | refine' zd706 | (apply DrawA.orders gsA (by kernel_rfl) (by kernel_rfl) (by kernel_rfl)) | ((refine CallA.loc [0] [] rfl rfl ((gPath_call nl ts i hi n2 ns h).mono ?_); rintro _ _ ⟨s, i1, hs, hi1, rfl, rfl⟩)) | ((refine CallA.loc [0] [] rfl rfl ((Name_tape nl ts i1 hi1).mono ?_); rintro _ _ ⟨nm, i2, hnm, hi2, rfl, rfl⟩))) <;> (conv => whnf))
 all_goals
  refine CallA.loc [] [] rfl rfl ((rAdd_call n2 ns h s nm).mono ?_)
  rintro _ _ ⟨e, ms, nb, rfl, hm, rfl⟩
  by_cases h0 : e = 0
  ·subst h0
   refine' y723b
   (refine' RetK.auto (.p (.agg [.list nb (ms.map Nd.pv)])) (src nl ts i2) rfl rfl rfl rfl _ _ _ <;> refine' fin_)
   exact ⟨nb, ms, i2, hm, hi2, rfl, rfl⟩
  ·refine' y723b
   (refine' RetK.auto (.p (.agg [.list n2 (ns.map Nd.pv)])) (src nl ts i2) rfl rfl rfl rfl _ _ _ <;> refine' fin_)
   exact ⟨n2, ns, i2, h, hi2, rfl, rfl⟩
def rootN : Nd := ⟨-1, ⟨#[]⟩, true, []⟩
theorem Mi.root : Mi [rootN] := by
 refine ⟨fun n hn p hp => ?_, by simp, fun n hn => ?_⟩
 ·rw [List.mem_singleton.1 hn] at hp
  cases hp
 ·rw [List.mem_singleton.1 hn]
  simp [rootN]
set_option maxHeartbeats 8000000 in
theorem gTree_call (nl : Bool) (ts : List Int) (i : Nat) (hi : i <= ts.length) : ACall Tryz.prog 12 [.ptr 0 0, .p (pI 6)] (src nl ts i) fun r H => TT nl ts r H := by
 refine acall_enter Tryz.func12 rfl rfl tabOK rfl ?_
 (conv => whnf); repeat' ((first | (refine IsL.lit (f := Nd.pv) [rootN] rfl ?_) | refine' z723b | fail) <;> (conv => whnf))
 refine CallA.loc [0] [] rfl rfl ((N_call nl ts i hi 7 (by omega)).mono ?_)
 rintro r H ⟨v, i1, hv, hv2, hi1, rfl, rfl⟩
 refine' y723b
 refine loop_rule (fun (⟨c, ns, n2, i2⟩ : Int × List Nd × Bool × Nat) => ⟨[(0, .ptr 0 0), (1, .p (pI 6)), (4, .ptr 1 0), (5, .ptr 2 0), (6, .p (pI c))], [some (.cells [.p (.list nl (ts.map pI)), .p (pI i2)]), some (.cells [.p (.list true [])]), some (.cells [.p (.list n2 (ns.map Nd.pv))])]⟩) (fun ⟨c, ns, n2, i2⟩ => 0 <= c /\ c <= 7 /\ Mi ns /\ i2 <= ts.length) (fun ⟨c, ns, n2, i2⟩ => c.toNat) (v, [rootN], false, i1) ?_ ?_ ?_; (refine SubA.thawed _ [2] [] ?_; refine SubA.cells _ [3] ?_; refine SubA.auto rfl rfl rfl rfl ?_ ?_ <;> refine' fin_)
 ·exact ⟨by omega, by omega, Mi.root, hi1⟩
 rintro ⟨c, ns, n2, i2⟩ ⟨hc, hc7, hm, hi2⟩
 try simp only at hc hc7 hm hi2
 rcases Int.lt_or_le 0 c with hlt | hge
 ·refine' y723b
  refine CallA.loc [0] [] rfl rfl ((gStep_call nl ts i2 hi2 n2 ns hm).mono ?_)
  rintro _ _ ⟨n3, ms, i3, hm3, hi3, rfl, rfl⟩
  refine' y723b
  (refine' ⟨(c - 1, ms, n3, i3), _, _, _⟩; rotate_right; (refine SubA.auto rfl rfl rfl rfl ?_ ?_ <;> refine' fin_); rotate_right; exact ar2_)
  exact ⟨by omega, by omega, hm3, hi3⟩
 refine' y723b
 refine CallA.loc [0] [] rfl rfl ((N_call nl ts i2 hi2 13 (by omega)).mono ?_)
 rintro r H ⟨w, i3, hw, hw2, hi3, rfl, rfl⟩
 refine' y723b
 refine loop_rule (fun (⟨c, ns, n2, i2⟩ : Int × List Nd × Bool × Nat) => ⟨[(0, .ptr 0 0), (4, .ptr 1 0), (5, .ptr 2 0), (7, .p (pI c))], [some (.cells [.p (.list nl (ts.map pI)), .p (pI i2)]), some (.cells [.p (.list true [])]), some (.cells [.p (.list n2 (ns.map Nd.pv))])]⟩) (fun ⟨c, ns, n2, i2⟩ => 0 <= c /\ c <= 13 /\ Mi ns /\ i2 <= ts.length) (fun ⟨c, ns, n2, i2⟩ => c.toNat) (w, ns, n2, i3) ?_ ?_ ?_; (refine SubA.auto rfl rfl rfl rfl ?_ ?_ <;> refine' fin_)
 ·exact ⟨by omega, by omega, hm, hi3⟩
 clear hm hi3 hi2 hge hc hc7
 rintro ⟨c, ns, n2, i2⟩ ⟨hc, hc7, hm, hi2⟩
 try simp only at hc hc7 hm hi2
 rcases Int.lt_or_le 0 c with hlt | hge
 ·(conv => whnf); repeat' ((first | refine' zd706 | (apply DrawA.orders gtA (by kernel_rfl) (by kernel_rfl) (by kernel_rfl)) | ((refine CallA.loc [0] [] rfl rfl ((gPath_call nl ts i2 hi2 n2 ns hm).mono ?_); rintro _ _ ⟨s, i3, hs, hi3, rfl, rfl⟩)) | ((refine CallA.loc [0] [] rfl rfl ((Property_tape nl ts i3 hi3).mono ?_); rintro _ _ ⟨nm, i4, hnm, hi4, rfl, rfl⟩)) | ((refine CallA.loc [0] [] rfl rfl ((Value_tape nl ts i4 hi4).mono ?_); rintro _ _ ⟨vl, i5, hi5, rfl, rfl⟩))) <;> (conv => whnf))
  all_goals
   refine CallA.loc [] [] rfl rfl ((rSet_call n2 ns hm s nm vl).mono ?_)
   rintro _ _ ⟨e, ms, nb, rfl, hm2, rfl⟩
   by_cases h0 : e = 0
   ·subst h0
    refine' y723b
    (refine' ⟨(c - 1, ms, nb, i5), _, _, _⟩; rotate_right; (refine SubA.auto rfl rfl rfl rfl ?_ ?_ <;> refine' fin_); rotate_right; exact ar2_)
    exact ⟨by omega, by omega, hm2, hi5⟩
   ·refine' y723b
    (refine' ⟨(c - 1, ns, n2, i5), _, _, _⟩; rotate_right; (refine SubA.auto rfl rfl rfl rfl ?_ ?_ <;> refine' fin_); rotate_right; exact ar2_)
    exact ⟨by omega, by omega, hm, hi5⟩
 ·refine' y723b
  (refine' RetK.auto (.p (.agg [.list n2 (ns.map Nd.pv)])) (src nl ts i2) rfl rfl rfl rfl _ _ _ <;> refine' fin_)
  exact ⟨n2, ns, i2, hm, hi2, rfl, rfl⟩
end Go.Proofs.YtnhifaofkndclaaGreatDoor
