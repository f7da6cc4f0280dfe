/- For TopRefusals: part 7 of 15. -/
import Derived.Test.YtnhifaofkndclaaGreatDoorM6
set_option linter.unusedSimpArgs false
set_option linter.unusedVariables false
set_option linter.unnecessarySimpa false
set_option maxHeartbeats 8000000
namespace Go.Proofs.YtnhifaofkndclaaGreatDoor
open Go.Abs
set_option maxRecDepth 100000
def TO (nl : Bool) (ts : List Int) (r : AV) (H : AH) : Prop := ∃ (o : Ov) (i' : Nat), Mo o /\ i' <= ts.length /\ r = .p o.pv /\ H = src nl ts i'
set_option maxHeartbeats 8000000 in
theorem gOverlay_call (nl : Bool) (ts : List Int) (i : Nat) (hi : i <= ts.length) (n2 : Bool) (ns : List Nd) (h : Mi ns) (nm : ByteArray) : ACall Tryz.prog 43 [.ptr 0 0, .p (.agg [.list n2 (ns.map Nd.pv)]), .p (pS nm)] (src nl ts i) fun r H => TO nl ts r H := by
 refine acall_enter Tryz.func43 rfl rfl tabOK rfl ?_
 have hl := h.f.1
 (conv => whnf); repeat' ((first | (refine IsL.lit (f := pS) [⟨#[47]⟩] rfl ?_) | refine' z8bcb | fail) <;> (conv => whnf))
 refine loop_rule (fun (⟨c, ps⟩ : Nat × List ByteArray) => ⟨[(0, .ptr 0 0), (4, .rptr [.list n2 (ns.map Nd.pv)]), (6, .ptr 1 0), (7, .ptr 2 0), (8, .buf 3), (21, .p (pI ns.length)), (22, .p (pI c))], [some (.cells [.p (.list nl (ts.map pI)), .p (pI i)]), some (.cells [.p (pS ⟨#[]⟩), .p (.list true [])]), some (.cells [.p (pS nm), .p (.list true [])]), some (AO.buf 9 false (ps.map pS))]⟩) (fun ⟨c, ps⟩ => c <= ns.length /\ 0 < ps.length /\ ps.length <= 1 + c /\ ∀ s ∈ ps, s.size <= 5000) (fun ⟨c, ps⟩ => ns.length - c) (0, [⟨#[47]⟩]) ?_ ?_ ?_; (refine SubA.ret _ 4 1 [.list n2 (ns.map Nd.pv)] rfl rfl ?_; refine SubA.auto rfl rfl rfl rfl ?_ ?_ <;> refine' fin_)
 ·refine ⟨by omega, by simp, by simp, fun s hs => ?_⟩
  rw [List.mem_singleton.1 hs]; decide
 rintro ⟨c, ps⟩ ⟨hc, hp0, hpl, hps⟩
 try simp only at hc hp0 hpl hps
 rcases Nat.lt_or_ge c ns.length with hlt | hge
 ·refine' y8bcb
  refine CallA.loc [] [] rfl rfl ((rPath_any n2 ns h c).mono ?_)
  rintro _ _ ⟨⟨s, hs, rfl⟩, rfl⟩
  refine' y8bcb
  (refine' ⟨(c + 1, ps ++ [s]), _, _, _⟩; rotate_right; (refine SubA.auto rfl rfl rfl rfl ?_ ?_ <;> refine' fin_); rotate_right; exact ar2_)
  refine ⟨by omega, by simp, by simp; omega, fun x hx => ?_⟩
  rcases List.mem_append.1 hx with h1 | h1
  ·exact hps x h1
  ·rw [List.mem_singleton.1 h1]; exact hs
 refine' y8bcb
 refine CallA.loc [0] [] rfl rfl ((N_call nl ts i hi 6 (by omega)).mono ?_)
 rintro _ _ ⟨v, i1, hv, hv2, hi1, rfl, rfl⟩
 refine' y8bcb
 refine loop_rule (fun (⟨c, ps, es, no, i2⟩ : Int × List ByteArray × List Ed × Bool × Nat) => ⟨[(0, .ptr 0 0), (6, .ptr 1 0), (7, .ptr 2 0), (8, .buf 3), (10, .p (pI c))], [some (.cells [.p (.list nl (ts.map pI)), .p (pI i2)]), some (.cells [.p (pS ⟨#[]⟩), .p (.list true [])]), some (.cells [.p (pS nm), .p (.list no (es.map Ed.pv))]), some (AO.buf 9 false (ps.map pS))]⟩) (fun ⟨c, ps, es, no, i2⟩ => 0 <= c /\ 0 < ps.length /\ ps.length + c <= 2000 /\ (∀ s ∈ ps, s.size + 200 * c <= 6200) /\ es.length + c <= 6 /\ (∀ x ∈ es, SmE x) /\ i2 <= ts.length) (fun ⟨c, ps, es, no, i2⟩ => c.toNat) (v, ps, [], true, i1) ?_ ?_ ?_; (refine SubA.auto rfl rfl rfl rfl ?_ ?_ <;> refine' fin_)
 ·refine ⟨by omega, hp0, by omega, fun s hs => ?_, by simp; omega, fun x hx => (by cases hx), hi1⟩
  have := hps s hs
  omega
 clear hps hpl hp0 hi1 hv hv2 hge hc
 rintro ⟨c, ps, es, no, i2⟩ ⟨hc, hp0, hpl, hps, hel, hes, hi2⟩
 try simp only at hc hp0 hpl hps hel hes hi2
 rcases Int.lt_or_le 0 c with hlt | hge
 rotate_left
 ·refine' y8bcb
  (refine' RetK.auto (.p (Ov.pv ⟨nm, no, es⟩)) (src nl ts i2) rfl rfl rfl rfl _ _ _ <;> refine' fin_)
  exact ⟨⟨nm, no, es⟩, i2, ⟨by show es.length <= 1000; omega, hes⟩, hi2, rfl, rfl⟩
 refine' y8bcb
 refine CallA.loc [0] [] rfl rfl ((N_call nl ts i2 hi2 ps.length (by omega)).mono ?_)
 rintro _ _ ⟨w, i3, hw, hw2, hi3, rfl, rfl⟩
 have hw3 : w < ps.length := by omega
 obtain ⟨k, rfl⟩ := Int.eq_ofNat_of_zero_le hw
 have hk : k < ps.length := by omega
 have hsz := hps _ (List.getElem_mem hk)
 refine' y8bcb
 refine CallA.loc [0] [] rfl rfl ((Range_call nl ts i3 hi3 1 3 (by omega) (by omega)).mono ?_)
 rintro _ _ ⟨kd, i4, hk1, hk2, hi4, rfl, rfl⟩
 generalize ps[k] = p at hsz ⊢
 have h47 : (⟨#[47]⟩ : ByteArray).size = 1 := rfl
 have h00 : (⟨#[]⟩ : ByteArray).size = 0 := rfl
 have hms : (⟨#[47, 109, 105, 115, 115, 105, 110, 103]⟩ : ByteArray).size = 8 := rfl
 have hps' : 0 < ps.length /\ ps.length + (c - 1) <= 2000 /\ ∀ s ∈ ps, (s.size : Int) + 200 * (c - 1) <= 6200 := ⟨hp0, by omega, fun s hs => by have := hps s hs; omega⟩
 have hadd : ∀ q : ByteArray, (q.size : Int) + 200 * (c - 1) <= 6200 -> 0 < (ps ++ [q]).length /\ (ps ++ [q]).length + (c - 1) <= 2000 /\ ∀ s ∈ ps ++ [q], (s.size : Int) + 200 * (c - 1) <= 6200 := fun q hq => by
  refine ⟨by simp, by simp; omega, fun s hs => ?_⟩
  rcases List.mem_append.1 hs with h1 | h1
  ·have := hps s h1; omega
  ·rw [List.mem_singleton.1 h1]; exact hq
 have hq := seqS p slS
 by_cases hk1 : kd = 1
 ·subst hk1
  (conv => whnf); repeat' ((first | (refine StrA.mk (by omega) ?_) | refine' z8bcb | fail) <;> (conv => whnf))
  refine CallA.loc [0] [] rfl rfl ((Name_tape nl ts i4 hi4).mono ?_)
  rintro _ _ ⟨n1, i5, hn1, hi5, rfl, rfl⟩
  by_cases he : p = slS
  ·rw [decide_eq_true he] at hq
   (conv => whnf); repeat' ((first | (refine StrA.mk (by first | omega | (simp only [app_size]; omega)) ?_) | refine' z8bcb | fail) <;> (conv => whnf))
   refine CallA.loc [0] [] rfl rfl ((Name_tape nl ts i5 hi5).mono ?_)
   rintro _ _ ⟨n3, i6, hn3, hi6, rfl, rfl⟩
   (conv => whnf); repeat' ((first | (refine StrA.mk (by first | omega | (simp only [app_size]; omega)) ?_) | refine' z8bcb | fail) <;> (conv => whnf))
   refine CallA.loc [0] [] rfl rfl ((N_call nl ts _ (by assumption) 25 (by omega)).mono ?_)
   rintro _ _ ⟨z, i7, hz, hz2, hi7, rfl, rfl⟩
   by_cases h24 : z = 24
   ·refine' y8bcb
    refine loop_rule (fun (⟨d, kn, x, qs⟩ : Nat × Bool × Ed × List ByteArray) => ⟨[(0, .ptr 0 0), (6, .ptr 1 0), (7, .ptr 2 0), (8, .buf 3), (10, .p (pI c)), (12, .ptr 4 0), (13, .p (pB kn)), (86, .p (.list no (es.map Ed.pv))), (87, .p (pI es.length)), (88, .p (pI d))], [some (.cells [.p (.list nl (ts.map pI)), .p (pI i7)]), some (.cells [.p (pS ⟨#[]⟩), .p (.list true [])]), some (.cells [.p (pS nm), .p (.list no (es.map Ed.pv))]), some (AO.buf 9 false (qs.map pS)), some (.cells [.p (pI x.k), .p (pS x.p), .p (pS x.n), .p (pS x.v)])]⟩) (fun ⟨d, kn, x, qs⟩ => d <= es.length /\ SmE x /\ 0 < qs.length /\ qs.length + (c - 1) <= 2000 /\ ∀ s ∈ qs, (s.size : Int) + 200 * (c - 1) <= 6200) (fun ⟨d, kn, x, qs⟩ => es.length - d) (0, false, ⟨1, ⟨#[47, 109, 105, 115, 115, 105, 110, 103]⟩, ⟨#[]⟩, ⟨#[]⟩⟩, ps ++ [(⟨#[47]⟩ ++ n3)]) ?_ ?_ ?_; (refine SubA.auto rfl rfl rfl rfl ?_ ?_ <;> refine' fin_)
    ·refine ⟨by omega, ⟨?_, ?_⟩, ?_⟩
     ·first | omega | (simp only [app_size]; omega)
     ·first | omega | (simp only [app_size]; omega)
     ·first | exact hps' | exact hadd _ (by simp only [app_size]; omega)
    rintro ⟨d, kn, x, qs⟩ ⟨hd, hx, hq0, hql, hqs⟩
    try simp only at hd hx hq0 hql hqs
    rcases Nat.lt_or_ge d es.length with hdl | hdg
    ·refine' y8bcb
     all_goals
      (refine' ⟨(d + 1, _, x, qs), _, _, _⟩; rotate_right; (refine SubA.auto rfl rfl rfl rfl ?_ ?_ <;> refine' fin_); rotate_right; exact ar2_)
      exact ⟨by omega, hx, hq0, hql, hqs⟩
    ·cases kn with
     | true =>
      refine' y8bcb
      (refine' ⟨(c - 1, qs, es, no, i7), _, _, _⟩; rotate_right; (refine SubA.auto rfl rfl rfl rfl ?_ ?_ <;> refine' fin_); rotate_right; exact ar2_)
      exact ⟨by omega, hq0, hql, hqs, by omega, hes, hi7⟩
     | false =>
      refine' y8bcb
      refine CallA.loc [] [] rfl rfl ((qPut_call no es (by omega) x).mono ?_)
      rintro _ _ ⟨⟨nb, fs, rfl, hf1, hf2⟩, rfl⟩
      refine' y8bcb
      (refine' ⟨(c - 1, qs, fs, nb, i7), _, _, _⟩; rotate_right; (refine SubA.auto rfl rfl rfl rfl ?_ ?_ <;> refine' fin_); rotate_right; exact ar2_)
      refine ⟨by omega, hq0, hql, hqs, by omega, fun y hy => ?_, hi7⟩
      rcases hf2 y hy with h1 | h1
      ·exact hes y h1
      ·rw [h1]; exact hx
   ·refine' y8bcb
    refine loop_rule (fun (⟨d, kn, x, qs⟩ : Nat × Bool × Ed × List ByteArray) => ⟨[(0, .ptr 0 0), (6, .ptr 1 0), (7, .ptr 2 0), (8, .buf 3), (10, .p (pI c)), (12, .ptr 4 0), (13, .p (pB kn)), (86, .p (.list no (es.map Ed.pv))), (87, .p (pI es.length)), (88, .p (pI d))], [some (.cells [.p (.list nl (ts.map pI)), .p (pI i7)]), some (.cells [.p (pS ⟨#[]⟩), .p (.list true [])]), some (.cells [.p (pS nm), .p (.list no (es.map Ed.pv))]), some (AO.buf 9 false (qs.map pS)), some (.cells [.p (pI x.k), .p (pS x.p), .p (pS x.n), .p (pS x.v)])]⟩) (fun ⟨d, kn, x, qs⟩ => d <= es.length /\ SmE x /\ 0 < qs.length /\ qs.length + (c - 1) <= 2000 /\ ∀ s ∈ qs, (s.size : Int) + 200 * (c - 1) <= 6200) (fun ⟨d, kn, x, qs⟩ => es.length - d) (0, false, ⟨1, (⟨#[47]⟩ ++ n3), ⟨#[]⟩, ⟨#[]⟩⟩, ps ++ [(⟨#[47]⟩ ++ n3)]) ?_ ?_ ?_; (refine SubA.auto rfl rfl rfl rfl ?_ ?_ <;> refine' fin_)
    ·refine ⟨by omega, ⟨?_, ?_⟩, ?_⟩
     ·first | omega | (simp only [app_size]; omega)
     ·first | omega | (simp only [app_size]; omega)
     ·first | exact hps' | exact hadd _ (by simp only [app_size]; omega)
    rintro ⟨d, kn, x, qs⟩ ⟨hd, hx, hq0, hql, hqs⟩
    try simp only at hd hx hq0 hql hqs
    rcases Nat.lt_or_ge d es.length with hdl | hdg
    ·refine' y8bcb
     all_goals
      (refine' ⟨(d + 1, _, x, qs), _, _, _⟩; rotate_right; (refine SubA.auto rfl rfl rfl rfl ?_ ?_ <;> refine' fin_); rotate_right; exact ar2_)
      exact ⟨by omega, hx, hq0, hql, hqs⟩
    ·cases kn with
     | true =>
      refine' y8bcb
      (refine' ⟨(c - 1, qs, es, no, i7), _, _, _⟩; rotate_right; (refine SubA.auto rfl rfl rfl rfl ?_ ?_ <;> refine' fin_); rotate_right; exact ar2_)
      exact ⟨by omega, hq0, hql, hqs, by omega, hes, hi7⟩
     | false =>
      refine' y8bcb
      refine CallA.loc [] [] rfl rfl ((qPut_call no es (by omega) x).mono ?_)
      rintro _ _ ⟨⟨nb, fs, rfl, hf1, hf2⟩, rfl⟩
      refine' y8bcb
      (refine' ⟨(c - 1, qs, fs, nb, i7), _, _, _⟩; rotate_right; (refine SubA.auto rfl rfl rfl rfl ?_ ?_ <;> refine' fin_); rotate_right; exact ar2_)
      refine ⟨by omega, hq0, hql, hqs, by omega, fun y hy => ?_, hi7⟩
      rcases hf2 y hy with h1 | h1
      ·exact hes y h1
      ·rw [h1]; exact hx
  ·rw [decide_eq_false he] at hq
   (conv => whnf); repeat' ((first | (refine StrA.mk (by first | omega | (simp only [app_size]; omega)) ?_) | refine' z8bcb | fail) <;> (conv => whnf))
   refine CallA.loc [0] [] rfl rfl ((N_call nl ts _ (by assumption) 25 (by omega)).mono ?_)
   rintro _ _ ⟨z, i7, hz, hz2, hi7, rfl, rfl⟩
   by_cases h24 : z = 24
   ·refine' y8bcb
    refine loop_rule (fun (⟨d, kn, x, qs⟩ : Nat × Bool × Ed × List ByteArray) => ⟨[(0, .ptr 0 0), (6, .ptr 1 0), (7, .ptr 2 0), (8, .buf 3), (10, .p (pI c)), (12, .ptr 4 0), (13, .p (pB kn)), (86, .p (.list no (es.map Ed.pv))), (87, .p (pI es.length)), (88, .p (pI d))], [some (.cells [.p (.list nl (ts.map pI)), .p (pI i7)]), some (.cells [.p (pS ⟨#[]⟩), .p (.list true [])]), some (.cells [.p (pS nm), .p (.list no (es.map Ed.pv))]), some (AO.buf 9 false (qs.map pS)), some (.cells [.p (pI x.k), .p (pS x.p), .p (pS x.n), .p (pS x.v)])]⟩) (fun ⟨d, kn, x, qs⟩ => d <= es.length /\ SmE x /\ 0 < qs.length /\ qs.length + (c - 1) <= 2000 /\ ∀ s ∈ qs, (s.size : Int) + 200 * (c - 1) <= 6200) (fun ⟨d, kn, x, qs⟩ => es.length - d) (0, false, ⟨1, ⟨#[47, 109, 105, 115, 115, 105, 110, 103]⟩, ⟨#[]⟩, ⟨#[]⟩⟩, ps ++ [(p ++ ⟨#[47]⟩ ++ n1)]) ?_ ?_ ?_; (refine SubA.auto rfl rfl rfl rfl ?_ ?_ <;> refine' fin_)
    ·refine ⟨by omega, ⟨?_, ?_⟩, ?_⟩
     ·first | omega | (simp only [app_size]; omega)
     ·first | omega | (simp only [app_size]; omega)
     ·first | exact hps' | exact hadd _ (by simp only [app_size]; omega)
    rintro ⟨d, kn, x, qs⟩ ⟨hd, hx, hq0, hql, hqs⟩
    try simp only at hd hx hq0 hql hqs
    rcases Nat.lt_or_ge d es.length with hdl | hdg
    ·refine' y8bcb
     all_goals
      (refine' ⟨(d + 1, _, x, qs), _, _, _⟩; rotate_right; (refine SubA.auto rfl rfl rfl rfl ?_ ?_ <;> refine' fin_); rotate_right; exact ar2_)
      exact ⟨by omega, hx, hq0, hql, hqs⟩
    ·cases kn with
     | true =>
      refine' y8bcb
      (refine' ⟨(c - 1, qs, es, no, i7), _, _, _⟩; rotate_right; (refine SubA.auto rfl rfl rfl rfl ?_ ?_ <;> refine' fin_); rotate_right; exact ar2_)
      exact ⟨by omega, hq0, hql, hqs, by omega, hes, hi7⟩
     | false =>
      refine' y8bcb
      refine CallA.loc [] [] rfl rfl ((qPut_call no es (by omega) x).mono ?_)
      rintro _ _ ⟨⟨nb, fs, rfl, hf1, hf2⟩, rfl⟩
      refine' y8bcb
      (refine' ⟨(c - 1, qs, fs, nb, i7), _, _, _⟩; rotate_right; (refine SubA.auto rfl rfl rfl rfl ?_ ?_ <;> refine' fin_); rotate_right; exact ar2_)
      refine ⟨by omega, hq0, hql, hqs, by omega, fun y hy => ?_, hi7⟩
      rcases hf2 y hy with h1 | h1
      ·exact hes y h1
      ·rw [h1]; exact hx
   ·refine' y8bcb
    refine loop_rule (fun (⟨d, kn, x, qs⟩ : Nat × Bool × Ed × List ByteArray) => ⟨[(0, .ptr 0 0), (6, .ptr 1 0), (7, .ptr 2 0), (8, .buf 3), (10, .p (pI c)), (12, .ptr 4 0), (13, .p (pB kn)), (86, .p (.list no (es.map Ed.pv))), (87, .p (pI es.length)), (88, .p (pI d))], [some (.cells [.p (.list nl (ts.map pI)), .p (pI i7)]), some (.cells [.p (pS ⟨#[]⟩), .p (.list true [])]), some (.cells [.p (pS nm), .p (.list no (es.map Ed.pv))]), some (AO.buf 9 false (qs.map pS)), some (.cells [.p (pI x.k), .p (pS x.p), .p (pS x.n), .p (pS x.v)])]⟩) (fun ⟨d, kn, x, qs⟩ => d <= es.length /\ SmE x /\ 0 < qs.length /\ qs.length + (c - 1) <= 2000 /\ ∀ s ∈ qs, (s.size : Int) + 200 * (c - 1) <= 6200) (fun ⟨d, kn, x, qs⟩ => es.length - d) (0, false, ⟨1, (p ++ ⟨#[47]⟩ ++ n1), ⟨#[]⟩, ⟨#[]⟩⟩, ps ++ [(p ++ ⟨#[47]⟩ ++ n1)]) ?_ ?_ ?_; (refine SubA.auto rfl rfl rfl rfl ?_ ?_ <;> refine' fin_)
    ·refine ⟨by omega, ⟨?_, ?_⟩, ?_⟩
     ·first | omega | (simp only [app_size]; omega)
     ·first | omega | (simp only [app_size]; omega)
     ·first | exact hps' | exact hadd _ (by simp only [app_size]; omega)
    rintro ⟨d, kn, x, qs⟩ ⟨hd, hx, hq0, hql, hqs⟩
    try simp only at hd hx hq0 hql hqs
    rcases Nat.lt_or_ge d es.length with hdl | hdg
    ·refine' y8bcb
     all_goals
      (refine' ⟨(d + 1, _, x, qs), _, _, _⟩; rotate_right; (refine SubA.auto rfl rfl rfl rfl ?_ ?_ <;> refine' fin_); rotate_right; exact ar2_)
      exact ⟨by omega, hx, hq0, hql, hqs⟩
    ·cases kn with
     | true =>
      refine' y8bcb
      (refine' ⟨(c - 1, qs, es, no, i7), _, _, _⟩; rotate_right; (refine SubA.auto rfl rfl rfl rfl ?_ ?_ <;> refine' fin_); rotate_right; exact ar2_)
      exact ⟨by omega, hq0, hql, hqs, by omega, hes, hi7⟩
     | false =>
      refine' y8bcb
      refine CallA.loc [] [] rfl rfl ((qPut_call no es (by omega) x).mono ?_)
      rintro _ _ ⟨⟨nb, fs, rfl, hf1, hf2⟩, rfl⟩
      refine' y8bcb
      (refine' ⟨(c - 1, qs, fs, nb, i7), _, _, _⟩; rotate_right; (refine SubA.auto rfl rfl rfl rfl ?_ ?_ <;> refine' fin_); rotate_right; exact ar2_)
      refine ⟨by omega, hq0, hql, hqs, by omega, fun y hy => ?_, hi7⟩
      rcases hf2 y hy with h1 | h1
      ·exact hes y h1
      ·rw [h1]; exact hx
 by_cases hk2 : kd = 2
 ·subst hk2
  refine' y8bcb
  refine CallA.loc [0] [] rfl rfl ((Property_tape nl ts i4 hi4).mono ?_)
  rintro _ _ ⟨n1, i5, hn1, hi5, rfl, rfl⟩
  refine' y8bcb
  refine CallA.loc [0] [] rfl rfl ((Value_tape nl ts i5 hi5).mono ?_)
  rintro _ _ ⟨v1, i6, hi6, rfl, rfl⟩
  refine' y8bcb
  refine CallA.loc [0] [] rfl rfl ((N_call nl ts _ (by assumption) 25 (by omega)).mono ?_)
  rintro _ _ ⟨z, i7, hz, hz2, hi7, rfl, rfl⟩
  by_cases h24 : z = 24
  ·refine' y8bcb
   refine loop_rule (fun (⟨d, kn, x, qs⟩ : Nat × Bool × Ed × List ByteArray) => ⟨[(0, .ptr 0 0), (6, .ptr 1 0), (7, .ptr 2 0), (8, .buf 3), (10, .p (pI c)), (12, .ptr 4 0), (13, .p (pB kn)), (86, .p (.list no (es.map Ed.pv))), (87, .p (pI es.length)), (88, .p (pI d))], [some (.cells [.p (.list nl (ts.map pI)), .p (pI i7)]), some (.cells [.p (pS ⟨#[]⟩), .p (.list true [])]), some (.cells [.p (pS nm), .p (.list no (es.map Ed.pv))]), some (AO.buf 9 false (qs.map pS)), some (.cells [.p (pI x.k), .p (pS x.p), .p (pS x.n), .p (pS x.v)])]⟩) (fun ⟨d, kn, x, qs⟩ => d <= es.length /\ SmE x /\ 0 < qs.length /\ qs.length + (c - 1) <= 2000 /\ ∀ s ∈ qs, (s.size : Int) + 200 * (c - 1) <= 6200) (fun ⟨d, kn, x, qs⟩ => es.length - d) (0, false, ⟨2, ⟨#[47, 109, 105, 115, 115, 105, 110, 103]⟩, n1, v1⟩, ps) ?_ ?_ ?_; (refine SubA.auto rfl rfl rfl rfl ?_ ?_ <;> refine' fin_)
   ·refine ⟨by omega, ⟨?_, ?_⟩, ?_⟩
    ·first | omega | (simp only [app_size]; omega)
    ·first | omega | (simp only [app_size]; omega)
    ·first | exact hps' | exact hadd _ (by simp only [app_size]; omega)
   rintro ⟨d, kn, x, qs⟩ ⟨hd, hx, hq0, hql, hqs⟩
   try simp only at hd hx hq0 hql hqs
   rcases Nat.lt_or_ge d es.length with hdl | hdg
   ·refine' y8bcb
    all_goals
     (refine' ⟨(d + 1, _, x, qs), _, _, _⟩; rotate_right; (refine SubA.auto rfl rfl rfl rfl ?_ ?_ <;> refine' fin_); rotate_right; exact ar2_)
     exact ⟨by omega, hx, hq0, hql, hqs⟩
   ·cases kn with
    | true =>
     refine' y8bcb
     (refine' ⟨(c - 1, qs, es, no, i7), _, _, _⟩; rotate_right; (refine SubA.auto rfl rfl rfl rfl ?_ ?_ <;> refine' fin_); rotate_right; exact ar2_)
     exact ⟨by omega, hq0, hql, hqs, by omega, hes, hi7⟩
    | false =>
     refine' y8bcb
     refine CallA.loc [] [] rfl rfl ((qPut_call no es (by omega) x).mono ?_)
     rintro _ _ ⟨⟨nb, fs, rfl, hf1, hf2⟩, rfl⟩
     refine' y8bcb
     (refine' ⟨(c - 1, qs, fs, nb, i7), _, _, _⟩; rotate_right; (refine SubA.auto rfl rfl rfl rfl ?_ ?_ <;> refine' fin_); rotate_right; exact ar2_)
     refine ⟨by omega, hq0, hql, hqs, by omega, fun y hy => ?_, hi7⟩
     rcases hf2 y hy with h1 | h1
     ·exact hes y h1
     ·rw [h1]; exact hx
  ·refine' y8bcb
   refine loop_rule (fun (⟨d, kn, x, qs⟩ : Nat × Bool × Ed × List ByteArray) => ⟨[(0, .ptr 0 0), (6, .ptr 1 0), (7, .ptr 2 0), (8, .buf 3), (10, .p (pI c)), (12, .ptr 4 0), (13, .p (pB kn)), (86, .p (.list no (es.map Ed.pv))), (87, .p (pI es.length)), (88, .p (pI d))], [some (.cells [.p (.list nl (ts.map pI)), .p (pI i7)]), some (.cells [.p (pS ⟨#[]⟩), .p (.list true [])]), some (.cells [.p (pS nm), .p (.list no (es.map Ed.pv))]), some (AO.buf 9 false (qs.map pS)), some (.cells [.p (pI x.k), .p (pS x.p), .p (pS x.n), .p (pS x.v)])]⟩) (fun ⟨d, kn, x, qs⟩ => d <= es.length /\ SmE x /\ 0 < qs.length /\ qs.length + (c - 1) <= 2000 /\ ∀ s ∈ qs, (s.size : Int) + 200 * (c - 1) <= 6200) (fun ⟨d, kn, x, qs⟩ => es.length - d) (0, false, ⟨2, p, n1, v1⟩, ps) ?_ ?_ ?_; (refine SubA.auto rfl rfl rfl rfl ?_ ?_ <;> refine' fin_)
   ·refine ⟨by omega, ⟨?_, ?_⟩, ?_⟩
    ·first | omega | (simp only [app_size]; omega)
    ·first | omega | (simp only [app_size]; omega)
    ·first | exact hps' | exact hadd _ (by simp only [app_size]; omega)
   rintro ⟨d, kn, x, qs⟩ ⟨hd, hx, hq0, hql, hqs⟩
   try simp only at hd hx hq0 hql hqs
   rcases Nat.lt_or_ge d es.length with hdl | hdg
   ·refine' y8bcb
    all_goals
     (refine' ⟨(d + 1, _, x, qs), _, _, _⟩; rotate_right; (refine SubA.auto rfl rfl rfl rfl ?_ ?_ <;> refine' fin_); rotate_right; exact ar2_)
     exact ⟨by omega, hx, hq0, hql, hqs⟩
   ·cases kn with
    | true =>
     refine' y8bcb
     (refine' ⟨(c - 1, qs, es, no, i7), _, _, _⟩; rotate_right; (refine SubA.auto rfl rfl rfl rfl ?_ ?_ <;> refine' fin_); rotate_right; exact ar2_)
     exact ⟨by omega, hq0, hql, hqs, by omega, hes, hi7⟩
    | false =>
     refine' y8bcb
     refine CallA.loc [] [] rfl rfl ((qPut_call no es (by omega) x).mono ?_)
     rintro _ _ ⟨⟨nb, fs, rfl, hf1, hf2⟩, rfl⟩
     refine' y8bcb
     (refine' ⟨(c - 1, qs, fs, nb, i7), _, _, _⟩; rotate_right; (refine SubA.auto rfl rfl rfl rfl ?_ ?_ <;> refine' fin_); rotate_right; exact ar2_)
     refine ⟨by omega, hq0, hql, hqs, by omega, fun y hy => ?_, hi7⟩
     rcases hf2 y hy with h1 | h1
     ·exact hes y h1
     ·rw [h1]; exact hx
 ·refine' y8bcb
  refine CallA.loc [0] [] rfl rfl ((Property_tape nl ts i4 hi4).mono ?_)
  rintro _ _ ⟨n1, i5, hn1, hi5, rfl, rfl⟩
  refine' y8bcb
  refine CallA.loc [0] [] rfl rfl ((N_call nl ts _ (by assumption) 25 (by omega)).mono ?_)
  rintro _ _ ⟨z, i7, hz, hz2, hi7, rfl, rfl⟩
  by_cases h24 : z = 24
  ·refine' y8bcb
   refine loop_rule (fun (⟨d, kn, x, qs⟩ : Nat × Bool × Ed × List ByteArray) => ⟨[(0, .ptr 0 0), (6, .ptr 1 0), (7, .ptr 2 0), (8, .buf 3), (10, .p (pI c)), (12, .ptr 4 0), (13, .p (pB kn)), (86, .p (.list no (es.map Ed.pv))), (87, .p (pI es.length)), (88, .p (pI d))], [some (.cells [.p (.list nl (ts.map pI)), .p (pI i7)]), some (.cells [.p (pS ⟨#[]⟩), .p (.list true [])]), some (.cells [.p (pS nm), .p (.list no (es.map Ed.pv))]), some (AO.buf 9 false (qs.map pS)), some (.cells [.p (pI x.k), .p (pS x.p), .p (pS x.n), .p (pS x.v)])]⟩) (fun ⟨d, kn, x, qs⟩ => d <= es.length /\ SmE x /\ 0 < qs.length /\ qs.length + (c - 1) <= 2000 /\ ∀ s ∈ qs, (s.size : Int) + 200 * (c - 1) <= 6200) (fun ⟨d, kn, x, qs⟩ => es.length - d) (0, false, ⟨kd, ⟨#[47, 109, 105, 115, 115, 105, 110, 103]⟩, n1, ⟨#[]⟩⟩, ps) ?_ ?_ ?_; (refine SubA.auto rfl rfl rfl rfl ?_ ?_ <;> refine' fin_)
   ·refine ⟨by omega, ⟨?_, ?_⟩, ?_⟩
    ·first | omega | (simp only [app_size]; omega)
    ·first | omega | (simp only [app_size]; omega)
    ·first | exact hps' | exact hadd _ (by simp only [app_size]; omega)
   rintro ⟨d, kn, x, qs⟩ ⟨hd, hx, hq0, hql, hqs⟩
   try simp only at hd hx hq0 hql hqs
   rcases Nat.lt_or_ge d es.length with hdl | hdg
   ·refine' y8bcb
    all_goals
     (refine' ⟨(d + 1, _, x, qs), _, _, _⟩; rotate_right; (refine SubA.auto rfl rfl rfl rfl ?_ ?_ <;> refine' fin_); rotate_right; exact ar2_)
     exact ⟨by omega, hx, hq0, hql, hqs⟩
   ·cases kn with
    | true =>
     refine' y8bcb
     (refine' ⟨(c - 1, qs, es, no, i7), _, _, _⟩; rotate_right; (refine SubA.auto rfl rfl rfl rfl ?_ ?_ <;> refine' fin_); rotate_right; exact ar2_)
     exact ⟨by omega, hq0, hql, hqs, by omega, hes, hi7⟩
    | false =>
     refine' y8bcb
     refine CallA.loc [] [] rfl rfl ((qPut_call no es (by omega) x).mono ?_)
     rintro _ _ ⟨⟨nb, fs, rfl, hf1, hf2⟩, rfl⟩
     refine' y8bcb
     (refine' ⟨(c - 1, qs, fs, nb, i7), _, _, _⟩; rotate_right; (refine SubA.auto rfl rfl rfl rfl ?_ ?_ <;> refine' fin_); rotate_right; exact ar2_)
     refine ⟨by omega, hq0, hql, hqs, by omega, fun y hy => ?_, hi7⟩
     rcases hf2 y hy with h1 | h1
     ·exact hes y h1
     ·rw [h1]; exact hx
  ·refine' y8bcb
   refine loop_rule (fun (⟨d, kn, x, qs⟩ : Nat × Bool × Ed × List ByteArray) => ⟨[(0, .ptr 0 0), (6, .ptr 1 0), (7, .ptr 2 0), (8, .buf 3), (10, .p (pI c)), (12, .ptr 4 0), (13, .p (pB kn)), (86, .p (.list no (es.map Ed.pv))), (87, .p (pI es.length)), (88, .p (pI d))], [some (.cells [.p (.list nl (ts.map pI)), .p (pI i7)]), some (.cells [.p (pS ⟨#[]⟩), .p (.list true [])]), some (.cells [.p (pS nm), .p (.list no (es.map Ed.pv))]), some (AO.buf 9 false (qs.map pS)), some (.cells [.p (pI x.k), .p (pS x.p), .p (pS x.n), .p (pS x.v)])]⟩) (fun ⟨d, kn, x, qs⟩ => d <= es.length /\ SmE x /\ 0 < qs.length /\ qs.length + (c - 1) <= 2000 /\ ∀ s ∈ qs, (s.size : Int) + 200 * (c - 1) <= 6200) (fun ⟨d, kn, x, qs⟩ => es.length - d) (0, false, ⟨kd, p, n1, ⟨#[]⟩⟩, ps) ?_ ?_ ?_; (refine SubA.auto rfl rfl rfl rfl ?_ ?_ <;> refine' fin_)
   ·refine ⟨by omega, ⟨?_, ?_⟩, ?_⟩
    ·first | omega | (simp only [app_size]; omega)
    ·first | omega | (simp only [app_size]; omega)
    ·first | exact hps' | exact hadd _ (by simp only [app_size]; omega)
   rintro ⟨d, kn, x, qs⟩ ⟨hd, hx, hq0, hql, hqs⟩
   try simp only at hd hx hq0 hql hqs
   rcases Nat.lt_or_ge d es.length with hdl | hdg
   ·refine' y8bcb
    all_goals
     (refine' ⟨(d + 1, _, x, qs), _, _, _⟩; rotate_right; (refine SubA.auto rfl rfl rfl rfl ?_ ?_ <;> refine' fin_); rotate_right; exact ar2_)
     exact ⟨by omega, hx, hq0, hql, hqs⟩
   ·cases kn with
    | true =>
     refine' y8bcb
     (refine' ⟨(c - 1, qs, es, no, i7), _, _, _⟩; rotate_right; (refine SubA.auto rfl rfl rfl rfl ?_ ?_ <;> refine' fin_); rotate_right; exact ar2_)
     exact ⟨by omega, hq0, hql, hqs, by omega, hes, hi7⟩
    | false =>
     refine' y8bcb
     refine CallA.loc [] [] rfl rfl ((qPut_call no es (by omega) x).mono ?_)
     rintro _ _ ⟨⟨nb, fs, rfl, hf1, hf2⟩, rfl⟩
     refine' y8bcb
     (refine' ⟨(c - 1, qs, fs, nb, i7), _, _, _⟩; rotate_right; (refine SubA.auto rfl rfl rfl rfl ?_ ?_ <;> refine' fin_); rotate_right; exact ar2_)
     refine ⟨by omega, hq0, hql, hqs, by omega, fun y hy => ?_, hi7⟩
     rcases hf2 y hy with h1 | h1
     ·exact hes y h1
     ·rw [h1]; exact hx
open Go.Abs
set_option maxRecDepth 100000
def goASC0 : Sc := (.one 8 (.one 9 .done))
def goASC1 : Sc := (.one 7 (.one 9 .done))
def goASC2 : Sc := (.take 5 (.load 6 (.two 7 8 goASC0 goASC1)))
def goASC3 : Sc := (.one 2 (.take 5 (.load 6 (.one 7 (.one 9 .done)))))
def goASC4 : Sc := (.two 2 8 goASC2 goASC3)
def goASC5 : Sc := (.two 7 8 goASC0 goASC1)
def goASC6 : Sc := (.one 1 (.one 7 (.one 9 .done)))
def goASC7 : Sc := (.take 5 (.load 6 (.two 1 8 goASC5 goASC6)))
def goASC8 : Sc := (.take 5 (.load 6 (.one 1 (.one 7 (.one 9 .done)))))
def goASC9 : Sc := (.two 1 2 goASC3 goASC8)
def goA : Sc := (.take 0 (.take 3 (.take 4 (.three 1 2 8 goASC4 goASC7 goASC9))))
def TOs (nl : Bool) (ts : List Int) (r : AV) (H : AH) : Prop := ∃ (nb : Bool) (os : List Ov) (i' : Nat), os.length <= 5 /\ (∀ o ∈ os, Mo o) /\ i' <= ts.length /\ r = .p (.list nb (os.map Ov.pv)) /\ H = src nl ts i'
set_option maxHeartbeats 8000000 in
theorem gOverlays_call (nl : Bool) (ts : List Int) (i : Nat) (hi : i <= ts.length) (n2 : Bool) (ns : List Nd) (h : Mi ns) : ACall Tryz.prog 13 [.ptr 0 0, .p (.agg [.list n2 (ns.map Nd.pv)]), .p (pI 5)] (src nl ts i) fun r H => TOs nl ts r H := by
 refine acall_enter Tryz.func13 rfl rfl tabOK rfl ?_
 obtain ⟨nms, hnms, hl5⟩ : ∃ l : List ByteArray, l = [⟨#[99, 97, 112, 101]⟩, ⟨#[104, 97, 116]⟩, ⟨#[115, 104, 105, 101, 108, 100]⟩, ⟨#[119, 105, 110, 103]⟩, ⟨#[109, 101, 122, 122]⟩] /\ l.length = 5 := ⟨_, rfl, rfl⟩
 refine' y8bcb
 refine CallA.loc [0] [] rfl rfl ((N_call nl ts i hi 6 (by omega)).mono ?_)
 rintro r H ⟨v, i1, hv, hv2, hi1, rfl, rfl⟩
 refine' y8bcb
 refine loop_rule (fun (⟨c, ns, n2, os, nb, i2⟩ : Int × List Nd × Bool × List Ov × Bool × Nat) => ⟨[(0, .ptr 0 0), (7, .buf 2), (8, .ptr 1 0), (9, .p (pI c))], [some (.cells [.p (.list nl (ts.map pI)), .p (pI i2)]), some (.cells [.p (.list n2 (ns.map Nd.pv))]), some (AO.buf 33 nb (os.map Ov.pv))]⟩) (fun ⟨c, ns, n2, os, nb, i2⟩ => 0 <= c /\ os.length + c <= 5 /\ (∀ o ∈ os, Mo o) /\ Mi ns /\ i2 <= ts.length) (fun ⟨c, ns, n2, os, nb, i2⟩ => c.toNat) (v, ns, n2, [], true, i1) ?_ ?_ ?_; (refine SubA.auto1 (33, 7) rfl rfl rfl rfl rfl ?_ ?_ <;> refine' fin_)
 ·exact ⟨by omega, by simp; omega, fun o ho => (by cases ho), h, hi1⟩
 rintro ⟨c, ns, n2, os, nb, i2⟩ ⟨hc, hol, hos, hm, hi2⟩
 try simp only at hc hol hos hm hi2
 rcases Int.lt_or_le 0 c with hlt | hge
 rotate_left
 ·refine' y8bcb
  (refine RetK.frz _ _ _ [2] ?_; refine' RetK.auto (.p (.list nb (os.map Ov.pv))) (src nl ts i2) rfl rfl rfl rfl _ _ _ <;> refine' fin_)
  exact ⟨nb, os, i2, by omega, hos, hi2, rfl, rfl⟩
 (conv => whnf); repeat' ((first | refine' z668c | (apply DrawA.orders goA (by kernel_rfl) (by kernel_rfl) (by kernel_rfl)) | ((refine IsL.lit (f := pS) nms (by rw [hnms]; rfl) ?_)) | ((refine CallA.loc [0] [] rfl rfl ((gOverlay_call nl ts i2 hi2 n2 ns hm _).mono ?_); rintro _ _ ⟨o, i3, ho, hi3, rfl, rfl⟩))) <;> (conv => whnf))
 all_goals
  refine CallA.loc [] [] rfl rfl ((qApply_call n2 ns hm o ho).mono ?_)
  rintro _ _ ⟨⟨e, ix, ms, nb2, rfl, hm2⟩, rfl⟩
  have hos2 : ∀ x ∈ os ++ [o], Mo x := fun x hx => by
   rcases List.mem_append.1 hx with h1 | h1
   ·exact hos x h1
   ·rw [List.mem_singleton.1 h1]; exact ho
  by_cases h0 : e = 0
  ·subst h0
   refine' y8bcb
   refine CallA.loc [0] [] rfl rfl ((N_call nl ts i3 hi3 2 (by omega)).mono ?_)
   rintro r H ⟨w, i4, hw, hw2, hi4, rfl, rfl⟩
   by_cases hw0 : w = 0
   ·subst hw0
    refine' y8bcb
    (refine' ⟨(c - 1, ms, nb2, os ++ [o], _, i4), _, _, _⟩; rotate_right; (refine SubA.auto rfl rfl rfl rfl ?_ ?_ <;> refine' fin_); rotate_right; exact ar2_)
    exact ⟨by omega, by simp; omega, hos2, hm2, hi4⟩
   ·refine' y8bcb
    (refine' ⟨(c - 1, ns, n2, os ++ [o], _, i4), _, _, _⟩; rotate_right; (refine SubA.auto rfl rfl rfl rfl ?_ ?_ <;> refine' fin_); rotate_right; exact ar2_)
    exact ⟨by omega, by simp; omega, hos2, hm, hi4⟩
  ·refine' y8bcb
   (refine' ⟨(c - 1, ns, n2, os ++ [o], _, i3), _, _, _⟩; rotate_right; (refine SubA.auto rfl rfl rfl rfl ?_ ?_ <;> refine' fin_); rotate_right; exact ar2_)
   exact ⟨by omega, by simp; omega, hos2, hm, hi3⟩
open Go.Abs
set_option maxRecDepth 100000
def stK : Sc := (.frz 0 (.take 1 (.frz 2 (.one 3 (.one 4 (.take 5 .done))))))
theorem y668c {P : Prop} (h : P := by
 ((conv => whnf); repeat' ((first | apply CondA.plain | refine' gC | refine' gpI | refine' gpS | refine' gpN | refine' gpB | refine' gPrpv | refine' gNdpv | refine' gEdpv | refine' gOvpv | refine' gE | fail) <;> (conv => whnf))) <;> (solve_by_elim (newGoals := .nonDependentOnly) (symm := false) (exfalso := false) (transparency := .reducible) only [rfl, park_])) : P := h
theorem stacked_call (nl : Bool) (ts : List Int) (i : Nat) (hi : i <= ts.length) : ACall Tryz.prog 5 [.ptr 0 0] (src nl ts i) fun r H => ∃ (n2 nb : Bool) (ns : List Nd) (os : List Ov) (i' : Nat), Mi ns /\ os.length <= 5 /\ (∀ o ∈ os, Mo o) /\ r = .tup [.p (.agg [.list n2 (ns.map Nd.pv)]), .p (.list nb (os.map Ov.pv))] /\ H = src nl ts i' := by
 refine acall_enter Tryz.func5 rfl rfl tabOK rfl ?_
 refine' y8bcb
 refine CallA.loc [0] [] rfl rfl ((gTree_call nl ts i hi).mono ?_)
 rintro _ _ ⟨n2, ns, i1, hm, hi1, rfl, rfl⟩
 refine' y668c
 refine DrawA.retire 4 2 [.list n2 (ns.map Nd.pv)] rfl rfl ?_
 (conv => whnf); repeat' ((first | refine' z668c | (apply DrawA.orders stK (by kernel_rfl) (by kernel_rfl) (by kernel_rfl)) | ((refine CallA.loc [0] [] rfl rfl ((gOverlays_call nl ts i1 hi1 n2 ns hm).mono ?_); rintro _ _ ⟨nb, os, i2, ho1, ho2, hi2, rfl, rfl⟩))) <;> (conv => whnf))
 all_goals
  (refine' RetK.auto (.tup [.p (.agg [.list n2 (ns.map Nd.pv)]), .p (.list nb (os.map Ov.pv))]) (src nl ts i2) rfl rfl rfl rfl _ _ _ <;> refine' fin_)
  exact ⟨n2, nb, ns, os, i2, hm, ho1, ho2, rfl, rfl⟩
open Go.Abs
set_option maxRecDepth 100000
def pcs : List UInt8 -> List (List UInt8)
 | [] => [[]]
 | c :: r => match decide (c = 47) with
  | true => [] :: pcs r
  | false => match pcs r with
   | h :: t => (c :: h) :: t
   | [] => [[c]]
theorem pcs_len : ∀ l : List UInt8, (pcs l).length = l.count 47 + 1
 | [] => rfl
 | c :: r => by
  have ih := pcs_len r
  unfold pcs
  by_cases h : c = 47
  ·subst h
   simp [ih]
  ·rw [decide_eq_false h, List.count_cons_of_ne (by simpa using h)]
   show (match pcs r with | h :: t => (c :: h) :: t | [] => [[c]]).length = _
   cases hp : pcs r with
   | nil => rw [hp] at ih; simp at ih
   | cons a t => rw [hp] at ih; simpa using ih
theorem pcs_none : ∀ l : List UInt8, (47 : UInt8) ∉ l -> pcs l = [l]
 | [], _ => rfl
 | c :: r, h => by
  have h1 : c ≠ 47 := fun e => h (by rw [e]; simp)
  have ih := pcs_none r fun hm => h (List.mem_cons_of_mem _ hm)
  unfold pcs
  rw [decide_eq_false h1, ih]
theorem pcs_cut : ∀ (l : List UInt8) (m : Nat), Lib.indexByte l 47 = m -> pcs l = l.take m :: pcs (l.drop (m + 1))
 | [], m, h => by
  have : (-1 : Int) = m := h
  omega
 | c :: r, m, h => by
  have hI : Lib.indexByte (c :: r) 47 = if c == 47 then 0 else if Lib.indexByte r 47 == -1 then -1 else Lib.indexByte r 47 + 1 := rfl
  rw [hI] at h
  by_cases hc : c = 47
  ·subst hc
   have : (0 : Int) = m := by simpa using h
   obtain rfl : m = 0 := by omega
   simp [pcs]
  ·have h1 : (c == 47) = false := by simpa using hc
   rw [h1] at h
   simp only [Bool.false_eq_true, if_false] at h
   by_cases h3 : Lib.indexByte r 47 = -1
   ·rw [h3] at h
    simp at h
   ·have h4 : (Lib.indexByte r 47 == -1) = false := by simpa using h3
    rw [h4] at h
    simp only [Bool.false_eq_true, if_false] at h
    obtain ⟨k, rfl⟩ : ∃ k, m = k + 1 := by
     have := (indexByte_spec 47 r).2
     exact ⟨m - 1, by omega⟩
    have ih := pcs_cut r k (by omega)
    rw [List.take_succ_cons, List.drop_succ_cons]
    conv => lhs; unfold pcs
    rw [decide_eq_false hc, ih]
def baL (l : List UInt8) : ByteArray := ⟨l.toArray⟩
theorem baL_list (l : List UInt8) : (baL l).data.toList = l := rfl
theorem baL_self (s : ByteArray) : baL s.data.toList = s := ba_ext rfl
theorem ba_size (s : ByteArray) : s.size = s.data.toList.length := by rw [Array.length_toList]; rfl
def pcB (s : ByteArray) : List ByteArray := (pcs s.data.toList).map baL
theorem pcB_len (s : ByteArray) : (pcB s).length = s.data.toList.count 47 + 1 := by rw [pcB, List.length_map, pcs_len]
theorem pcB_one {s : ByteArray} (h : (pcB s).length = 1) : pcB s = [s] := by
 rw [pcB_len] at h
 rw [pcB, pcs_none _ (List.count_eq_zero.1 (by omega))]
 show [baL s.data.toList] = [s]
 rw [baL_self]
theorem pcB_cut {s : ByteArray} {m : Nat} (h : Lib.indexByte s.data.toList 47 = m) : pcB s = s.extract 0 m :: pcB (s.extract (m + 1) s.size) := by
 rw [pcB, pcs_cut _ _ h, List.map_cons, pcB]
 have e1 : baL (s.data.toList.take m) = s.extract 0 m := ba_ext (by rw [baL_list, ByteArray.data_extract, Array.toList_extract]; simp)
 have e2 : s.data.toList.drop (m + 1) = (s.extract (m + 1) s.size).data.toList := by
  rw [ByteArray.data_extract, Array.toList_extract]
  rw [show s.data.toList.extract (m + 1) s.size = (s.data.toList.drop (m + 1)).take (s.size - (m + 1)) from rfl, List.take_of_length_le]
  rw [List.length_drop, ba_size]
  omega
 rw [e1, e2]
theorem pcB_more {s : ByteArray} (h : 2 <= (pcB s).length) : ∃ m : Nat, Lib.indexByte s.data.toList 47 = m /\ m < s.size := by
 rw [pcB_len] at h
 have hm : (47 : UInt8) ∈ s.data.toList := List.count_pos_iff.1 (by omega)
 have h0 := (indexByte_spec 47 s.data.toList).1.2 hm
 refine ⟨(Lib.indexByte s.data.toList 47).toNat, by omega, ?_⟩
 have key : ∀ l : List UInt8, Lib.indexByte l 47 < l.length \/ Lib.indexByte l 47 = -1 := by
  intro l
  induction l with
  | nil => exact .inr rfl
  | cons c r ih =>
   have hI : Lib.indexByte (c :: r) 47 = if c == 47 then 0 else if Lib.indexByte r 47 == -1 then -1 else Lib.indexByte r 47 + 1 := rfl
   rw [hI]
   split
   ·left; simp
   ·split
    ·exact .inr rfl
    ·rename_i h1 h2
     simp at h2
     left
     simp
     omega
 have h2 := key s.data.toList
 have := ba_size s
 omega
theorem y99f8 {P : Prop} (h : P := by
 ((conv => whnf); repeat' ((first | apply CondA.plain | refine' gC | refine' gpI | refine' gpS | refine' gpN | refine' gpB | refine' gE | (apply DrawA.quiet (by kernel_rfl) (by kernel_rfl); (conv => whnf); fail_if_success (show False))) <;> (conv => whnf))) <;> (solve_by_elim (newGoals := .nonDependentOnly) (symm := false) (exfalso := false) (transparency := .reducible) only [rfl, park_])) : P := h
theorem z99f8 {P : Prop} (h : P := by
 ((first | apply CondA.plain | refine' gC | refine' gpI | refine' gpS | refine' gpN | refine' gpB | refine' gE | (apply DrawA.quiet (by kernel_rfl) (by kernel_rfl); (conv => whnf); fail_if_success (show False))) <;> (conv => whnf)) <;> (solve_by_elim (newGoals := .nonDependentOnly) (symm := false) (exfalso := false) (transparency := .reducible) only [rfl, park_])) : P := h
theorem Count_call (s : ByteArray) : ACall Tryz.prog 226 [.p (pS s), .p (pS slS)] [] fun r H => r = .p (pI (s.data.toList.count 47 : Nat)) /\ H = [] := by
 refine acall_enter Tryz.func226 rfl rfl tabOK rfl ?_
 (conv => whnf); repeat' ((first | (refine ⟨47, Int.le_refl 0, rfl, ?_⟩) | refine' z99f8 | fail) <;> (conv => whnf))
 refine CallA.ext _ (ExtA.count Tryz.func243 (by kernel_rfl) (by kernel_rfl) (by kernel_rfl) (by kernel_rfl) s 47) ?_
 refine' y99f8
 (refine RetK.p ?_ <;> refine' fin_; all_goals try first | refine pBEq ?_ | refine pIEq ?_)
theorem fill_set {P : List ByteArray} {K i : Nat} {x : ByteArray} {r : List ByteArray} (hl : P.length = K + 1) (hi : i <= K) (hd : P.drop i = x :: r) : (P.take i ++ List.replicate (K + 1 - i) ByteArray.empty).set i x = P.take (i + 1) ++ List.replicate (K + 1 - (i + 1)) ByteArray.empty := by
 have h1 : (P.take i).length = i := by simp; omega
 have h2 : P.take (i + 1) = P.take i ++ [x] := by
  rw [List.take_succ_eq_append_getElem (by omega)]
  have : P[i]'(by omega) = x := by
   have := List.drop_eq_getElem_cons (l := P) (i := i) (by omega)
   rw [hd] at this
   exact ((List.cons.inj this).1).symm
  rw [this]
 rw [List.set_append_right _ _ (by omega), h1, Nat.sub_self, show K + 1 - i = (K - i) + 1 by omega, List.replicate_succ, List.set_cons_zero, h2, show K + 1 - (i + 1) = K - i by omega]
 simp
theorem drop_next {P : List ByteArray} {i : Nat} {x : ByteArray} {r : List ByteArray} (hd : P.drop i = x :: r) : P.drop (i + 1) = r := by
 rw [<- List.drop_drop, hd]; rfl
theorem genSplit_call (s : ByteArray) (hs : s.size <= 10000000) : ACall Tryz.prog 193 [.p (pS s), .p (pS slS), .p (pI 0), .p (pI (-1))] [] fun r H => r = .p (.list false ((pcB s).map pS)) /\ H = [] := by
 refine acall_enter Tryz.func193 rfl rfl tabOK rfl ?_
 have hlen := pcB_len s
 have hcnt : s.data.toList.count 47 <= s.size := by rw [ba_size]; exact List.count_le_length
 have h1s : slS.size = 1 := rfl
 have hne := seqS slS ByteArray.empty
 rw [decide_eq_false (by decide)] at hne
 (conv => whnf); repeat' ((first | refine' z99f8 | (refine CallA.scalar (Count_call s) ?_)) <;> (conv => whnf))
 generalize hK : s.data.toList.count 47 = K at hlen hcnt ⊢
 refine loop_rule (fun (⟨i, t⟩ : Nat × ByteArray) => ⟨[(0, .p (pS t)), (1, .p (pS slS)), (2, .p (pI 0)), (3, .p (pI K)), (9, .buf 0), (10, .p (pI i))], [some (AO.buf 9 false (((pcB s).take i ++ List.replicate (K + 1 - i) ByteArray.empty).map pS))]⟩) (fun ⟨i, t⟩ => i <= K /\ t.size <= s.size /\ (pcB s).drop i = pcB t) (fun ⟨i, t⟩ => K - i) (0, s) ?_ ?_ ?_; (refine SubA.auto rfl rfl rfl rfl ?_ ?_ <;> refine' fin_)
 ·rw [if_neg (by omega), show ((K : Int) + 1).toNat = K + 1 by omega]
  rfl
 ·exact ⟨by omega, by omega, rfl⟩
 rintro ⟨i, t⟩ ⟨hi, ht, hd⟩
 try simp only at hi ht hd
 have hdl : (pcB t).length = K + 1 - i := by rw [<- hd, List.length_drop, hlen]
 have hcl : ((pcB s).take i ++ List.replicate (K + 1 - i) ByteArray.empty).length = K + 1 := by simp; omega
 rcases Nat.lt_or_ge i K with hlt | hge
 ·obtain ⟨m, hm, hmt⟩ := pcB_more (s := t) (by omega)
  have hI : ACall Tryz.prog 188 [.p (pS t), .p (pS slS)] [] fun r H => r = .p (pI m) /\ H = [] := by
   have := index_call t 47
   rw [hm] at this
   exact this
  have hc := pcB_cut hm
  rw [hc] at hd
  have hfs := fill_set hlen hi hd
  (conv => whnf); repeat' ((first | refine' z99f8 | (refine CallA.scalar (hI) ?_)) <;> (conv => whnf))
  (refine' ⟨(i + 1, _), _, _, _⟩; rotate_right; (refine SubA.auto rfl rfl rfl rfl ?_ ?_ <;> refine' fin_); rotate_right; exact ar2_)
  ·exact hfs
  ·refine ⟨by omega, ?_, ?_⟩
   ·have : (t.extract (m + 1) t.size).size <= s.size := by rw [ByteArray.size_extract]; omega
    exact this
   ·exact drop_next hd
 ·obtain rfl : i = K := by omega
  have hc := pcB_one (s := t) (by omega)
  rw [hc] at hd
  have hfs := fill_set hlen hi hd
  rw [List.take_of_length_le (i := i + 1) (by omega), Nat.sub_self, List.replicate_zero, List.append_nil] at hfs
  have e2 : List.drop (Int.toNat 0) (List.take ((i : Int) + 1).toNat (List.map pS (pcB s))) = List.map pS (pcB s) := by
   rw [List.take_of_length_le (by rw [List.length_map]; omega)]
   rfl
  refine' y99f8
  refine RetK.subz _ 0 _ _ _ _ _ _ rfl ?_
  rw [hfs]
  dsimp only [Option.getD]
  rw [e2]
  (refine' RetK.auto (.p (.list false ((pcB s).map pS))) ([]) rfl rfl rfl rfl _ _ _ <;> refine' fin_)
theorem Split_call (s : ByteArray) (hs : s.size <= 10000000) : ACall Tryz.prog 144 [.p (pS s), .p (pS slS)] [] fun r H => r = .p (.list false ((pcB s).map pS)) /\ H = [] := by
 refine acall_enter Tryz.func144 rfl rfl tabOK rfl ?_
 refine' y99f8
 refine CallA.loc [] [] rfl rfl ((genSplit_call s hs).mono ?_)
 rintro _ _ ⟨rfl, rfl⟩
 refine' y99f8
 (refine' RetK.auto (.p (.list false ((pcB s).map pS))) ([]) rfl rfl rfl rfl _ _ _ <;> refine' fin_)
open Go.Abs
set_option maxRecDepth 100000
def LastI (s : ByteArray) (v : Int) : Prop := (v = -1 /\ ∀ i, i < s.size -> bAt s i ≠ 47) \/ (0 <= v /\ v < s.size /\ bAt s v.toNat = 47 /\ ∀ i : Nat, v < i -> i < s.size -> bAt s i ≠ 47)
theorem LastB_call (s : ByteArray) (hs : s.size <= 10000000) : ACall Tryz.prog 146 [.p (pS s), .p (pU8 47)] [] fun r H => (∃ v : Int, r = .p (pI v) /\ LastI s v) /\ H = [] := by
 refine acall_enter Tryz.func146 rfl rfl tabOK rfl ?_
 refine' y99f8
 refine loop_rule (fun (i : Int) => ⟨[(0, .p (pS s)), (1, .p (pU8 47)), (5, .p (pI i))], []⟩) (fun i => -1 <= i /\ i < s.size /\ ∀ j : Nat, i < j -> j < s.size -> bAt s j ≠ 47) (fun i => (i + 1).toNat) ((s.size : Int) - 1) ?_ ?_ ?_; (refine SubA.auto rfl rfl rfl rfl ?_ ?_ <;> refine' fin_)
 ·exact ⟨by omega, by omega, fun j _ _ => by omega⟩
 rintro i ⟨hi1, hi2, hall⟩
 rcases Int.lt_or_le i 0 with h | h
 ·refine' y99f8
  (refine' RetK.auto (.p (pI (-1))) ([]) rfl rfl rfl rfl _ _ _ <;> refine' fin_)
  exact ⟨-1, rfl, .inl ⟨rfl, fun j hj => hall j (by omega) hj⟩⟩
 ·obtain ⟨k, rfl⟩ := Int.eq_ofNat_of_zero_le h
  obtain ⟨b, hb, hv⟩ := get_bAt (s := s) (i := k) (by omega)
  have hb1 : s[((k : Nat) : Int).toNat]? = some b := hb
  by_cases h47 : b.toNat = 47
  ·(conv => whnf); repeat' ((first | (refine ⟨b, h, hb1, ?_⟩) | refine' z99f8 | fail) <;> (conv => whnf))
   (refine' RetK.auto (.p (pI k)) ([]) rfl rfl rfl rfl _ _ _ <;> refine' fin_)
   exact ⟨k, rfl, .inr ⟨h, hi2, by rw [Int.toNat_natCast, <- hv]; exact h47, hall⟩⟩
  ·(conv => whnf); repeat' ((first | (refine ⟨b, h, hb1, ?_⟩) | refine' z99f8 | fail) <;> (conv => whnf))
   (refine' ⟨(k : Int) - 1, _, _, _⟩; rotate_right; (refine SubA.auto rfl rfl rfl rfl ?_ ?_ <;> refine' fin_); rotate_right; exact ar2_)
   refine ⟨by omega, by omega, fun j hj hjs => ?_⟩
   rcases Int.lt_or_le k j with h1 | h1
   ·exact hall j h1 hjs
   ·have : j = k := by omega
    subst this
    rw [<- hv]; exact h47
theorem Last_call (s : ByteArray) (hs : s.size <= 10000000) : ACall Tryz.prog 106 [.p (pS s), .p (pU8 47)] [] fun r H => (∃ v : Int, r = .p (pI v) /\ LastI s v) /\ H = [] := by
 refine acall_enter Tryz.func106 rfl rfl tabOK rfl ?_
 refine' y99f8
 refine CallA.loc [] [] rfl rfl ((LastB_call s hs).mono ?_)
 rintro _ _ ⟨⟨v, rfl, hv⟩, rfl⟩
 refine' y99f8
 (refine' RetK.auto (.p (pI v)) ([]) rfl rfl rfl rfl _ _ _ <;> refine' fin_)
 exact ⟨v, rfl, hv⟩
theorem bAt_list (s : ByteArray) (i : Nat) : bAt s i = (s.data.toList[i]?.getD 0).toNat := by
 unfold bAt
 rw [Array.getElem?_toList, Array.getD_eq_getD_getElem?]
theorem join_list (q n : ByteArray) : (q ++ (slS ++ n)).data.toList = q.data.toList ++ 47 :: n.data.toList := by
 simp only [app_list, slS_list, List.singleton_append]
theorem join_size (q n : ByteArray) : (q ++ (slS ++ n)).size = q.size + 1 + n.size := by
 rw [app_size, app_size]
 have : slS.size = 1 := rfl
 omega
theorem LastI.join {q n : ByteArray} (hn : NoSl n) {v : Int} (h : LastI (q ++ (slS ++ n)) v) : v = q.size := by
 have hsz := join_size q n
 have h47 : bAt (q ++ (slS ++ n)) q.size = 47 := by
  rw [bAt_list, join_list, ba_size q, List.getElem?_append_right (Nat.le_refl _), Nat.sub_self]
  rfl
 have hno : ∀ i, q.size < i -> i < (q ++ (slS ++ n)).size -> bAt (q ++ (slS ++ n)) i ≠ 47 := fun i h1 h2 h3 => by
  rw [bAt_list, join_list] at h3
  have hq := ba_size q
  have hnn := ba_size n
  rw [List.getElem?_append_right (by omega)] at h3
  obtain ⟨k, hk⟩ : ∃ k, i - q.data.toList.length = k + 1 := ⟨i - q.size - 1, by omega⟩
  rw [hk, List.getElem?_cons_succ, List.getElem?_eq_getElem (by omega)] at h3
  refine hn ?_
  have h5 : n.data.toList[k]'(by omega) = 47 := UInt8.toNat_inj.1 (by simpa using h3)
  rw [<- h5]
  exact List.getElem_mem _
 rcases h with ⟨_, h2⟩ | ⟨h1, h2, h3, h4⟩
 ·exact absurd h47 (h2 _ (by omega))
 ·rcases Int.lt_trichotomy v q.size with h5 | h5 | h5
  ·exact absurd h47 (h4 _ h5 (by omega))
  ·exact h5
  ·exact absurd h3 (hno _ (by omega) (by omega))
def parP (q : ByteArray) : ByteArray := match decide (q = ByteArray.empty) with
 | true => slS
 | false => q
theorem wSplit_call (q n : ByteArray) (hn : NoSl n) (hs : (q ++ (slS ++ n)).size <= 10000000) : ACall Tryz.prog 61 [.p (pS (q ++ (slS ++ n)))] [] fun r H => r = .tup [.p (pS (parP q)), .p (pS n)] /\ H = [] := by
 refine acall_enter Tryz.func61 rfl rfl tabOK rfl ?_
 have hsz := join_size q n
 have e2 : (q ++ (slS ++ n)).extract ((q.size : Int) + 1).toNat (q ++ (slS ++ n)).size = n := by
  rw [show ((q.size : Int) + 1).toNat = q.size + 1 by omega]
  refine ba_ext ?_
  rw [ByteArray.data_extract, Array.toList_extract, join_list, show (q.data.toList ++ 47 :: n.data.toList).extract (q.size + 1) (q ++ (slS ++ n)).size = ((q.data.toList ++ 47 :: n.data.toList).drop (q.size + 1)).take ((q ++ (slS ++ n)).size - (q.size + 1)) from rfl, ba_size q, List.drop_append, List.drop_eq_nil_of_le (by omega), Nat.add_sub_cancel_left]
  have := ba_size n
  have := ba_size q
  rw [List.drop_succ_cons, List.drop_zero, List.nil_append, List.take_of_length_le (by omega)]
 refine' y99f8
 refine CallA.loc [] [] rfl rfl ((Last_call _ hs).mono ?_)
 rintro _ _ ⟨⟨v, rfl, hv⟩, rfl⟩
 obtain rfl := hv.join hn
 have e1 : (q ++ (slS ++ n)).extract 0 (if q.size = 0 then 1 else q.size) = parP q := by
  refine ba_ext ?_
  have hb := ba_size q
  rw [ByteArray.data_extract, Array.toList_extract, join_list, show ∀ (l : List UInt8) (k : Nat), l.extract 0 k = l.take k from fun l k => rfl]
  by_cases hq : q.size = 0
  ·have : q = ByteArray.empty := ba_ext (List.eq_nil_of_length_eq_zero (by omega))
   subst this
   rfl
  ·have hne : q ≠ ByteArray.empty := fun e => hq (by rw [e]; rfl)
   rw [if_neg hq, parP, decide_eq_false hne]
   show _ = q.data.toList
   rw [List.take_append_of_le_length (by omega), List.take_of_length_le (by omega)]
 generalize q ++ (slS ++ n) = X at hs hsz e1 e2
 have e3 : X.extract (Int.toNat 0) (if (1 : Int) > (q.size : Int) then 1 else (q.size : Int)).toNat = parP q := by
  rw [<- e1]
  show X.extract 0 _ = X.extract 0 _
  congr 1
  split <;> split <;> omega
 refine' y99f8
 (refine' RetK.auto (.tup [.p (pS _), .p (pS _)]) ([]) rfl rfl rfl rfl _ _ _ <;> try refine' fin_)
 have key : ∀ {a b c d : ByteArray}, a = c -> b = d -> AV.tup [.p (pS a), .p (pS b)] = AV.tup [.p (pS c), .p (pS d)] := fun h1 h2 => by rw [h1, h2]
 exact key e3 e2
theorem cutP_call (s : ByteArray) : ACall Tryz.prog 191 [.p (pS s), .p (pS slS)] [] fun r H => r = .tup [.p (pS (if hdB s 47 then s.extract 1 s.size else s)), .p (pB (hdB s 47))] /\ H = [] := by
 refine acall_enter Tryz.func191 rfl rfl tabOK rfl ?_
 have hP : ACall Tryz.prog 175 [.p (pS s), .p (pS slS)] [] fun r H => r = .p (pB (hdB s 47)) /\ H = [] := hasPre_call s 47
 cases h : hdB s 47 with
 | true =>
  have h0 : 0 < s.size := (of_decide_eq_true h).1
  have h1 : slS.size = 1 := rfl
  rw [h] at hP
  (conv => whnf); repeat' ((first | refine' z99f8 | (refine CallA.scalar (hP) ?_)) <;> (conv => whnf))
  (refine' RetK.auto (.tup [.p (pS (s.extract 1 s.size)), .p (pB true)]) ([]) rfl rfl rfl rfl _ _ _ <;> refine' fin_)
 | false =>
  rw [h] at hP
  (conv => whnf); repeat' ((first | refine' z99f8 | (refine CallA.scalar (hP) ?_)) <;> (conv => whnf))
  (refine' RetK.auto (.tup [.p (pS s), .p (pB false)]) ([]) rfl rfl rfl rfl _ _ _ <;> refine' fin_)
theorem cut_call (s : ByteArray) : ACall Tryz.prog 142 [.p (pS s), .p (pS slS)] [] fun r H => r = .tup [.p (pS (if hdB s 47 then s.extract 1 s.size else s)), .p (pB (hdB s 47))] /\ H = [] := by
 refine acall_enter Tryz.func142 rfl rfl tabOK rfl ?_
 refine' y99f8
 refine CallA.loc [] [] rfl rfl ((cutP_call s).mono ?_)
 rintro _ _ ⟨rfl, rfl⟩
 refine' y99f8
 (refine' RetK.auto (.tup [.p (pS (if hdB s 47 then s.extract 1 s.size else s)), .p (pB (hdB s 47))]) ([]) rfl rfl rfl rfl _ _ _ <;> refine' fin_)
theorem bad_call (s : ByteArray) : ACall Tryz.prog 145 [.p (pS s)] [] fun r H => r = .p (pB (!nameOK s)) /\ H = [] := by
 refine acall_enter Tryz.func145 rfl rfl tabOK rfl ?_
 (conv => whnf); repeat' ((first | refine' z99f8 | (refine CallA.scalar (Name_call s) ?_)) <;> (conv => whnf))
 (refine' RetK.auto (.p (pB (!nameOK s))) ([]) rfl rfl rfl rfl _ _ _ <;> refine' fin_)
theorem badn_index  (nl : Bool) (xs : List _) : ACall Tryz.prog 192 [.p (.list nl (xs.map pS)), .clo (.func 145) []] [] fun r H => (∃ v : Int, r = .p (pI v) /\ (decide (0 <= v) = xs.any fun x => !nameOK x)) /\ H = [] := by
 refine acall_enter Tryz.func192 rfl rfl tabOK rfl ?_
 refine' y99f8
 refine loop_rule (fun (c : Nat) => ⟨[(0, .p (.list nl (xs.map pS))), (1, .clo (.func 145) []), (7, .p (pI xs.length)), (8, .p (pI c))], []⟩) (fun c => c <= xs.length /\ ∀ (k : Nat) (h : k < xs.length), k < c -> (!nameOK xs[k]) = false) (fun c => xs.length - c) 0 ?_ ?_ ?_; (refine SubA.auto rfl rfl rfl rfl ?_ ?_ <;> refine' fin_)
 ·exact ⟨by omega, by omega⟩
 rintro c ⟨hc, hok⟩
 rcases Nat.lt_or_ge c xs.length with hlt | hge
 ·refine' y99f8
  refine CallA.loc [] [] rfl rfl ((bad_call xs[c]).mono ?_)
  rintro r H ⟨rfl, rfl⟩
  cases hb : nameOK xs[c] with
  | false =>
   refine' y99f8
   (refine' RetK.auto (.p (pI c)) ([]) rfl rfl rfl rfl _ _ _ <;> refine' fin_)
   refine ⟨c, rfl, ?_⟩
   rw [List.any_eq_true.2 ⟨xs[c], List.getElem_mem _, by rw [hb]; rfl⟩]
   exact decide_eq_true (by omega)
  | true =>
   refine' y99f8
   (refine' ⟨c + 1, _, _, _⟩; rotate_right; (refine SubA.auto rfl rfl rfl rfl ?_ ?_ <;> refine' fin_); rotate_right; exact ar2_)
   exact ⟨by omega, all_succ hok fun _ => by rw [hb]; rfl⟩
 ·refine' y99f8
  (refine' RetK.auto (.p (pI (-1))) ([]) rfl rfl rfl rfl _ _ _ <;> refine' fin_)
  refine ⟨-1, rfl, ?_⟩
  rw [List.any_eq_false.2]
  ·rfl
  ·intro x hx
   obtain ⟨k, hk, rfl⟩ := List.getElem_of_mem hx
   exact Bool.eq_false_iff.1 (hok k hk (by omega))
theorem badn_contains  (nl : Bool) (xs : List _) : ACall Tryz.prog 143 [.p (.list nl (xs.map pS)), .clo (.func 145) []] [] fun r H => r = .p (pB (xs.any fun x => !nameOK x)) /\ H = [] := by
 refine acall_enter Tryz.func143 rfl rfl tabOK rfl ?_
 refine' y99f8
 refine CallA.all ((badn_index  nl xs).mono ?_)
 rintro r H ⟨⟨v, rfl, hv⟩, rfl⟩
 refine' y99f8
 (refine' RetK.auto (.p (pB (xs.any fun x => !nameOK x))) ([]) rfl rfl rfl rfl _ _ _ <;> refine' fin_)
 rw [<- hv]; rfl
def pathOK (s : ByteArray) : Bool := decide (s = slS) || hdB s 47 && !((pcB (s.extract 1 s.size)).any fun x => !nameOK x)
theorem opath_call (s : ByteArray) (hs : s.size <= 10000000) : ACall Tryz.prog 104 [.p (pS s)] [] fun r H => r = .p (pB (pathOK s)) /\ H = [] := by
 refine acall_enter Tryz.func104 rfl rfl tabOK rfl ?_
 have hC := cut_call s
 have hq := seqS s slS
 have e : pathOK s = (decide (s = slS) || hdB s 47 && !((pcB (s.extract 1 s.size)).any fun x => !nameOK x)) := rfl
 cases hd : hdB s 47 with
 | false =>
  rw [hd] at hC e
  rw [if_neg (by decide)] at hC
  by_cases he : s = slS
  ·rw [decide_eq_true he] at hq e
   refine' y99f8
   refine CallA.loc [] [] rfl rfl (hC.mono ?_)
   rintro _ _ ⟨rfl, rfl⟩
   refine' y99f8
   (refine' RetK.auto (.p (pB true)) ([]) rfl rfl rfl rfl _ _ _ <;> refine' fin_)
   rw [e]; rfl
  ·rw [decide_eq_false he] at hq e
   refine' y99f8
   refine CallA.loc [] [] rfl rfl (hC.mono ?_)
   rintro _ _ ⟨rfl, rfl⟩
   refine' y99f8
   (refine' RetK.auto (.p (pB false)) ([]) rfl rfl rfl rfl _ _ _ <;> refine' fin_)
   rw [e]; rfl
 | true =>
  rw [hd] at hC e
  rw [if_pos rfl] at hC
  have hsz : (s.extract 1 s.size).size <= 10000000 := by rw [ByteArray.size_extract]; omega
  have hS := Split_call _ hsz
  have hB := badn_contains false (pcB (s.extract 1 s.size))
  generalize s.extract 1 s.size = t at hC hS hB e
  generalize (pcB t).any (fun x => !nameOK x) = B at hB e
  by_cases he : s = slS
  ·rw [decide_eq_true he] at hq e
   refine' y99f8
   refine CallA.loc [] [] rfl rfl (hC.mono ?_)
   rintro _ _ ⟨rfl, rfl⟩
   refine' y99f8
   (refine' RetK.auto (.p (pB true)) ([]) rfl rfl rfl rfl _ _ _ <;> refine' fin_)
   rw [e]; rfl
  ·rw [decide_eq_false he] at hq e
   refine' y99f8
   refine CallA.loc [] [] rfl rfl (hC.mono ?_)
   rintro _ _ ⟨rfl, rfl⟩
   refine' y99f8
   refine CallA.loc [] [] rfl rfl (hS.mono ?_)
   rintro _ _ ⟨rfl, rfl⟩
   refine' y99f8
   refine CallA.loc [] [] rfl rfl (hB.mono ?_)
   rintro _ _ ⟨rfl, rfl⟩
   refine' y99f8
   (refine' RetK.auto (.p (pB (!B))) ([]) rfl rfl rfl rfl _ _ _ <;> refine' fin_)
   rw [e]; rfl
open Go.Abs
set_option maxRecDepth 100000
def validE (x : Ed) : Bool := pathOK x.p && decide (x.v.size <= 256) && (if x.k = 1 then decide (x.n = ByteArray.empty) && decide (x.v = ByteArray.empty) && !decide (x.p = slS) else if x.k = 2 \/ x.k = 3 /\ x.v = ByteArray.empty then propOK x.n else false)
theorem eq_emp2 (s : ByteArray) : (s.toList == (⟨#[]⟩ : ByteArray).toList) = decide (s = ByteArray.empty) := seqS s _
theorem z1379 {P : Prop} (h : P := by
 ((first | apply CondA.plain | refine' gC | refine' gpI | refine' gpS | refine' gpN | refine' gpB | refine' gEdpv | refine' gOvpv | refine' gE | (apply DrawA.quiet (by kernel_rfl) (by kernel_rfl); (conv => whnf); fail_if_success (show False))) <;> (conv => whnf)) <;> (solve_by_elim (newGoals := .nonDependentOnly) (symm := false) (exfalso := false) (transparency := .reducible) only [rfl, park_])) : P := h
theorem valid_call (x : Ed) (hs : SmE x) : ACall Tryz.prog 59 [.p x.pv] [] fun r H => r = .p (pB (validE x)) /\ H = [] := by
 refine acall_enter Tryz.func59 rfl rfl tabOK rfl ?_
 have hP := opath_call x.p (by have := hs.1; omega)
 have hR := Property_call x.n (by have := hs.2; omega)
 have e : validE x = (pathOK x.p && decide (x.v.size <= 256) && (if x.k = 1 then decide (x.n = ByteArray.empty) && decide (x.v = ByteArray.empty) && !decide (x.p = slS) else if x.k = 2 \/ x.k = 3 /\ x.v = ByteArray.empty then propOK x.n else false)) := rfl
 have q1 := eq_emp2 x.n
 have q2 := eq_emp2 x.v
 have q3 : (x.p.toList == (⟨#[47]⟩ : ByteArray).toList) = decide (x.p = slS) := seqS x.p slS
 cases hp : pathOK x.p with
 | false =>
  rw [hp] at hP e
  (conv => whnf); repeat' ((first | refine' z1379 | (refine CallA.scalar (hP) ?_)) <;> (conv => whnf))
  (refine' RetK.auto (.p (pB false)) ([]) rfl rfl rfl rfl _ _ _ <;> refine' fin_)
  rw [e]; rfl
 | true =>
 rw [hp] at hP e
 by_cases h256 : x.v.size <= 256
 rotate_left
 ·rw [decide_eq_false h256] at e
  (conv => whnf); repeat' ((first | refine' z1379 | (refine CallA.scalar (hP) ?_)) <;> (conv => whnf))
  (refine' RetK.auto (.p (pB false)) ([]) rfl rfl rfl rfl _ _ _ <;> refine' fin_)
  rw [e]; rfl
 rw [decide_eq_true h256] at e
 by_cases h1 : x.k = 1
 ·rw [if_pos h1] at e
  generalize decide (x.n = ByteArray.empty) = A at e q1
  generalize decide (x.v = ByteArray.empty) = B at e q2
  generalize decide (x.p = slS) = C at e q3
  cases A <;> cases B <;> cases C
  all_goals
   (conv => whnf); repeat' ((first | refine' z1379 | (refine CallA.scalar (hP) ?_)) <;> (conv => whnf))
   (refine' RetK.auto (.p (pB _)) ([]) rfl rfl rfl rfl _ _ _ <;> try refine' fin_)
   all_goals (rw [e]; first | rfl | (rw [q3]; rfl))
 rw [if_neg h1] at e
 by_cases h2 : x.k = 2
 ·rw [if_pos (.inl h2)] at e
  (conv => whnf); repeat' ((first | refine' z1379 | (refine CallA.scalar (hP) ?_) | (refine CallA.scalar (hR) ?_)) <;> (conv => whnf))
  (refine' RetK.auto (.p (pB (propOK x.n))) ([]) rfl rfl rfl rfl _ _ _ <;> refine' fin_)
  rw [e]; rfl
 by_cases h3 : x.k = 3
 ·by_cases hv : x.v = ByteArray.empty
  ·rw [if_pos (.inr ⟨h3, hv⟩)] at e
   rw [decide_eq_true hv] at q2
   (conv => whnf); repeat' ((first | refine' z1379 | (refine CallA.scalar (hP) ?_) | (refine CallA.scalar (hR) ?_)) <;> (conv => whnf))
   (refine' RetK.auto (.p (pB (propOK x.n))) ([]) rfl rfl rfl rfl _ _ _ <;> refine' fin_)
   rw [e]; rfl
  ·rw [if_neg (by rintro (h | h); exact h2 h; exact hv h.2)] at e
   rw [decide_eq_false hv] at q2
   (conv => whnf); repeat' ((first | refine' z1379 | (refine CallA.scalar (hP) ?_)) <;> (conv => whnf))
   (refine' RetK.auto (.p (pB false)) ([]) rfl rfl rfl rfl _ _ _ <;> refine' fin_)
   rw [e]; rfl
 ·rw [if_neg (by rintro (h | h); exact h2 h; exact h3 h.1)] at e
  (conv => whnf); repeat' ((first | refine' z1379 | (refine CallA.scalar (hP) ?_)) <;> (conv => whnf))
  (refine' RetK.auto (.p (pB false)) ([]) rfl rfl rfl rfl _ _ _ <;> refine' fin_)
  rw [e]; rfl
theorem or2_call (nl : Bool) (a b : Int) : ACall Tryz.prog 105 [.p (.list nl ([a, b].map pI))] [] fun r H => r = .p (pI (if a = 0 then b else a)) /\ H = [] := by
 refine acall_enter Tryz.func105 rfl rfl tabOK rfl ?_
 by_cases ha : a = 0
 ·rw [if_pos ha]
  subst ha
  by_cases hb : b = 0
  ·subst hb
   (conv => whnf); repeat' ((first | refine' z1379 | (apply LoopA.unroll)) <;> (conv => whnf))
   (refine' RetK.auto (.p (pI 0)) ([]) rfl rfl rfl rfl _ _ _ <;> refine' fin_)
  ·(conv => whnf); repeat' ((first | refine' z1379 | (apply LoopA.unroll)) <;> (conv => whnf))
   (refine' RetK.auto (.p (pI b)) ([]) rfl rfl rfl rfl _ _ _ <;> refine' fin_)
 ·rw [if_neg ha]
  (conv => whnf); repeat' ((first | refine' z1379 | (apply LoopA.unroll)) <;> (conv => whnf))
  (refine' RetK.auto (.p (pI a)) ([]) rfl rfl rfl rfl _ _ _ <;> refine' fin_)
def cpA : Sc := (.take 0 (.load 1 (.take 2 (.load 3 (.take 5 (.load 6 (.take 7 (.load 8 (.one 4 (.one 9 (.one 10 (.one 11 (.take 12 .done)))))))))))))
def cmpE (x y : Ed) : Int := if cmpI x.p y.p = 0 then cmpI x.n y.n else cmpI x.p y.p
theorem y1379 {P : Prop} (h : P := by
 ((conv => whnf); repeat' ((first | apply CondA.plain | refine' gC | refine' gpI | refine' gpS | refine' gpN | refine' gpB | refine' gEdpv | refine' gOvpv | refine' gE | (apply DrawA.quiet (by kernel_rfl) (by kernel_rfl); (conv => whnf); fail_if_success (show False))) <;> (conv => whnf))) <;> (solve_by_elim (newGoals := .nonDependentOnly) (symm := false) (exfalso := false) (transparency := .reducible) only [rfl, park_])) : P := h
theorem z3197 {P : Prop} (h : P := by
 ((first | apply CondA.plain | refine' gC | refine' gpI | refine' gpS | refine' gpN | refine' gpB | refine' gEdpv | refine' gOvpv | refine' gE | fail) <;> (conv => whnf)) <;> (solve_by_elim (newGoals := .nonDependentOnly) (symm := false) (exfalso := false) (transparency := .reducible) only [rfl, park_])) : P := h
theorem compare_call (x y : Ed) : ACall Tryz.prog 60 [.p x.pv, .p y.pv] [] fun r H => r = .p (pI (cmpE x y)) /\ H = [] := by
 refine acall_enter Tryz.func60 rfl rfl tabOK rfl ?_
 (conv => whnf); repeat' ((first | refine' z3197 | (apply DrawA.orders cpA (by kernel_rfl) (by kernel_rfl) (by kernel_rfl)) | (refine CallA.scalar (cmp_call x.p y.p) ?_) | (refine CallA.scalar (cmp_call x.n y.n) ?_)) <;> (conv => whnf))
 refine CallA.loc [] [2] rfl rfl ((or2_call false _ _).mono ?_)
 rintro _ _ ⟨rfl, rfl⟩
 refine' y1379
 (refine' RetK.auto (.p (pI (cmpE x y))) ([]) rfl rfl rfl rfl _ _ _ <;> refine' fin_)
theorem bigE_call (x : Ed) : ACall Tryz.prog 56 [.p x.pv] [] fun r H => r = .p (pB (decide (256 < x.v.size))) /\ H = [] := by
 refine acall_enter Tryz.func56 rfl rfl tabOK rfl ?_
 refine' y1379
 (refine RetK.p ?_ <;> refine' fin_; all_goals try first | refine pBEq ?_ | refine pIEq ?_)
 exact decide_eq_decide.2 (by omega)
theorem badE_call (x : Ed) (hs : SmE x) : ACall Tryz.prog 58 [.p x.pv] [] fun r H => r = .p (pB (!validE x)) /\ H = [] := by
 refine acall_enter Tryz.func58 rfl rfl tabOK rfl ?_
 (conv => whnf); repeat' ((first | refine' z1379 | (refine CallA.scalar (valid_call x hs) ?_)) <;> (conv => whnf))
 (refine' RetK.auto (.p (pB (!validE x))) ([]) rfl rfl rfl rfl _ _ _ <;> refine' fin_)
theorem bigE_index (nl : Bool) (xs : List _) : ACall Tryz.prog 24 [.p (.list nl (xs.map Ed.pv)), .clo (.func 56) []] [] fun r H => (∃ v : Int, r = .p (pI v) /\ (decide (0 <= v) = xs.any fun x => decide (256 < x.v.size))) /\ H = [] := by
 refine acall_enter Tryz.func24 rfl rfl tabOK rfl ?_
 refine' y1379
 refine loop_rule (fun (c : Nat) => ⟨[(0, .p (.list nl (xs.map Ed.pv))), (1, .clo (.func 56) []), (7, .p (pI xs.length)), (8, .p (pI c))], []⟩) (fun c => c <= xs.length /\ ∀ (k : Nat) (h : k < xs.length), k < c -> (decide (256 < xs[k].v.size)) = false) (fun c => xs.length - c) 0 ?_ ?_ ?_; (refine SubA.auto rfl rfl rfl rfl ?_ ?_ <;> refine' fin_)
 ·exact ⟨by omega, by omega⟩
 rintro c ⟨hc, hok⟩
 rcases Nat.lt_or_ge c xs.length with hlt | hge
 ·refine' y1379
  refine CallA.loc [] [] rfl rfl ((bigE_call xs[c]).mono ?_)
  rintro r H ⟨rfl, rfl⟩
  generalize hb : (decide (256 < xs[c].v.size)) = B
  cases B with
  | true =>
   refine' y1379
   (refine' RetK.auto (.p (pI c)) ([]) rfl rfl rfl rfl _ _ _ <;> refine' fin_)
   refine ⟨c, rfl, ?_⟩
   rw [List.any_eq_true.2 ⟨xs[c], List.getElem_mem _, hb⟩]
   exact decide_eq_true (by omega)
  | false =>
   refine' y1379
   (refine' ⟨c + 1, _, _, _⟩; rotate_right; (refine SubA.auto rfl rfl rfl rfl ?_ ?_ <;> refine' fin_); rotate_right; exact ar2_)
   exact ⟨by omega, all_succ hok fun _ => hb⟩
 ·refine' y1379
  (refine' RetK.auto (.p (pI (-1))) ([]) rfl rfl rfl rfl _ _ _ <;> refine' fin_)
  refine ⟨-1, rfl, ?_⟩
  rw [List.any_eq_false.2]
  ·rfl
  ·intro x hx
   obtain ⟨k, hk, rfl⟩ := List.getElem_of_mem hx
   exact Bool.eq_false_iff.1 (hok k hk (by omega))
theorem bigE_contains (nl : Bool) (xs : List _) : ACall Tryz.prog 55 [.p (.list nl (xs.map Ed.pv)), .clo (.func 56) []] [] fun r H => r = .p (pB (xs.any fun x => decide (256 < x.v.size))) /\ H = [] := by
 refine acall_enter Tryz.func55 rfl rfl tabOK rfl ?_
 refine' y1379
 refine CallA.all ((bigE_index nl xs).mono ?_)
 rintro r H ⟨⟨v, rfl, hv⟩, rfl⟩
 refine' y1379
 (refine' RetK.auto (.p (pB (xs.any fun x => decide (256 < x.v.size)))) ([]) rfl rfl rfl rfl _ _ _ <;> refine' fin_)
 rw [<- hv]; rfl
theorem badE_index (nl : Bool) (xs : List _) (hx : ∀ x ∈ xs, SmE x) : ACall Tryz.prog 24 [.p (.list nl (xs.map Ed.pv)), .clo (.func 58) []] [] fun r H => (∃ v : Int, r = .p (pI v) /\ (decide (0 <= v) = xs.any fun x => !validE x)) /\ H = [] := by
 refine acall_enter Tryz.func24 rfl rfl tabOK rfl ?_
 refine' y1379
 refine loop_rule (fun (c : Nat) => ⟨[(0, .p (.list nl (xs.map Ed.pv))), (1, .clo (.func 58) []), (7, .p (pI xs.length)), (8, .p (pI c))], []⟩) (fun c => c <= xs.length /\ ∀ (k : Nat) (h : k < xs.length), k < c -> (!validE xs[k]) = false) (fun c => xs.length - c) 0 ?_ ?_ ?_; (refine SubA.auto rfl rfl rfl rfl ?_ ?_ <;> refine' fin_)
 ·exact ⟨by omega, by omega⟩
 rintro c ⟨hc, hok⟩
 rcases Nat.lt_or_ge c xs.length with hlt | hge
 ·refine' y1379
  refine CallA.loc [] [] rfl rfl ((badE_call xs[c] (hx _ (List.getElem_mem hlt))).mono ?_)
  rintro r H ⟨rfl, rfl⟩
  generalize hb : (!validE xs[c]) = B
  cases B with
  | true =>
   refine' y1379
   (refine' RetK.auto (.p (pI c)) ([]) rfl rfl rfl rfl _ _ _ <;> refine' fin_)
   refine ⟨c, rfl, ?_⟩
   rw [List.any_eq_true.2 ⟨xs[c], List.getElem_mem _, hb⟩]
   exact decide_eq_true (by omega)
  | false =>
   refine' y1379
   (refine' ⟨c + 1, _, _, _⟩; rotate_right; (refine SubA.auto rfl rfl rfl rfl ?_ ?_ <;> refine' fin_); rotate_right; exact ar2_)
   exact ⟨by omega, all_succ hok fun _ => hb⟩
 ·refine' y1379
  (refine' RetK.auto (.p (pI (-1))) ([]) rfl rfl rfl rfl _ _ _ <;> refine' fin_)
  refine ⟨-1, rfl, ?_⟩
  rw [List.any_eq_false.2]
  ·rfl
  ·intro x hx
   obtain ⟨k, hk, rfl⟩ := List.getElem_of_mem hx
   exact Bool.eq_false_iff.1 (hok k hk (by omega))
theorem badE_contains (nl : Bool) (xs : List _) (hx : ∀ x ∈ xs, SmE x) : ACall Tryz.prog 55 [.p (.list nl (xs.map Ed.pv)), .clo (.func 58) []] [] fun r H => r = .p (pB (xs.any fun x => !validE x)) /\ H = [] := by
 refine acall_enter Tryz.func55 rfl rfl tabOK rfl ?_
 refine' y1379
 refine CallA.all ((badE_index nl xs hx).mono ?_)
 rintro r H ⟨⟨v, rfl, hv⟩, rfl⟩
 refine' y1379
 (refine' RetK.auto (.p (pB (xs.any fun x => !validE x))) ([]) rfl rfl rfl rfl _ _ _ <;> refine' fin_)
 rw [<- hv]; rfl
end Go.Proofs.YtnhifaofkndclaaGreatDoor
