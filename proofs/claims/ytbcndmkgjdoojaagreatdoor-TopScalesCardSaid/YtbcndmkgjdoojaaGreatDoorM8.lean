/- Whatever the list of numbers, TopScales returns true, and its argument reads as it did; its package variables are tied to the program's text. Part 8 of 8. -/
import Derived.Test.YtbcndmkgjdoojaaGreatDoorM6
import Derived.Test.YtbcndmkgjdoojaaGreatDoorM7
import Derived.Test.YtbcndmkgjdoojaaGreatDoorTie
import Derived.Test.YtbcndmkgjdoojaaGreatDoorCards
import Derived.LaidMore
import Derived.Lay
import Derived.OpenShut
import Derived.SevenTiedAt
import Derived.Stop.Joined
set_option linter.unusedSimpArgs false
set_option linter.unusedVariables false
set_option linter.unnecessarySimpa false
namespace Go.Proofs.YtbcndmkgjdoojaaGreatDoor
open Go.Abs
set_option maxRecDepth 100000
theorem pts_two {s : Sup} {k : Nat} (hs : SupV s k) {p : Int} (hp : p ∈ ([10, 100, 24000000] : List Int)) {j : Nat} (hj : j < s.lv.length) : PtsOK [⟨p, s.lv[0]'(by omega)⟩, ⟨4000000000, s.lv[j]⟩] := by
  have h0 : 0 < s.lv.length := by omega
  have h1 : s.lv[0] ≤ s.lv[j] := by
    rcases Nat.eq_zero_or_pos j with h | h
    · subst h; exact Int.le_refl _
    · exact Int.le_of_lt (hs.lt h hj)
  have hr : ∀ i (h : i < s.lv.length), 1 ≤ s.lv[i] ∧ s.lv[i] ≤ 5000 := fun i h => hs.2.2.2.2.2.1 _ (List.getElem_mem h)
  have h2 := hr 0 h0
  have h3 := hr j hj
  have h4 : 10 ≤ p ∧ p ≤ 24000000 := by
    simp at hp
    omega
  refine ⟨fun i hi => ?_, by simp, by simp⟩
  match i, hi with
  | 0, _ => exact ⟨⟨by show 1 ≤ p; omega, by show p ≤ _; omega⟩, h2, fun h => by omega⟩
  | 1, _ => exact ⟨⟨by show (1 : Int) ≤ 4000000000; omega, by show (4000000000 : Int) ≤ 4000000000; omega⟩, h3, fun _ => ⟨by show p < 4000000000; omega, h1⟩⟩
def tsASC0 : Sc := (.one 7 (.one 8 (.take 12 (.one 17 (.take 18 (.frz 19 (.take 20 (.one 21 (.take 22 (.one 23 (.one 24 (.take 25 .done))))))))))))
def tsASC1 : Sc := (.one 4 (.one 8 (.take 12 (.one 17 (.take 18 (.frz 19 (.take 20 (.one 21 (.take 22 (.one 23 (.one 24 (.take 25 .done))))))))))))
def tsA : Sc := (.take 0 (.take 1 (.take 2 (.take 3 (.take 5 (.take 6 (.take 9 (.take 10 (.frz 11 (.take 13 (.take 14 (.take 15 (.take 16 (.two 4 7 tsASC0 tsASC1))))))))))))))
def tsB : Sc := (.take 0 (.take 1 (.take 2 (.frz 3 (.take 4 (.one 5 (.take 6 (.one 7 .done))))))))
set_option maxHeartbeats 16000000 in
theorem TopScales_call (nl : Bool) (ts0 : List Int) : ACall Tryz.prog 3 [.p (.list nl (ts0.map pI))] [] fun r H => r = .p (pB true) := by
  refine acall_enter Tryz.func3 rfl rfl tabOK rfl ?_
  (conv => whnf); repeat' ((first | apply CondA.plain | refine' gC | refine' gpI | refine' gpB | refine' gCkpv | refine' gSuppv | refine' gScapv | refine' gDrpv | refine' gPtpv | refine' gsI | refine' gE | (apply DrawA.quiet (by kernel_rfl) (by kernel_rfl); (conv => whnf); fail_if_success (show False)) | ((refine CallA.loc [] [] rfl rfl ((New_call nl ts0).mono ?_); rintro _ _ ⟨ts, rfl, rfl⟩)) | ((refine CallA.loc [0] [] rfl rfl ((Clocks_call nl ts 0 (by omega) 6 (by omega) 96 (by omega)).mono ?_); rintro _ _ ⟨l, n0, i1, hv, hl1, hl16, hi1, rfl, rfl⟩))) <;> (conv => whnf))
  refine CallA.loc [0] [] rfl rfl ((Supplies_call nl ts i1 hi1 4 (by omega)).mono ?_)
  rintro _ _ ⟨q, n1, i2, hq, hq1, hq4, hi2, rfl, rfl⟩
  (conv => whnf); repeat' ((first | apply CondA.plain | refine' gC | refine' gpI | refine' gpB | refine' gCkpv | refine' gSuppv | refine' gScapv | refine' gDrpv | refine' gPtpv | refine' gsI | refine' gE | (apply DrawA.quiet (by kernel_rfl) (by kernel_rfl); (conv => whnf); fail_if_success (show False))) <;> (conv => whnf))
  refine CallA.loc [0] [2] rfl rfl ((Draws_call nl ts i2 hi2 n1 q hq hq1 2 (by omega)).mono ?_)
  rintro _ _ ⟨d, n3, i3, hd, hd2, hi3, rfl, rfl⟩
  (conv => whnf); repeat' ((first | apply CondA.plain | refine' gC | refine' gpI | refine' gpB | refine' gCkpv | refine' gSuppv | refine' gScapv | refine' gDrpv | refine' gPtpv | refine' gsI | refine' gE | (apply DrawA.quiet (by kernel_rfl) (by kernel_rfl); (conv => whnf); fail_if_success (show False))) <;> (conv => whnf))
  refine CallA.loc [0] [] rfl rfl ((N_call nl ts i3 hi3 3 (by omega)).mono ?_)
  rintro _ _ ⟨j0, i4, hj0, hj3, hi4, rfl, rfl⟩
  (conv => whnf); repeat' ((first | apply CondA.plain | refine' gC | refine' gpI | refine' gpB | refine' gCkpv | refine' gSuppv | refine' gScapv | refine' gDrpv | refine' gPtpv | refine' gsI | refine' gE | (apply DrawA.quiet (by kernel_rfl) (by kernel_rfl); (conv => whnf); fail_if_success (show False))) <;> (conv => whnf))
  refine loop_rule (fun (⟨j, cs, n4, i⟩ : Int × List Sca × Bool × Nat) => ⟨[(3, .ptr 0 0), (4, .p (.list n0 (l.map Ck.pv))), (5, .p (.list n1 (q.map Sup.pv))), (6, .p (.list n3 (d.map Dr.pv))), (7, .buf 1), (8, .p (pI j))], src nl ts i ++ [some (AO.buf 40 n4 (cs.map Sca.pv))]⟩) (fun (⟨j, cs, n4, i⟩ : Int × List Sca × Bool × Nat) => 0 ≤ j ∧ (cs.length : Int) + j ≤ 2 ∧ (∀ x ∈ cs, ScV l.length q.length x) ∧ i ≤ ts.length) (fun (⟨j, cs, n4, i⟩ : Int × List Sca × Bool × Nat) => j.toNat) (j0, [], true, i4) ?_ ?_ ?_; (refine SubA.thawed _ [1, 2, 3] [4, 5, 6] ?_; refine SubA.auto1 (40, 7) rfl rfl rfl rfl rfl ?_ ?_ <;> repeat' (first | exact trivial | refine And.intro ?_ ?_ | with_reducible rfl | (refine pIEq ?_; exact ar_) | (refine bufMap ?_) | (refine bufNil ?_) | (refine bufEq ?_) | rfl))
  · exact ⟨hj0, by simp; omega, by simp, hi4⟩
  rintro ⟨j, cs, n4, i5⟩ ⟨hj, hcl, hcs, hi5⟩
  try simp only at hj hcl hcs hi5
  rcases Int.lt_or_le 0 j with hpos | hneg
  · (conv => whnf); repeat' ((first | apply CondA.plain | refine' gC | refine' gpI | refine' gpB | refine' gCkpv | refine' gSuppv | refine' gScapv | refine' gDrpv | refine' gPtpv | refine' gsI | refine' gE | fail) <;> (conv => whnf))
    refine CallA.loc [0] [] rfl rfl ((N_call nl ts i5 hi5 q.length (by omega)).mono ?_)
    rintro _ _ ⟨k, i6, hk0, hk1, hi6, rfl, rfl⟩
    have hkl : k.toNat < q.length := by omega
    have hsv := hq.2.2 k.toNat hkl
    have hlv : 0 < q[k.toNat].lv.length := hsv.2.1
    have hlv16 := hq.2.1 _ (List.getElem_mem hkl)
    (conv => whnf); repeat' ((first | apply CondA.plain | refine' gC | refine' gpI | refine' gpB | refine' gCkpv | refine' gSuppv | refine' gScapv | refine' gDrpv | refine' gPtpv | refine' gsI | refine' gE | fail) <;> (conv => whnf))
    refine DrawA.meet (fun (⟨cs2, n42, i7⟩ : List Sca × Bool × Nat) => ⟨[(3, .ptr 0 0), (4, .p (.list n0 (l.map Ck.pv))), (5, .p (.list n1 (q.map Sup.pv))), (6, .p (.list n3 (d.map Dr.pv))), (7, .buf 1), (8, .p (pI j))], src nl ts i7 ++ [some (AO.buf 40 n42 (cs2.map Sca.pv))]⟩) (fun (⟨cs2, n42, i7⟩ : List Sca × Bool × Nat) => cs2.length = cs.length + 1 ∧ (∀ x ∈ cs2, ScV l.length q.length x) ∧ i7 ≤ ts.length) (DrawB.orders tsA (by kernel_rfl) (by kernel_rfl) (by kernel_rfl) ?_) ?_
    · (conv => whnf); repeat' ((first | apply CondA.plain | refine' gC | refine' gpI | refine' gpB | refine' gCkpv | refine' gSuppv | refine' gScapv | refine' gDrpv | refine' gPtpv | refine' gsI | refine' gE | (apply IsL.lit (f := pI) [10, 100, 24000000] rfl)) <;> (conv => whnf))
      all_goals
        refine CallA.loc [0] [] rfl rfl ((N_call nl ts i6 hi6 l.length (by omega)).mono ?_)
        rintro _ _ ⟨ck, i7, hck0, hck1, hi7, rfl, rfl⟩
        (conv => whnf); repeat' ((first | apply CondA.plain | refine' gC | refine' gpI | refine' gpB | refine' gCkpv | refine' gSuppv | refine' gScapv | refine' gDrpv | refine' gPtpv | refine' gsI | refine' gE | (apply IsL.lit (f := pI) [10, 100, 24000000] rfl)) <;> (conv => whnf))
        refine CallA.loc [0] [2] rfl rfl ((Pick_call nl false ts i7 hi7 [10, 100, 24000000] (by simp) (by simp)).mono ?_)
        rintro _ _ ⟨pk, i8, hpk, hi8, rfl, rfl⟩
        (conv => whnf); repeat' ((first | apply CondA.plain | refine' gC | refine' gpI | refine' gpB | refine' gCkpv | refine' gSuppv | refine' gScapv | refine' gDrpv | refine' gPtpv | refine' gsI | refine' gE | fail) <;> (conv => whnf))
        refine CallA.loc [0] [] rfl rfl ((N_call nl ts i8 hi8 q[k.toNat].lv.length (by omega)).mono ?_)
        rintro _ _ ⟨jv, i9, hjv0, hjv1, hi9, rfl, rfl⟩
        have hpts := pts_two hsv hpk (j := jv.toNat) (by omega)
        (conv => whnf); repeat' ((first | (refine IsL.lit (f := Pt.pv) [⟨pk, q[k.toNat].lv[0]⟩, ⟨4000000000, q[k.toNat].lv[jv.toNat]'(by omega)⟩] rfl ?_) | (refine IsL.lit (f := Sca.pv) [⟨ck, k, false, [⟨pk, q[k.toNat].lv[0]⟩, ⟨4000000000, q[k.toNat].lv[jv.toNat]'(by omega)⟩]⟩] rfl ?_) | apply CondA.plain | refine' gC | refine' gpI | refine' gpB | refine' gCkpv | refine' gSuppv | refine' gScapv | refine' gDrpv | refine' gPtpv | refine' gsI | refine' gE | fail) <;> (conv => whnf))
        have hnew : ∀ x ∈ cs ++ [(⟨ck, k, false, [⟨pk, q[k.toNat].lv[0]⟩, ⟨4000000000, q[k.toNat].lv[jv.toNat]'(by omega)⟩]⟩ : Sca)], ScV l.length q.length x := fun x hx => by
          rcases List.mem_append.1 hx with hx | hx
          · exact hcs x hx
          · simp only [List.mem_singleton] at hx
            subst hx
            exact ⟨⟨hck0, by show ck ≤ _; omega⟩, ⟨hk0, by show k ≤ _; omega⟩, hpts⟩
        have hlen : (cs ++ [(⟨ck, k, false, [⟨pk, q[k.toNat].lv[0]⟩, ⟨4000000000, q[k.toNat].lv[jv.toNat]'(by omega)⟩]⟩ : Sca)]).length = cs.length + 1 := by simp
        (refine' ⟨(cs ++ [⟨ck, k, false, [⟨pk, q[k.toNat].lv[0]⟩, ⟨4000000000, q[k.toNat].lv[jv.toNat]'(by omega)⟩]⟩], false, i9), ⟨hlen, hnew, hi9⟩, _⟩; (refine SubA.auto rfl rfl rfl rfl ?_ ?_ <;> repeat' (first | exact trivial | refine And.intro ?_ ?_ | with_reducible rfl | (refine pIEq ?_; exact ar_) | (refine bufMap ?_) | (refine bufNil ?_) | (refine bufEq ?_) | rfl)))
    rintro ⟨cs2, n42, i7⟩ ⟨hl2, hcs2, hi7⟩
    try simp only at hl2 hcs2 hi7
    (conv => whnf); repeat' ((first | apply CondA.plain | refine' gC | refine' gpI | refine' gpB | refine' gCkpv | refine' gSuppv | refine' gScapv | refine' gDrpv | refine' gPtpv | refine' gsI | refine' gE | fail) <;> (conv => whnf))
    (refine' ⟨(j - 1, cs2, n42, i7), _, _, _⟩; rotate_right; (refine SubA.auto rfl rfl rfl rfl ?_ ?_ <;> repeat' (first | exact trivial | refine And.intro ?_ ?_ | with_reducible rfl | (refine pIEq ?_; exact ar_) | (refine bufMap ?_) | (refine bufNil ?_) | (refine bufEq ?_) | rfl)); rotate_right; exact ar2_)
    exact ⟨by omega, by omega, hcs2, hi7⟩
  have hcs2 : cs.length ≤ 2 := by omega
  (conv => whnf); repeat' ((first | apply CondA.plain | refine' gC | refine' gpI | refine' gpB | refine' gCkpv | refine' gSuppv | refine' gScapv | refine' gDrpv | refine' gPtpv | refine' gsI | refine' gE | fail) <;> (conv => whnf))
  refine loop_rule (fun (⟨c, xs, ra, ys, rb, i⟩ : Nat × (Bool × List Int) × Rq × (Bool × List Int) × Rq × Nat) => ⟨[(3, .ptr 0 0), (4, .p (.list n0 (l.map Ck.pv))), (5, .p (.list n1 (q.map Sup.pv))), (6, .p (.list n3 (d.map Dr.pv))), (7, .p (.list n4 (cs.map Sca.pv))), (11, .ptr 1 0), (12, .ptr 2 0), (72, .p (pI c))], src nl ts i ++ [some (.cells [.p (sI xs), .p (sI ys)]), some (.cells [.p (.list ra.n1 (ra.r.on.map pB)), .p (.list ra.n3 (ra.r.lev.map pI)), .p (.list rb.n1 (rb.r.on.map pB)), .p (.list rb.n3 (rb.r.lev.map pI))])]⟩) (fun (⟨c, xs, ra, ys, rb, i⟩ : Nat × (Bool × List Int) × Rq × (Bool × List Int) × Rq × Nat) => c ≤ 2 ∧ (1 ≤ c → SetOK l xs.2 ∧ CkOK l ∧ Snd ⟨n0, l, n1, q, n3, d, n4, cs⟩ xs.2 ra.r) ∧ (2 ≤ c → SetOK l ys.2 ∧ Snd ⟨n0, l, n1, q, n3, d, n4, cs⟩ ys.2 rb.r) ∧ i ≤ ts.length) (fun (⟨c, xs, ra, ys, rb, i⟩ : Nat × (Bool × List Int) × Rq × (Bool × List Int) × Rq × Nat) => 2 - c) (0, (true, []), ⟨true, true, ⟨[], []⟩⟩, (true, []), ⟨true, true, ⟨[], []⟩⟩, i5) ?_ ?_ ?_; (refine SubA.thawed _ [1] [7] ?_; refine SubA.auto rfl rfl rfl rfl ?_ ?_ <;> repeat' (first | exact trivial | refine And.intro ?_ ?_ | with_reducible rfl | (refine pIEq ?_; exact ar_) | (refine bufMap ?_) | (refine bufNil ?_) | (refine bufEq ?_) | rfl))
  · exact ⟨by omega, fun h => by omega, fun h => by omega, hi5⟩
  clear hi5 hcl hj hneg
  rintro ⟨c, xs, ra, ys, rb, i6⟩ ⟨hc, h1, h2, hi6⟩
  try simp only at hc h1 h2 hi6
  rcases Nat.lt_or_ge c 2 with hlt | hge
  · (conv => whnf); repeat' ((first | apply CondA.plain | refine' gC | refine' gpI | refine' gpB | refine' gCkpv | refine' gSuppv | refine' gScapv | refine' gDrpv | refine' gPtpv | refine' gsI | refine' gE | fail) <;> (conv => whnf))
    refine CallA.loc [0] [] rfl rfl ((Limits_call nl ts i6 hi6 n0 l hv hl16 hl1 2 (by omega)).mono ?_)
    rintro _ _ ⟨m, nm, i7, hm, hm2, hi7, rfl, rfl⟩
    (conv => whnf); repeat' ((first | apply CondA.plain | refine' gC | refine' gpI | refine' gpB | refine' gCkpv | refine' gSuppv | refine' gScapv | refine' gDrpv | refine' gPtpv | refine' gsI | refine' gE | fail) <;> (conv => whnf))
    refine CallA.loc [] [3] rfl rfl ((Solve_call n0 nm l m).mono ?_)
    rintro _ _ (⟨e, he, rfl, rfl⟩ | ⟨x, bx, hck, hsx, hox, rfl, rfl⟩)
    · (conv => whnf); repeat' ((first | apply CondA.plain | refine' gC | refine' gpI | refine' gpB | refine' gCkpv | refine' gSuppv | refine' gScapv | refine' gDrpv | refine' gPtpv | refine' gsI | refine' gE | (refine CallA.scalar awake_call ?_)) <;> (conv => whnf))
      (refine' RetK.auto (.p (pB true)) ([]) rfl rfl rfl rfl _ _ _ <;> repeat' (first | exact trivial | refine And.intro ?_ ?_ | with_reducible rfl | (refine pIEq ?_; exact ar_) | (refine bufMap ?_) | (refine bufNil ?_) | (refine bufEq ?_) | rfl))
    have hb : BoOK ⟨n0, l, n1, q, n3, d, n4, cs⟩ := ⟨hck, hq, hd, by show cs.length ≤ 32; omega, hcs⟩
    (conv => whnf); repeat' ((first | (refine IsL.lit (f := sI) [(bx, x)] rfl ?_) | apply CondA.plain | refine' gC | refine' gpI | refine' gpB | refine' gCkpv | refine' gSuppv | refine' gScapv | refine' gDrpv | refine' gPtpv | refine' gsI | refine' gE | fail) <;> (conv => whnf))
    refine CallA.loc [] [4] rfl rfl ((Raise_call ⟨n0, l, n1, q, n3, d, n4, cs⟩ false [(bx, x)] hb (fun p hp => by simp only [List.mem_singleton] at hp; subst hp; exact hsx) (by show d.length + cs.length ≤ 32; omega) (by simp)).mono ?_)
    rintro _ _ ⟨rfl, ⟨out, nb, rfl, hR⟩ | rfl⟩
    rotate_left
    · (conv => whnf); repeat' ((first | apply CondA.plain | refine' gC | refine' gpI | refine' gpB | refine' gCkpv | refine' gSuppv | refine' gScapv | refine' gDrpv | refine' gPtpv | refine' gsI | refine' gE | (refine CallA.scalar awake_call ?_)) <;> (conv => whnf))
      (refine' RetK.auto (.p (pB true)) ([]) rfl rfl rfl rfl _ _ _ <;> repeat' (first | exact trivial | refine And.intro ?_ ?_ | with_reducible rfl | (refine pIEq ?_; exact ar_) | (refine bufMap ?_) | (refine bufNil ?_) | (refine bufEq ?_) | rfl))
    (conv => whnf); repeat' ((first | apply CondA.plain | refine' gC | refine' gpI | refine' gpB | refine' gCkpv | refine' gSuppv | refine' gScapv | refine' gDrpv | refine' gPtpv | refine' gsI | refine' gE | fail) <;> (conv => whnf))
    refine CallA.loc [] [] rfl rfl ((Least_call n1 nb q out hq hR.ok).mono ?_)
    rintro _ _ ⟨rl, m1, m3, e, pre, f, rfl, rfl, hdm, he0, hen⟩
    by_cases he : e = 0
    rotate_left
    · (conv => whnf); repeat' ((first | apply CondA.plain | refine' gC | refine' gpI | refine' gpB | refine' gCkpv | refine' gSuppv | refine' gScapv | refine' gDrpv | refine' gPtpv | refine' gsI | refine' gE | (refine CallA.scalar awake_call ?_)) <;> (conv => whnf))
      (refine' RetK.auto (.p (pB true)) ([]) rfl rfl rfl rfl _ _ _ <;> repeat' (first | exact trivial | refine And.intro ?_ ?_ | with_reducible rfl | (refine pIEq ?_; exact ar_) | (refine bufMap ?_) | (refine bufNil ?_) | (refine bufEq ?_) | rfl))
    subst he
    obtain ⟨_, _, hme⟩ := he0 rfl
    clear hdm he0 hen
    have hsn : Snd ⟨n0, l, n1, q, n3, d, n4, cs⟩ x rl := ⟨hox, hR.less hme, fun y hy => hR.snd hq hme (by simp) hy⟩
    (conv => whnf); repeat' ((first | apply CondA.plain | refine' gC | refine' gpI | refine' gpB | refine' gCkpv | refine' gSuppv | refine' gScapv | refine' gDrpv | refine' gPtpv | refine' gsI | refine' gE | (refine CallA.scalar (Sound_call ⟨n0, l, n1, q, n3, d, n4, cs⟩ bx x ⟨m1, m3, rl⟩ hb hsx hme.rv hsn) ?_)) <;> (conv => whnf))
    rcases c with _ | _ | c
    · (conv => whnf); repeat' ((first | apply CondA.plain | refine' gC | refine' gpI | refine' gpB | refine' gCkpv | refine' gSuppv | refine' gScapv | refine' gDrpv | refine' gPtpv | refine' gsI | refine' gE | fail) <;> (conv => whnf))
      refine DrawA.retire 19 5 [.list m1 (rl.on.map pB), .list m3 (rl.lev.map pI)] rfl rfl ?_
      (conv => whnf); repeat' ((first | apply CondA.plain | refine' gC | refine' gpI | refine' gpB | refine' gCkpv | refine' gSuppv | refine' gScapv | refine' gDrpv | refine' gPtpv | refine' gsI | refine' gE | (apply DrawA.orders tsB (by kernel_rfl) (by kernel_rfl) (by decide +kernel))) <;> (conv => whnf))
      (refine' ⟨(1, (bx, x), ⟨m1, m3, rl⟩, ys, rb, i7), _, _, _⟩; rotate_right; (refine SubA.auto rfl rfl rfl rfl ?_ ?_ <;> repeat' (first | exact trivial | refine And.intro ?_ ?_ | with_reducible rfl | (refine pIEq ?_; exact ar_) | (refine bufMap ?_) | (refine bufNil ?_) | (refine bufEq ?_) | rfl)); rotate_right; exact ar2_)
      exact ⟨by omega, fun _ => ⟨hsx, hck, hsn⟩, fun h => by omega, hi7⟩
    · (conv => whnf); repeat' ((first | apply CondA.plain | refine' gC | refine' gpI | refine' gpB | refine' gCkpv | refine' gSuppv | refine' gScapv | refine' gDrpv | refine' gPtpv | refine' gsI | refine' gE | fail) <;> (conv => whnf))
      refine DrawA.retire 19 5 [.list m1 (rl.on.map pB), .list m3 (rl.lev.map pI)] rfl rfl ?_
      (conv => whnf); repeat' ((first | apply CondA.plain | refine' gC | refine' gpI | refine' gpB | refine' gCkpv | refine' gSuppv | refine' gScapv | refine' gDrpv | refine' gPtpv | refine' gsI | refine' gE | (apply DrawA.orders tsB (by kernel_rfl) (by kernel_rfl) (by decide +kernel))) <;> (conv => whnf))
      (refine' ⟨(2, xs, ra, (bx, x), ⟨m1, m3, rl⟩, i7), _, _, _⟩; rotate_right; (refine SubA.auto rfl rfl rfl rfl ?_ ?_ <;> repeat' (first | exact trivial | refine And.intro ?_ ?_ | with_reducible rfl | (refine pIEq ?_; exact ar_) | (refine bufMap ?_) | (refine bufNil ?_) | (refine bufEq ?_) | rfl)); rotate_right; exact ar2_)
      exact ⟨by omega, fun _ => h1 (by omega), fun _ => ⟨hsx, hsn⟩, hi7⟩
    · omega
  obtain rfl : c = 2 := by omega
  obtain ⟨hsx, hck, hsn⟩ := h1 (by omega)
  obtain ⟨hsy, hsm⟩ := h2 (by omega)
  have hb : BoOK ⟨n0, l, n1, q, n3, d, n4, cs⟩ := ⟨hck, hq, hd, by show cs.length ≤ 32; omega, hcs⟩
  (conv => whnf); repeat' ((first | apply CondA.plain | refine' gC | refine' gpI | refine' gpB | refine' gCkpv | refine' gSuppv | refine' gScapv | refine' gDrpv | refine' gPtpv | refine' gsI | refine' gE | fail) <;> (conv => whnf))
  refine CallA.loc [] [] rfl rfl ((pPlan_call ⟨n0, l, n1, q, n3, d, n4, cs⟩ xs.1 ys.1 xs.2 ys.2 ra rb hb hsx hsy hsn hsm (by show d.length + cs.length ≤ 32; omega)).mono ?_)
  rintro _ _ ⟨rfl, ⟨ws, nb, rfl, hw⟩ | rfl⟩
  rotate_left
  · (conv => whnf); repeat' ((first | apply CondA.plain | refine' gC | refine' gpI | refine' gpB | refine' gCkpv | refine' gSuppv | refine' gScapv | refine' gDrpv | refine' gPtpv | refine' gsI | refine' gE | (refine CallA.scalar awake_call ?_)) <;> (conv => whnf))
    (refine' RetK.auto (.p (pB true)) ([]) rfl rfl rfl rfl _ _ _ <;> repeat' (first | exact trivial | refine And.intro ?_ ?_ | with_reducible rfl | (refine pIEq ?_; exact ar_) | (refine bufMap ?_) | (refine bufNil ?_) | (refine bufEq ?_) | rfl))
  (conv => whnf); repeat' ((first | apply CondA.plain | refine' gC | refine' gpI | refine' gpB | refine' gCkpv | refine' gSuppv | refine' gScapv | refine' gDrpv | refine' gPtpv | refine' gsI | refine' gE | (refine CallA.scalar (First_call ⟨n0, l, n1, q, n3, d, n4, cs⟩ xs.1 nb xs.2 ra ws hb hw) ?_) | (refine CallA.scalar awake_call ?_)) <;> (conv => whnf))
  (refine' RetK.auto (.p (pB true)) ([]) rfl rfl rfl rfl _ _ _ <;> repeat' (first | exact trivial | refine And.intro ?_ ?_ | with_reducible rfl | (refine pIEq ?_; exact ar_) | (refine bufMap ?_) | (refine bufNil ?_) | (refine bufEq ?_) | rfl))
end Go.Proofs.YtbcndmkgjdoojaaGreatDoor
namespace Go.Abs
open Go.RowKit Go.ChangeShapes Go.WideShapes
theorem lifted_laid {C : Checked} {f : FuncId} {fn : Func} {s : ChangeSpec} {os : Os} {H : Type} {enc : TypeId × Value → H} {tb : TypeId} {shs : List (Bool × List Sh)} {X : World → Prop}
    (hX : ∀ (w w' : World), w.heap = w'.heap → X w → X w')
    (own : ownKnob C.prog.godebug = none) (started : os.Started) (noInit : C.prog.inits.idxOf? f = none) (hfn : C.prog.funcs[f]? = some fn) (hl : laidOutB C.prog = true)
    (hr : fn.params.toList.all (fun t => C.prog.readableRec t && decide (t < C.prog.types.size)) = true) (hres : fn.resultTypes = #[tb]) (htb : C.prog.underlying tb = some .bool) (hvars : s.vars = [])
    (hshs : shapes C.prog fn.params.toList = some shs)
    (hs : ∀ ds : List (DataW H), ds.length = fn.params.toList.length → (s.fn H ds).results = [.lit (.bool true)] ∧ (s.fn H ds).args = ds ∧ (s.fn H ds).vars = [])
    (witness : ∃ (w : World) (tape : Tape) (i : Input), w.os = os ∧ (w.forCall tape i).Shaped C.prog ∧ i.vars = [] ∧ Input.okWide C.prog (w.forCall tape i) .any w.heap.size f i ∧
      ((s.pre enc C.prog fn [] false (w.forCall tape i).memory i.args ∧ X (w.forCall tape i).memory) ∧ sizedMet enc C.prog fn (OpenSpec.ofChange s) false (w.forCall tape i).memory i.args) ∧ ({} : Assume).holds C.prog (lone (Frame.enter C.prog f i.args .normal) [] (w.forCall tape i)))
    (hG : ∀ W : World, X W → Glb (fun b => b < W.heap.size) W)
    (call : ∀ xs : List PV, fitA shs xs → ACall C.prog f (xs.map .p) [] fun r _ => r = .p (.v (.bool true))) :
    ReturnsInHanded {} C os f .any (fun w args => (s.pre enc C.prog fn [] false w args ∧ X w) ∧ sizedMet enc C.prog fn (OpenSpec.ofChange s) false w args) (s.post enc C.prog fn false true false false) := by
  refine returnsInHanded_of_change_and (X := fun w _ => X w) (fun w w' _ hh h => hX w w' hh h) own started noInit hfn witness ?_
  intro W base args ds gs before hval hW _ _ hL _
  obtain ⟨p, q, hA, _⟩ := id hW
  obtain ⟨xs, h1, h2, h3, h4⟩ := args_of_trod _ shs _ _ _ hshs hA fun j t v hj hv => ⟨base, hval j t v (by simpa using hj) (by simpa using hv)⟩
  refine ((call xs h1).calls (fun _ => undef) (fun b => b < W.heap.size) W args ⟨fun i o h => by simp [live] at h, fun i j oi oj b h => by simp [live] at h, fun b h => h, fun i o b h => by simp [live] at h, hG W hL⟩
    (by simpa using h2.symm) fun j x hx => ?_).mono fun e W' ⟨v, r, H', m', S', he, hk, hst, hrd⟩ => ⟨v, he, ?_⟩
  · simp only [List.getElem?_map, Option.map_eq_some_iff] at hx
    obtain ⟨y, hy, rfl⟩ := hx
    obtain ⟨u, hu, hru⟩ := h4 j y hy
    have : args[j]? = some u := by simpa using hu
    rw [show args.getD j undef = u by simp [this]]
    exact .p _ _ hru
  · subst hk
    cases hrd with
    | p _ _ hp =>
      cases hp
      exact post_true hl hr hres htb hvars (hs ds h3) hW (below_of_stp hst)
end Go.Abs
namespace Go.Proofs.YtbcndmkgjdoojaaGreatDoor
open Go.ChangeShapes Go.WideShapes Go.ChangeAt Go.RowKit Go.Abs
set_option maxRecDepth 100000
/-- The cells of the variables that the row lists. -/
theorem laid_cells {W : World} (h : laidMetH Tryz.prog Rows.topScalesRow.laid W) :
    (∀ r, r < 2 → W.cell? ⟨0, r, none⟩ = some (.int .i64 (([0, 1] : List Int).getD r 0))) ∧ ∀ r, r < 4 → ∃ s : ByteArray, W.cell? ⟨1, r, none⟩ = some (.string s) ∧ s.data.toList = ([[], [99, 108, 111, 99, 107, 45, 102, 114, 101, 113, 117, 101, 110, 99, 121], [100, 105, 118, 105, 115, 111, 114, 115], [102, 97, 99, 116, 111, 114, 115]] : List (List UInt8)).getD r [] := by
  rw [MakeChecks.laidMetH_plain _ _ _ (by kernel_rfl)] at h
  obtain ⟨ps, ⟨_, _, _, _, _, _, _, _, _, _, ⟨g, t, cs, fuel, p, q, hg, ht, hv, hd, ⟨g2, t2, cs2, fuel2, p2, q2, hg2, ht2, hv2, hd2, _, _⟩, _⟩, _⟩, _, _⟩ := h
  obtain rfl := Option.some.inj ((show Tryz.prog.globalNamed "bringup/clock.off" = some 0 by kernel_rfl).symm.trans hg)
  obtain rfl := Option.some.inj ((show Tryz.prog.globalNamed "bringup/clock.lists" = some 1 by kernel_rfl).symm.trans hg2)
  obtain rfl := Option.some.inj ((show (Tryz.prog.globals[0]?).map (·.type) = some 79 by kernel_rfl).symm.trans ht)
  obtain rfl := Option.some.inj ((show (Tryz.prog.globals[1]?).map (·.type) = some 250 by kernel_rfl).symm.trans ht2)
  have c3 : Tryz.prog.cellsOf 3 = 1 := by kernel_rfl
  have c9 : Tryz.prog.cellsOf 9 = 1 := by kernel_rfl
  constructor
  · obtain ⟨xs, m, _, ex, _, hl, hel⟩ := DataW.trod_struct Tryz.underlying79 hd
    have e0 : (xs.map (·.1)) = [.lit (.int .i64 0), .lit (.int .i64 1)] := (DataW.agg.inj (Prod.mk.inj ex).1).symm
    have hl2 : xs.length = 2 := hl
    obtain ⟨x0, x1, rfl⟩ : ∃ x0 x1, xs = [x0, x1] := by
      match xs, hl2 with
      | [x0, x1], _ => exact ⟨x0, x1, rfl⟩
    · have e0' : [x0.1, x1.1] = [.lit (.int .i64 0), .lit (.int .i64 1)] := e0
      have e1 := List.cons.inj e0'
      have e2 := List.cons.inj e1.2
      obtain ⟨z0, a1, a2, _⟩ := DataW.trod_int Tryz.underlying3 (hel 0 _ rfl)
      obtain ⟨z1, b1, b2, _⟩ := DataW.trod_int Tryz.underlying3 (hel 1 _ rfl)
      replace a1 : (cs.toList.drop 0).take (Tryz.prog.cellsOf 3) = [.int .i64 z0] := a1
      replace b1 : (cs.toList.drop 1).take (Tryz.prog.cellsOf 3) = [.int .i64 z1] := b1
      rw [c3] at a1 b1
      have h0 : cs.toList[0]? = some (.int .i64 z0) := by
        have : ((cs.toList.drop 0).take 1)[0]? = some (.int .i64 z0) := by rw [a1]; rfl
        simpa using this
      have h1 : cs.toList[1]? = some (.int .i64 z1) := by
        have : ((cs.toList.drop 1).take 1)[0]? = some (.int .i64 z1) := by rw [b1]; rfl
        simpa using this
      have d0 : z0 = 0 := by
        have := e1.1
        rw [a2] at this
        simpa using this
      have d1 : z1 = 1 := by
        have := e2.1
        rw [b2] at this
        simpa using this
      subst d0
      subst d1
      intro r hr
      rw [World.var?_cell hg hv r]
      match r, hr with
      | 0, _ => simpa using h0
      | 1, _ => simpa using h1
  · obtain ⟨xs, m, _, ex, _, hl, hel⟩ := DataW.trod_array Tryz.underlying250 hd2
    intro r hr
    have hE := hel r hr
    rw [c9, Nat.mul_one, List.getElem?_eq_getElem (by omega)] at hE
    obtain ⟨z, e1, e2, _⟩ := DataW.trod_string Tryz.underlying9 hE
    have e3 : (xs.map (·.1)) = [.lit (.string []), .lit (.string [99, 108, 111, 99, 107, 45, 102, 114, 101, 113, 117, 101, 110, 99, 121]), .lit (.string [100, 105, 118, 105, 115, 111, 114, 115]), .lit (.string [102, 97, 99, 116, 111, 114, 115])] := (DataW.agg.inj (Prod.mk.inj ex).1).symm
    have e4 := congrArg (·[r]?) e3
    simp only [List.getElem?_map] at e4
    rw [List.getElem?_eq_getElem (by omega : r < xs.length), e2] at e4
    refine ⟨z, ?_, ?_⟩
    · rw [World.var?_cell hg2 hv2 r]
      have h0 : ((cs2.toList.drop r).take 1)[0]? = some (.string z) := by rw [e1]; rfl
      have : cs2.toList[r]? = some (.string z) := by simpa using h0
      simpa using this
    · match r, hr with
      | 0, _ => simpa using e4
      | 1, _ => simpa using e4
      | 2, _ => simpa using e4
      | 3, _ => simpa using e4
theorem laid_glb {W : World} (h : laidMetH Tryz.prog Rows.topScalesRow.laid W) : Glb (fun b => b < W.heap.size) W := by
  obtain ⟨h0, h1⟩ := laid_cells h
  have lt : ∀ {g r : Nat} {v : Value}, W.cell? ⟨g, r, none⟩ = some v → g < W.heap.size := fun {g r v} hc => by
    rcases Nat.lt_or_ge g W.heap.size with hlt | hge
    · exact hlt
    · unfold World.cell? at hc
      simp [hge] at hc
  intro g cs hg
  unfold gl at hg
  split at hg
  · rename_i hb
    obtain rfl := Nat.eq_of_beq_eq_true hb
    injection hg with hg
    subst hg
    refine ⟨lt (h0 0 (by omega)), fun k => .int .i64 (([0, 1] : List Int).getD k 0), fun k c hk => ?_, fun k c hk => ?_⟩
    · match k, hk with
      | 0, _ => exact ⟨h0 0 (by omega), rfl⟩
      | 1, _ => exact ⟨h0 1 (by omega), rfl⟩
    · match k, hk with
      | 0, hk => cases hk; exact .v _ rfl
      | 1, hk => cases hk; exact .v _ rfl
  · split at hg
    · rename_i hb
      obtain rfl := Nat.eq_of_beq_eq_true hb
      injection hg with hg
      subst hg
      obtain ⟨s0, a0, b0⟩ := h1 0 (by omega)
      obtain ⟨s1, a1, b1⟩ := h1 1 (by omega)
      obtain ⟨s2, a2, b2⟩ := h1 2 (by omega)
      obtain ⟨s3, a3, b3⟩ := h1 3 (by omega)
      have bq : ∀ {s : ByteArray} {l : List UInt8}, s.data.toList = l → s = ⟨l.toArray⟩ := fun {s l} h => by
        cases s
        simp only at h
        subst h
        simp
      refine ⟨lt a0, fun k => .string ⟨((([[], [99, 108, 111, 99, 107, 45, 102, 114, 101, 113, 117, 101, 110, 99, 121], [100, 105, 118, 105, 115, 111, 114, 115], [102, 97, 99, 116, 111, 114, 115]] : List (List UInt8)).getD k []).toArray)⟩, fun k c hk => ?_, fun k c hk => ?_⟩
      · match k, hk with
        | 0, _ => rw [bq b0] at a0; exact ⟨a0, rfl⟩
        | 1, _ => rw [bq b1] at a1; exact ⟨a1, rfl⟩
        | 2, _ => rw [bq b2] at a2; exact ⟨a2, rfl⟩
        | 3, _ => rw [bq b3] at a3; exact ⟨a3, rfl⟩
      · match k, hk with
        | 0, hk => cases hk; exact .v _ rfl
        | 1, hk => cases hk; exact .v _ rfl
        | 2, hk => cases hk; exact .v _ rfl
        | 3, hk => cases hk; exact .v _ rfl
    · cases hg
theorem Tryz.own : ownKnob Tryz.prog.godebug = none := by kernel_rfl
theorem Tryz.laidOut : laidOutB Tryz.prog = true := by kernel_rfl
theorem TopScales_lifted (os : Os) (started : os.Started) (H : Type) (enc : TypeId × Value → H) :
    ReturnsInHanded {} Tryz.checked os 3 .any (fun w args => (Rows.topScalesSpec.pre enc Tryz.prog Tryz.f3 Rows.topScalesRow.domain false w args ∧ laidMetH Tryz.prog Rows.topScalesRow.laid w) ∧ sizedMet enc Tryz.prog Tryz.f3 (OpenSpec.ofChange Rows.topScalesSpec) false w args)
      (Rows.topScalesSpec.post enc Tryz.prog Tryz.f3 false true false false) :=
  lifted_laid (C := Tryz.checked) (X := fun w => laidMetH Tryz.prog Rows.topScalesRow.laid w) (shs := [(false, [.slice false [.int .i64]])]) (fun _ _ hh h => h.of_heap hh) Tryz.own started (by kernel_rfl) Tryz.func3 Tryz.laidOut (by kernel_rfl) rfl (by kernel_rfl : Tryz.prog.underlying 4 = some .bool) rfl rfl
    (fun ds h => match ds, h with | [_], _ => ⟨rfl, rfl, rfl⟩)
    (ChangeSpec.witness_shaped (enc := enc) (C := Tryz.checked) (os := os) (X := fun w _ => laidMetH Tryz.prog Rows.topScalesRow.laid w) false (World.laidAll Tryz.prog os Rows.topScalesRow.laid) #[.slice none 0 0] 8 (World.laidAll_os _ _ _)
      (World.shaped_of_ZipB (by kernel_rfl) (by kernel_rfl)) (by kernel_rfl) (by kernel_rfl) (by kernel_rfl)
      (by rw [MakeChecks.laidMetH_plain _ _ _ (by kernel_rfl)]; exact laidMet_laidAll _ (by kernel_rfl) (by kernel_rfl)))
    (fun W h => laid_glb h)
    fun xs h => by
      match xs, h with
      | [x], h =>
        obtain ⟨nl, ts, rfl⟩ := fit_ints h.1
        exact TopScales_call nl ts
theorem TopScales_holds : Rows.TopScalesSaid :=
  OpenClaim.holds_of_wide 3 Tryz.f3 rfl rfl rfl rfl rfl rfl rfl ⟨rfl, rfl, rfl, rfl, rfl⟩ rfl rfl rfl rfl rfl (by kernel_rfl) Tryz.func3 (by kernel_rfl)
    (of_decide_eq_true (by kernel_rfl)) (by unfold Func.isWrapper; first | (rw [if_pos (by decide +kernel)]; kernel_rfl) | (rw [if_neg (by decide +kernel)]; exact ⟨rfl, rfl⟩))
    (fun os started H enc _ => TopScales_lifted os started H enc)
theorem TopScalesCard_holds : Rows.TopScalesCardSaid :=
  Claim7.holds_tied_plain_at .later [] [.data, .data, .data, .pinned] true (true, "00caba9fea0aff2679ce3ae361ae9cd32cf8ce5b3dd4c809ee1df5f971f1f296") false TopScales_holds (fun _ h => by cases h) (by kernel_rfl) (fun _ h => by cases h) topScales_row_tie rfl ⟨rfl, rfl⟩ (by kernel_rfl) rfl
    (fun f fn hf hfn => by
      obtain rfl : f = 3 := Option.some.inj ((show Tryz.prog.funcNamed "bringup/bringuptop.TopScales" = some 3 by kernel_rfl).symm.trans hf) |>.symm
      obtain rfl : fn = Tryz.f3 := (Option.some.inj (Tryz.func3.symm.trans hfn)).symm
      exact ⟨by kernel_rfl, fun j t ht => by
        rw [Tryz.params3] at ht
        have hm : t ∈ [22] := by simpa using Array.mem_of_getElem? ht
        have hall : ([22].all fun u => !Tryz.prog.wantsStandIn u) = true := by kernel_rfl
        exact (show Tryz.prog.wantsStandIn t = false by simpa using List.all_eq_true.1 hall t hm)⟩)
    (by kernel_rfl)
#print axioms TopScales_holds
#print axioms TopScalesCard_holds
end Go.Proofs.YtbcndmkgjdoojaaGreatDoor
