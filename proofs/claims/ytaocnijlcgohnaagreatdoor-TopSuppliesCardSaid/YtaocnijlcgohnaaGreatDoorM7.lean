/- For TopSupplies: part 7 of 9. -/
import Derived.Test.YtaocnijlcgohnaaGreatDoorM6
set_option linter.unusedSimpArgs false
set_option linter.unusedVariables false
set_option linter.unnecessarySimpa false
set_option maxHeartbeats 8000000
namespace Go.Proofs.YtaocnijlcgohnaaGreatDoor
open Go.Abs
set_option maxRecDepth 100000
def lvN (xs : List Int) (v : Int) : Int := if lvK xs v < xs.length then (lvK xs v : Int) else -1
theorem Cm {xs : List Int} {v : Int} {i : Nat} (hi : i < xs.length) (h : v <= xs[i]) (hlo : ∀ j (h : j < xs.length), j < i -> xs[j] < v) : lvN xs v = i := by
 have e : lvK xs v = i := by
  unfold lvK
  rw [List.findIdx_eq hi]
  refine ⟨decide_eq_true h, fun j hj => decide_eq_false ?_⟩
  have := hlo j (by omega) hj
  omega
 rw [lvN, e, if_pos hi]
theorem Cj {xs : List Int} {v : Int} (hlo : ∀ j (h : j < xs.length), xs[j] < v) : lvN xs v = -1 := by
 have e : lvK xs v = xs.length := by
  unfold lvK
  rw [List.findIdx_eq_length]
  intro x hx
  obtain ⟨k, hk, rfl⟩ := List.getElem_of_mem hx
  have := hlo k hk
  simp
  omega
 rw [lvN, e, if_neg (by omega)]
theorem sP (s : Sup) (v : Int) (hl : s.lv.length <= 16) : ao Tryz.prog 50 [.p s.pv, .p (pI v)] [] fun r H => r = .p (pI (lvN s.lv v)) /\ H = [] := by
 refine aa Tryz.func50 rfl rfl au rfl ?_
 (conv => whnf); repeat' ((first | apply aB.plain | refine' gC | refine' gpI | refine' gpB | refine' aI | refine' ba | refine' gE | (apply ax.quiet (by kernel_rfl) (by kernel_rfl); (conv => whnf); fail_if_success (show False))) <;> (conv => whnf))
 refine ai (fun (c : Nat) => ⟨[(1, .p (pI v)), (8, .p (.list s.ln (s.lv.map pI))), (9, .p (pI s.lv.length)), (10, .p (pI c))], []⟩) (fun c => c <= s.lv.length /\ ∀ j (h : j < s.lv.length), j < c -> s.lv[j] < v) (fun c => s.lv.length - c) 0 ?_ ?_ ?_; (refine aq.auto rfl rfl rfl rfl ?_ ?_ <;> refine' aj)
 ·exact ⟨by omega, fun j _ hj => by omega⟩
 rintro c ⟨hc, hlo⟩
 rcases Nat.lt_or_ge c s.lv.length with hlt | hge
 ·(conv => whnf); repeat' ((first | apply aB.plain | refine' gC | refine' gpI | refine' gpB | refine' aI | refine' ba | refine' gE | (apply ax.quiet (by kernel_rfl) (by kernel_rfl); (conv => whnf); fail_if_success (show False))) <;> (conv => whnf))
  ·refine' rp_
   rw [Cm hlt (by omega) hlo]
  ·(refine' ⟨c + 1, _, _, _⟩; rotate_right; (refine aq.auto rfl rfl rfl rfl ?_ ?_ <;> refine' aj); rotate_right; exact aw)
   refine ⟨by omega, fun j hj h => ?_⟩
   rcases Nat.lt_or_ge j c with h1 | h1
   ·exact hlo j hj h1
   ·obtain rfl : j = c := by omega
    omega
 ·(conv => whnf); repeat' ((first | apply aB.plain | refine' gC | refine' gpI | refine' gpB | refine' aI | refine' ba | refine' gE | (apply ax.quiet (by kernel_rfl) (by kernel_rfl); (conv => whnf); fail_if_success (show False))) <;> (conv => whnf))
  refine' rp_
  rw [Cj fun j hj => hlo j hj (by omega)]
def EC : Ln := (.lazy 0 (.lazy 1 (.lazy 2 (.lazy 3 (.lazy 4 (.lazy 5 (.lazy 6 (.lazy 7 (.lazy 8 (.lazy 9 (.lazy 10 (.lazy 11 (.lazy 12 (.lazy 13 (.lazy 14 (.lazy 15 (.lazy 16 (.lazy 18 (.lazy 21 (.lazy 22 (.lazy 23 (.lazy 24 (.lazy 25 (.one 17 (.lazy 19 (.lazy 20 (.lazy 26 (.lazy 27 (.lazy 28 .done)))))))))))))))))))))))))))))
def EB : Ln := (.lazy 0 (.lazy 1 (.lazy 2 (.lazy 3 (.lazy 4 (.lazy 5 (.lazy 6 (.lazy 7 (.lazy 8 (.lazy 9 (.lazy 10 (.lazy 11 (.lazy 12 (.lazy 13 (.lazy 14 .done)))))))))))))))
def EA : Ln := (.lazy 0 (.lazy 1 (.lazy 2 (.lazy 3 (.lazy 4 (.lazy 5 (.lazy 6 (.lazy 7 (.lazy 8 (.lazy 9 (.lazy 10 (.lazy 11 (.lazy 12 (.lazy 13 (.lazy 14 (.lazy 15 (.lazy 16 (.lazy 17 (.lazy 18 (.lazy 19 (.lazy 20 (.lazy 21 (.lazy 22 (.lazy 23 (.lazy 24 (.lazy 25 .done))))))))))))))))))))))))))
theorem mD (nl n2 : Bool) (l : List Sup) (d : List Dr) (hl : aT l) (hd : b9 l.length d) (ov nb : Bool) (ss : List Int) (first last : Int) (h : Ed l d ov ss first last) : ao Tryz.prog 16 [.p (.list nl (l.map Sup.pv)), .p (.list n2 (d.map Dr.pv)), .p (Chn.pv ov nb ss first last)] [] fun r H => r = .p (pB true) /\ H = [] := by
 refine aa Tryz.func16 rfl rfl au rfl ?_
 have h16 := hl.1
 have h32 := hd.1
 have hul := ej l d
 have hdl : (aS l d).length = l.length := f_ l d _
 have hR : ∀ (i : Nat) (h : i < ss.length), (0 <= ss[i] /\ ss[i] < (l.length : Int)) /\ Usd l d ss[i].toNat := by
  rcases h with ⟨_, i, hi, rfl, _, _, hc⟩ | ⟨_, xs, h⟩
  ·intro j hj
   simp at hj
   subst hj
   refine ⟨⟨by simp, by simpa using hi⟩, ?_⟩
   have := (hl.2.2 i hi).2.2.2.2.1
   rw [ak hi] at hc
   simpa using yk hl hd hi (by omega)
  ·exact h.rng
 have hP : ∀ (i : Nat) (h : i + 1 < ss.length), bu l ss[i].toNat = ss[i + 1] := by
  rcases h with ⟨_, i, hi, rfl, _, _, hc⟩ | ⟨_, xs, h⟩
  ·intro j hj
   simp at hj
  ·exact h.par
 have hne : 0 < ss.length := by
  rcases h with ⟨_, i, hi, rfl, _, _, hc⟩ | ⟨_, xs, h⟩
  ·simp
  ·exact h.ne
 (conv => whnf); repeat' ((first | apply aB.plain | refine' gC | refine' gpI | refine' gpB | refine' aI | refine' ba | refine' gE | (refine ab.scalar (pq nl n2 l d hl hd) ?_)) <;> (conv => whnf))
 refine ab.loc [] [] rfl rfl ((nC nl n2 l d hl hd).mono ?_)
 rintro _ _ ⟨m1, rfl, rfl⟩
 (conv => whnf); repeat' ((first | apply aB.plain | refine' gC | refine' gpI | refine' gpB | refine' aI | refine' ba | refine' gE | fail) <;> (conv => whnf))
 refine ai (fun (c : Nat) => ⟨[(0, .p (.list nl (l.map Sup.pv))), (1, .p (.list n2 (d.map Dr.pv))), (5, .ptr 0 0), (7, .p (.list m1 ((aL l d).map pB))), (29, .p (.list nb (ss.map pI))), (30, .p (pI ss.length)), (31, .p (pI c))], [some (.cells [.p (pB ov), .p (.list nb (ss.map pI)), .p (pI first), .p (pI last)])]⟩) (fun c => c <= ss.length) (fun c => ss.length - c) 0 ?_ ?_ ?_; (refine aq.auto rfl rfl rfl rfl ?_ ?_ <;> refine' aj)
 ·omega
 rintro c hc
 rcases Nat.lt_or_ge c ss.length with hlt | hge
 ·obtain ⟨⟨r1, r2⟩, r3⟩ := hR c hlt
  have hu : (aL l d)[ss[c].toNat]'(by omega) = true := by
   rw [<- ak (d := false)]
   exact (dC hl hd (by omega)).2 r3
  rcases Nat.eq_zero_or_pos c with rfl | hc0
  ·(conv => whnf); repeat' ((first | apply aB.plain | refine' gC | refine' gpI | refine' gpB | refine' aI | refine' ba | refine' gE | (apply ax.quiet (by kernel_rfl) (by kernel_rfl); (conv => whnf); fail_if_success (show False)) | (refine ab.scalar (b7 (show 0 <= ss[0] /\ ss[0] <= (l.length : Int) - 1 by omega)) ?_)) <;> (conv => whnf))
   (refine' ⟨1, _, _, _⟩; rotate_right; (refine aq.auto rfl rfl rfl rfl ?_ ?_ <;> refine' aj); rotate_right; exact aw)
   omega
  ·have hp := hP (c - 1) (by omega)
   have hr0 := (hR (c - 1) (by omega)).1
   have e1 : ss[c - 1 + 1]'(by omega) = ss[c] := getElem_congr rfl (by omega) _
   have e2 : ss[c - 1]'(by omega) = ss[((c : Int) - 1).toNat]'(by omega) := getElem_congr rfl (by omega) _
   rw [e1] at hp
   rw [e2] at hp hr0
   unfold bu at hp
   rw [ak (by omega)] at hp
   (conv => whnf); repeat' ((first | apply aB.plain | refine' gC | refine' gpI | refine' gpB | refine' aI | refine' ba | refine' gE | (apply ax.quiet (by kernel_rfl) (by kernel_rfl); (conv => whnf); fail_if_success (show False)) | (refine ab.scalar (b7 (show 0 <= ss[c] /\ ss[c] <= (l.length : Int) - 1 by omega)) ?_)) <;> (conv => whnf))
   (refine' ⟨c + 1, _, _, _⟩; rotate_right; (refine aq.auto rfl rfl rfl rfl ?_ ?_ <;> refine' aj); rotate_right; exact aw)
   omega
 ·clear hc hP
  rcases h with ⟨rfl, i, hi, hss, rfl, rfl, hcap⟩ | ⟨rfl, xs, h⟩
  ·have hr := lW nl n2 l d hl hd
   rw [ak hi, ak (show i < (aS l d).length by omega)] at hcap
   have hid : i < (aS l d).length := by omega
   have hsl : ss.length = 1 := by rw [hss]; rfl
   have hs0 : ss[0] = (i : Int) := by simp [hss]
   clear hss hR
   (conv => whnf); repeat' ((first | apply aB.plain | refine' gC | refine' gpI | refine' gpB | refine' aI | refine' ba | refine' gE | fail) <;> (conv => whnf))
   apply ax.lin EC (by kernel_rfl) (by decide +kernel)
   (conv => whnf); repeat' ((first | (apply PdC.same; · with_reducible rfl) | apply PdC.chk | apply PdA.mk | (apply EqA.mk; rfl) | (apply LzA.mk; · ((conv => whnf); repeat' ((first | (apply EqA.mk; rfl) | (apply And.intro; omega) | ((first | apply NW.as | apply fA.as); with_reducible assumption) | ((first | apply NW.i64 | apply NW.u32 | apply NW.u64 | apply NW.u8 | apply aX.hi | apply aX.lo); omega) | (apply SzA.map; (intro _; rfl)) | refine' gC | refine' gpI | refine' gpB | refine' aI | refine' ba | refine' gE | fail) <;> (conv => whnf)))) | apply aB.plain | refine' gC | refine' gpI | refine' gpB | refine' aI | refine' ba | refine' gE | (fail "DrawA.lin")) <;> (conv => whnf))
   refine ab.loc [] [] rfl rfl (hr.mono ?_)
   rintro _ _ ⟨m2, rfl, rfl⟩
   (conv => whnf); repeat' ((first | (apply PdC.same; · with_reducible rfl) | apply PdC.chk | apply PdA.mk | (apply EqA.mk; rfl) | (apply LzA.mk; · ((conv => whnf); repeat' ((first | (apply EqA.mk; rfl) | (apply And.intro; omega) | ((first | apply NW.as | apply fA.as); with_reducible assumption) | ((first | apply NW.i64 | apply NW.u32 | apply NW.u64 | apply NW.u8 | apply aX.hi | apply aX.lo); omega) | (apply SzA.map; (intro _; rfl)) | refine' gC | refine' gpI | refine' gpB | refine' aI | refine' ba | refine' gE | fail) <;> (conv => whnf)))) | apply aB.plain | refine' gC | refine' gpI | refine' gpB | refine' aI | refine' ba | refine' gE | (fail "DrawA.lin")) <;> (conv => whnf))
   refine' rp_
   simp only [hs0, Int.toNat_natCast]
   exact decide_eq_true hcap
  ·have hfr : -1 <= first /\ first <= (d.length : Int) - 1 := by
    rcases h.fst with ⟨h1, _⟩ | ⟨i, h1, h2, _⟩ <;> omega
   have hlr : -1 <= last /\ last <= (d.length : Int) - 1 := by
    rcases h.lst with ⟨h1, _⟩ | ⟨i, h1, h2, _⟩ <;> omega
   have hfn : first < 0 -> 0 = (xs.getD ss[0].toNat default).vol := fun hn => by
    rcases h.fst with ⟨_, h1⟩ | ⟨i, h1, h2, _⟩
    ·exact h1.symm
    ·omega
   have hfp : 0 <= first -> ∃ hf : first.toNat < d.length, d[first.toNat].sup = ss[0] /\ d[first.toNat].lo = (xs.getD ss[0].toNat default).vol := fun hn => by
    rcases h.fst with ⟨h1, _⟩ | ⟨i, h1, h2, h3, h4⟩
    ·omega
    ·subst h2
     exact ⟨by simpa using h1, by simpa using h3, by simpa using h4⟩
   (conv => whnf); repeat' ((first | apply aB.plain | refine' gC | refine' gpI | refine' gpB | refine' aI | refine' ba | refine' gE | (refine ab.scalar (b7 hfr) ?_) | (refine ab.scalar (b7 hlr) ?_)) <;> (conv => whnf))
   case' h1.x.x =>
    obtain ⟨f1, f2, f3⟩ := hfp h0
    (conv => whnf); repeat' ((first | apply aB.plain | refine' gC | refine' gpI | refine' gpB | refine' aI | refine' ba | refine' gE | (apply ax.quiet (by kernel_rfl) (by kernel_rfl); (conv => whnf); fail_if_success (show False))) <;> (conv => whnf))
   all_goals
    refine' ai (fun (⟨c, v⟩ : Nat × Int) => ⟨[(0, .p (.list nl (l.map Sup.pv))), (1, .p (.list n2 (d.map Dr.pv))), (5, .ptr 0 0), (11, .p (pI v)), (139, .p (.list nb (ss.map pI))), (140, .p (pI ss.length)), (141, .p (pI c))], [some (.cells [.p (pB false), .p (.list nb (ss.map pI)), .p (pI first), .p (pI last)])]⟩) (fun ⟨c, v⟩ => ∃ h : c < ss.length, v = (xs.getD (ss[c]'h).toNat default).vol) (fun ⟨c, v⟩ => ss.length - c) (0, _) _ _ _; rotate_right; rotate_right; rotate_right; (refine aq.auto rfl rfl rfl rfl ?_ ?_ <;> refine' aj)
    ·refine ⟨hne, ?_⟩
     first | rfl | exact hfn (by assumption) | exact f3
    rintro ⟨c, v⟩ ⟨hc2, hv⟩
    try simp only at hc2 hv
    obtain ⟨⟨r1, r2⟩, r3⟩ := hR c hc2
    have hkn : ss[c].toNat < l.length := by omega
    have hm16 := hl.2.1 _ (List.getElem_mem hkn)
    have hlev := sP l[ss[c].toNat] v hm16
    have hdk : dmK l xs ss[c].toNat = lvK l[ss[c].toNat].lv v := by unfold dmK; rw [ak hkn, hv]
    have hsv := hl.2.2 _ hkn
    rcases Nat.lt_or_ge (c + 1) ss.length with hmid | hend
    ·obtain ⟨q1, q2⟩ := h.mid c hmid
     rw [hdk, ak hkn] at q1
     unfold dmV at q2
     rw [hdk, ak hkn, ak q1] at q2
     rw [show lvN l[ss[c].toNat].lv v = (lvK l[ss[c].toNat].lv v : Int) from if_pos q1] at hlev
     have hb := hsv.2.2.2.2.2.1 _ (List.getElem_mem q1)
     have hdp := hsv.2.2.1
     (conv => whnf); repeat' ((first | apply aB.plain | refine' gC | refine' gpI | refine' gpB | refine' aI | refine' ba | refine' gE | (refine ab.scalar (hlev) ?_)) <;> (conv => whnf))
     apply ax.lin EB (by kernel_rfl) (by decide +kernel)
     (conv => whnf); repeat' ((first | (apply PdC.same; · with_reducible rfl) | apply PdC.chk | apply PdA.mk | (apply EqA.mk; rfl) | (apply LzA.mk; · ((conv => whnf); repeat' ((first | (apply EqA.mk; rfl) | (apply And.intro; omega) | ((first | apply NW.as | apply fA.as); with_reducible assumption) | ((first | apply NW.i64 | apply NW.u32 | apply NW.u64 | apply NW.u8 | apply aX.hi | apply aX.lo); omega) | (apply SzA.map; (intro _; rfl)) | refine' gC | refine' gpI | refine' gpB | refine' aI | refine' ba | refine' gE | fail) <;> (conv => whnf)))) | apply aB.plain | refine' gC | refine' gpI | refine' gpB | refine' aI | refine' ba | refine' gE | (fail "DrawA.lin")) <;> (conv => whnf))
     (refine' ⟨(c + 1, l[ss[c].toNat].lv[lvK l[ss[c].toNat].lv v] + l[ss[c].toNat].drop), _, _, _⟩; rotate_right; (refine aq.auto rfl rfl rfl rfl ?_ ?_ <;> refine' aj); rotate_right; exact aw)
     exact ⟨hmid, q2⟩
    ·have ec : ss[ss.length - 1]'(by omega) = ss[c] := getElem_congr rfl (by omega) _
     have hls := h.lst
     simp only [ec, hdk, ak hkn] at hls
     rcases hls with ⟨g1, g2⟩ | ⟨i, g1, g2, g3, g4, g5⟩
     ·rw [show lvN l[ss[c].toNat].lv v = -1 from if_neg g2] at hlev
      (conv => whnf); repeat' ((first | apply aB.plain | refine' gC | refine' gpI | refine' gpB | refine' aI | refine' ba | refine' gE | (refine ab.scalar (hlev) ?_)) <;> (conv => whnf))
      refine' rp_
      exact decide_eq_true (by omega)
     ·rw [show lvN l[ss[c].toNat].lv v = (lvK l[ss[c].toNat].lv v : Int) from if_pos g4] at hlev
      subst g2
      have g6 : d[i].hi < l[ss[c].toNat].lv[lvK l[ss[c].toNat].lv v] := by
       have := g5
       unfold vt at this
       rwa [ak hkn, Int.toNat_natCast, ak g4] at this
      (conv => whnf); repeat' ((first | apply aB.plain | refine' gC | refine' gpI | refine' gpB | refine' aI | refine' ba | refine' gE | (refine ab.scalar (hlev) ?_)) <;> (conv => whnf))
      apply ax.lin EA (by kernel_rfl) (by decide +kernel)
      (conv => whnf); repeat' ((first | (apply PdC.same; · with_reducible rfl) | apply PdC.chk | apply PdA.mk | (apply EqA.mk; rfl) | (apply LzA.mk; · ((conv => whnf); repeat' ((first | (apply EqA.mk; rfl) | (apply And.intro; omega) | ((first | apply NW.as | apply fA.as); with_reducible assumption) | ((first | apply NW.i64 | apply NW.u32 | apply NW.u64 | apply NW.u8 | apply aX.hi | apply aX.lo); omega) | (apply SzA.map; (intro _; rfl)) | refine' gC | refine' gpI | refine' gpB | refine' aI | refine' ba | refine' gE | fail) <;> (conv => whnf)))) | apply aB.plain | refine' gC | refine' gpI | refine' gpB | refine' aI | refine' ba | refine' gE | (fail "DrawA.lin")) <;> (conv => whnf))
      refine' rp_
      exact decide_eq_true g6
end Go.Proofs.YtaocnijlcgohnaaGreatDoor
