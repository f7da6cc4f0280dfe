/- For TopRefusals: part 14 of 15. -/
import Derived.Test.YtnhifaofkndclaaGreatDoorM13
set_option linter.unusedSimpArgs false
set_option linter.unusedVariables false
set_option linter.unnecessarySimpa false
set_option maxHeartbeats 8000000
namespace Go.Proofs.YtnhifaofkndclaaGreatDoor
open Go.Abs
set_option maxRecDepth 100000
theorem ovA_mo : Mo ovA := ⟨by decide, fun x hx => by
 have h : x = ⟨1, ⟨#[47, 120]⟩, ⟨#[]⟩, ⟨#[]⟩⟩ \/ x = ⟨2, ⟨#[47, 120]⟩, ⟨#[112]⟩, ⟨#[0, 0, 0, 1]⟩⟩ := by simpa [ovA] using hx
 rcases h with rfl | rfl
 ·exact ⟨by decide, by decide⟩
 ·exact ⟨by decide, by decide⟩⟩
set_option maxHeartbeats 4000000 in
theorem push_one : ACall Tryz.prog 6 [.p (.agg [.list false (nsA.map Nd.pv)]), .p (.list true (([] : List Ov).map Ov.pv)), .p ovA.pv] [] fun r H => r = .tup [.p (.list false ([ovA].map Ov.pv)), .p (.agg [pI 0, pI 0, pS ⟨#[]⟩, pS ⟨#[]⟩]), .p (pI 0)] /\ H = [] := by
 refine acall_enter Tryz.func6 rfl rfl tabOK rfl ?_
 have hins : (([] : List Ov).map Ov.pv).take 0 ++ Ov.pv ovA :: (([] : List Ov).map Ov.pv).drop 0 = [ovA].map Ov.pv := rfl
 have hmo : ∀ x ∈ [ovA], Mo x := fun x hx => by rw [List.mem_singleton.1 hx]; exact ovA_mo
 have hI := insO_call true false (([] : List Ov).map Ov.pv) (Ov.pv ovA) 0 (by simp) (by simp)
 have hnm : ovA.nm = capeS := rfl
 refine' y8bcb
 refine CallA.loc [] [] rfl rfl (tree_nil_call.mono ?_)
 rintro _ _ ⟨rfl, rfl⟩
 unfold trP
 refine' y8bcb
 refine CallA.loc [] [] rfl rfl ((BSOv_call 15 capeS true [] (fun p _ => names_call p capeS) (by simp) (fun i j _ hj => by simp at hj)).mono ?_)
 rintro _ _ ⟨i, bb, hA, rfl, rfl⟩
 have hi0 : i = 0 := by have := hA.le; simpa using this
 subst hi0
 cases bb with
 | true =>
  obtain ⟨h, _⟩ := hA.yes rfl
  simp at h
 | false =>
  refine' y668c
  refine DrawA.meet (fun (_u : Unit) => ⟨[(3, .ptr 0 0), (7, .ptr 1 0), (14, .p (.list false ([ovA].map Ov.pv)))], [some (.cells [.p (.list false (nsA.map Nd.pv))]), some (.cells [.p (pI 0), .p (pI 0), .p (pS ⟨#[]⟩), .p (pS ⟨#[]⟩)])]⟩) (fun (_u : Unit) => True) (DrawB.lin puL (by kernel_rfl) (by decide +kernel) ?_) ?_
  ·(conv => whnf); repeat' ((first | (apply PdC.same; · with_reducible rfl) | apply PdC.chk | apply PdA.mk | (apply EqA.mk; rfl) | (apply LzA.mk; · ((conv => whnf); repeat' ((first | (apply EqA.mk; rfl) | refine' z9af5 | fail) <;> (conv => whnf)))) | refine' z668c | (fail "DrawA.lin") | ((refine CallA.loc [] [] rfl rfl ((cloneO_call true [] (fun _ => rfl) (by simp)).mono ?_); rintro _ _ ⟨rfl, rfl⟩)) | ((refine CallA.loc [5, 6] [] rfl rfl (hI.mono ?_); rintro _ _ ⟨rfl, rfl⟩; rw [hins])) | ((refine CallA.loc [6, 5] [] rfl rfl (hI.mono ?_); rintro _ _ ⟨rfl, rfl⟩; rw [hins])) | ((refine CallA.loc [] [7] rfl rfl ((copied_call [ovA] hmo (by simp)).mono ?_); rintro _ _ ⟨rfl, rfl⟩))) <;> (conv => whnf))
   all_goals
    (refine' ⟨(), _, _⟩; rotate_right; (refine SubA.auto rfl rfl rfl rfl ?_ ?_ <;> refine' fin_); rotate_right; exact ar2_)
  rintro _ -
  refine' y8bcb
  refine CallA.loc [] [] rfl rfl (tree_one_call.mono ?_)
  rintro _ _ ⟨rfl, rfl⟩
  unfold trP
  refine' y8bcb
  (refine' RetK.auto (.tup [.p (.list false ([ovA].map Ov.pv)), .p (.agg [pI 0, pI 0, pS ⟨#[]⟩, pS ⟨#[]⟩]), .p (pI 0)]) ([]) rfl rfl rfl rfl _ _ _ <;> refine' fin_)
set_option maxHeartbeats 4000000 in
theorem pop_one : ACall Tryz.prog 36 [.p (.agg [.list false (nsA.map Nd.pv)]), .p (.list false ([ovA].map Ov.pv)), .p (pS capeS)] [] fun r H => r = .tup [.p (.list false (([] : List Ov).map Ov.pv)), .p (.agg [pI 0, pI 0, pS ⟨#[]⟩, pS ⟨#[]⟩]), .p (pI 0)] /\ H = [] := by
 refine acall_enter Tryz.func36 rfl rfl tabOK rfl ?_
 have hD := delO_call false ([ovA].map Ov.pv) 0 (by simp) (by simp)
 refine' y8bcb
 refine CallA.loc [] [] rfl rfl (tree_one_call.mono ?_)
 rintro _ _ ⟨rfl, rfl⟩
 unfold trP
 refine' y8bcb
 refine CallA.loc [] [] rfl rfl ((BSOv_call 15 capeS false [ovA] (fun p _ => names_call p capeS) (by simp) (fun i j hi hj => by simp at hj; omega)).mono ?_)
 rintro _ _ ⟨i, bb, hA, rfl, rfl⟩
 cases bb with
 | false =>
  exact absurd rfl (hA.no rfl 0 (by simp))
 | true =>
  obtain ⟨h, _⟩ := hA.yes rfl
  have hi0 : i = 0 := by simpa using h
  subst hi0
  refine' y8bcb
  refine CallA.loc [] [] rfl rfl ((cloneO_call false [ovA] (fun h => by cases h) (by simp)).mono ?_)
  rintro _ _ ⟨rfl, rfl⟩
  refine' y8bcb
  refine CallA.loc [4] [] rfl rfl (hD.mono ?_)
  rintro _ _ ⟨rfl, rfl⟩
  refine' y8bcb
  refine CallA.loc [] [5] rfl rfl ((copied_call [] (fun x hx => by cases hx) (by simp)).mono ?_)
  rintro _ _ ⟨rfl, rfl⟩
  refine' y8bcb
  refine CallA.loc [] [] rfl rfl (tree_emp_call.mono ?_)
  rintro _ _ ⟨rfl, rfl⟩
  unfold trP
  refine' y8bcb
  (refine' RetK.auto (.tup [.p (.list false (([] : List Ov).map Ov.pv)), .p (.agg [pI 0, pI 0, pS ⟨#[]⟩, pS ⟨#[]⟩]), .p (pI 0)]) ([]) rfl rfl rfl rfl _ _ _ <;> refine' fin_)
set_option maxHeartbeats 4000000 in
theorem awake14_call : ACall Tryz.prog 11 [] [] fun r H => r = .p (pB true) /\ H = [] := by
 refine acall_enter Tryz.func11 rfl rfl tabOK rfl ?_
 (conv => whnf); repeat' ((first | refine' z8bcb | ((refine IsL.mk (nsA.map Nd.pv) rfl ?_))) <;> (conv => whnf))
 refine CallA.loc [] [0] rfl rfl (read_one_call.mono ?_)
 rintro _ _ ⟨rfl, rfl⟩
 refine' y8bcb
 refine CallA.loc [] [] rfl rfl (push_one.mono ?_)
 rintro _ _ ⟨rfl, rfl⟩
 refine' y8bcb
 refine CallA.loc [] [] rfl rfl (tree_one_call.mono ?_)
 rintro _ _ ⟨rfl, rfl⟩
 unfold trP
 refine' y8bcb
 refine CallA.loc [] [] rfl rfl (pop_one.mono ?_)
 rintro _ _ ⟨rfl, rfl⟩
 refine' y8bcb
 (refine' RetK.auto (.p (pB true)) ([]) rfl rfl rfl rfl _ _ _ <;> refine' fin_)
open Go.Abs
set_option maxRecDepth 100000
def lfB : Ln := (.lazy 0 (.lazy 1 (.lazy 2 (.lazy 3 (.lazy 4 (.lazy 5 (.lazy 6 (.lazy 7 (.lazy 8 (.lazy 9 (.lazy 10 (.lazy 11 (.lazy 12 (.lazy 13 .done))))))))))))))
def lfA : Ln := (.lazy 1 (.lazy 2 (.lazy 3 (.lazy 5 (.lazy 6 (.lazy 8 (.lazy 9 (.lazy 10 (.one 0 (.one 4 (.one 7 (.one 11 (.lazy 12 .done)))))))))))))
def lfC : Ln := (.lazy 0 (.lazy 1 (.lazy 2 (.lazy 3 (.lazy 4 (.lazy 5 (.lazy 6 (.one 7 (.lazy 8 (.lazy 9 (.lazy 10 (.lazy 11 (.lazy 12 .done)))))))))))))
set_option maxHeartbeats 4000000 in
theorem TopRefusals_call (nl : Bool) (ts0 : List Int) : ACall Tryz.prog 3 [.p (.list nl (ts0.map pI))] [] fun r H => r = .p (pB true) := by
 refine acall_enter Tryz.func3 rfl rfl tabOK rfl ?_
 refine' y8bcb
 refine CallA.loc [] [] rfl rfl ((New_call nl ts0).mono ?_)
 rintro _ _ ⟨ts, rfl, rfl⟩
 refine' y8bcb
 refine CallA.loc [0] [] rfl rfl ((stacked_call nl ts 0 (by omega)).mono ?_)
 rintro _ _ ⟨n2, nb, ns, os, i', hm, hos5, hMo, rfl, rfl⟩
 refine' y8bcb
 refine loop_rule (fun (⟨c, nol, l⟩ : Nat × Bool × List Ov) => ⟨[(4, .ptr 0 0), (6, .p (.list nol (l.map Ov.pv))), (30, .p (.list nb (os.map Ov.pv))), (31, .p (pI os.length)), (32, .p (pI c))], [some (.cells [.p (.list n2 (ns.map Nd.pv))])]⟩) (fun ⟨c, nol, l⟩ => c <= os.length /\ l.length <= c /\ (∀ o ∈ l, Mo o) /\ (l = [] \/ OKs ns l)) (fun ⟨c, nol, l⟩ => os.length - c) (0, true, []) ?_ ?_ ?_; (refine SubA.auto rfl rfl rfl rfl ?_ ?_ <;> refine' fin_)
 ·exact ⟨Nat.zero_le _, Nat.le_refl _, fun o h => (by cases h), .inl rfl⟩
 rintro ⟨c, nol, l⟩ ⟨hc, hlc, hMl, hl⟩
 try simp only at hc hlc hMl hl
 rcases Nat.lt_or_ge c os.length with hlt | hge
 rotate_left
 ·refine' y8bcb
  refine CallA.loc [] [] rfl rfl (awake14_call.mono ?_)
  rintro _ _ ⟨rfl, rfl⟩
  refine' y8bcb
  (refine' RetK.auto (.p (pB true)) ([]) rfl rfl rfl rfl _ _ _ <;> refine' fin_)
 have hoM : Mo os[c] := hMo _ (List.getElem_mem hlt)
 refine' y8bcb
 refine CallA.loc [] [] rfl rfl ((push_call n2 nol ns l os[c] hm.s hm.f hMl hoM (by omega) hl).mono ?_)
 rintro _ _ ⟨⟨nx, xs, a, b, p, n, e, rfl, hP⟩, rfl⟩
 by_cases h0 : e = 0
 ·obtain ⟨hOK, hxs⟩ := hP.ok h0
  clear hP
  subst h0
  subst hxs
  have hMx : ∀ o ∈ insV l os[c], Mo o := fun x hx => by
   rcases insV_mem hx with rfl | h
   ·exact hoM
   ·exact hMl x h
  have hlx := insV_len os[c] l
  refine' y8bcb
  refine CallA.loc [] [] rfl rfl ((sTree_call n2 nx ns (insV l os[c]) hm.s hm.f hMx (by omega)).mono ?_)
  rintro _ _ ⟨⟨nt, t, a2, b2, p2, m2, e2, rfl, hT⟩, rfl⟩
  have h0 : e2 = 0 := Classical.byContradiction fun h => hT.no h hOK
  have ht := (hT.ok h0).2
  clear hT
  subst h0
  subst ht
  have hV := hOK.val
  refine' y8bcb
  refine loop_rule (fun (d : Nat) => ⟨[(4, .ptr 0 0), (6, .p (.list nx ((insV l os[c]).map Ov.pv))), (14, .ptr 1 0), (30, .p (.list nb (os.map Ov.pv))), (31, .p (pI os.length)), (32, .p (pI c)), (98, .p (.list os[c].nl (os[c].es.map Ed.pv))), (99, .p (pI os[c].es.length)), (100, .p (pI d))], [some (.cells [.p (.list n2 (ns.map Nd.pv))]), some (.cells [.p (.list nt ((bldR ns (addR (insV l os[c])) (insV l os[c])).map Nd.pv))])]⟩) (fun d => d <= os[c].es.length) (fun d => os[c].es.length - d) 0 ?_ ?_ ?_; (refine SubA.auto rfl rfl rfl rfl ?_ ?_ <;> refine' fin_)
  ·exact Nat.zero_le _
  rintro d hd
  try simp only at hd
  rcases Nat.lt_or_ge d os[c].es.length with hld | hgd
  ·obtain ⟨j, hj, hjp, hjk⟩ := hOK.fits.kept hV.bt.par (x := os[c].es[d]) (allE_mem.2 ⟨_, insV_mem2, List.getElem_mem hld⟩)
   have hRF := rFind_call nt _ hV os[c].es[d].p
   obtain ⟨v, th, hRO, k2, k3⟩ : ∃ (v : ByteArray) (th : Bool), ACall Tryz.prog 10 [.p (bldR ns (addR (insV l os[c])) (insV l os[c]))[j].pv, .p (pS os[c].es[d].n)] [] (fun r H => r = .tup [.p (pS v), .p (pB th)] /\ H = []) /\ (os[c].es[d].k = 2 -> th = true /\ v = os[c].es[d].v) /\ (os[c].es[d].k = 3 -> th = false) := by
    refine ⟨_, _, rOf_call (bldR ns (addR (insV l os[c])) (insV l os[c]))[j] (hV.few.2 _ (List.getElem_mem hj)) os[c].es[d].n, fun h => ?_, fun h => ?_⟩
    ·rcases hjk with h1 | h1
     ·omega
     ·rw [if_neg (by omega)] at h1
      rw [h1]; exact ⟨rfl, rfl⟩
    ·rcases hjk with h1 | h1
     ·omega
     ·rw [if_pos h] at h1
      rw [h1]; rfl
   clear hjk
   refine' y8bcb
   refine CallA.loc [] [] rfl rfl (hRF.mono ?_)
   rintro _ _ ⟨⟨k, ok, rfl, hk1, hk2⟩, rfl⟩
   cases ok with
   | false => exact absurd hjp (hk2 rfl j hj)
   | true =>
    obtain ⟨hk, hkp⟩ := hk1 rfl
    have e : k = j := hV.bt.inj hk hj (hkp.trans hjp.symm)
    subst e
    clear hk1 hk2
    refine' y668c
    apply DrawA.lin lfC (by kernel_rfl) (by decide +kernel)
    (conv => whnf); repeat' ((first | (apply PdC.same; · with_reducible rfl) | apply PdC.chk | apply PdA.mk | (apply EqA.mk; rfl) | (apply LzA.mk; · ((conv => whnf); repeat' ((first | (apply EqA.mk; rfl) | refine' z9af5 | fail) <;> (conv => whnf)))) | refine' z668c | (fail "DrawA.lin") | ((refine CallA.loc [] [] rfl rfl (hRO.mono ?_); rintro _ _ ⟨rfl, rfl⟩))) <;> (conv => whnf))
    all_goals first
     | exact absurd h0 (by rw [(k2 (by assumption)).2]; simp)
     | exact Bool.noConfusion (show false = true from h0.symm.trans (k2 (by assumption)).1)
     | exact Bool.noConfusion (show true = false from h0.symm.trans (k3 (by assumption)))
     | (refine' ⟨d + 1, _, _, _⟩; rotate_right; (refine SubA.auto rfl rfl rfl rfl ?_ ?_ <;> refine' fin_); rotate_right; exact ar2_)
    all_goals omega
  ·refine' y8bcb
   (refine' ⟨(c + 1, nx, insV l os[c]), _, _, _⟩; rotate_right; (refine SubA.auto rfl rfl rfl rfl ?_ ?_ <;> refine' fin_); rotate_right; exact ar2_)
   exact ⟨by omega, by omega, hMx, .inr hOK⟩
 ·have hP8 := hP.con
  clear hP
  have hnx : insV l os[c] ≠ [] := fun h => by have := insV_len os[c] l; rw [h] at this; simp at this
  have hMx : ∀ o ∈ insV l os[c], Mo o := fun x hx => by
   rcases insV_mem hx with rfl | h
   ·exact hoM
   ·exact hMl x h
  have hlx := insV_len os[c] l
  refine' y8bcb
  refine loop_rule (fun (k : Nat) => ⟨[(4, .ptr 0 0), (6, .p (.list nol (l.map Ov.pv))), (8, .ptr 1 0), (10, .ptr 2 0), (11, .p (pI e)), (12, .p (pI k)), (30, .p (.list nb (os.map Ov.pv))), (31, .p (pI os.length)), (32, .p (pI c))], [some (.cells [.p (.list n2 (ns.map Nd.pv))]), some (.cells [.p (pS os[c].nm), .p (.list os[c].nl (os[c].es.map Ed.pv))]), some (.cells [.p (pI a), .p (pI b), .p (pS p), .p (pS n)])]⟩) (fun k => k <= l.length /\ ∀ j (h : j < l.length), j < k -> bless l[j].nm os[c].nm = true) (fun k => l.length - k) 0 ?_ ?_ ?_; (refine SubA.auto rfl rfl rfl rfl ?_ ?_ <;> refine' fin_)
  ·exact ⟨Nat.zero_le _, fun j _ h => by omega⟩
  rintro k ⟨hk, hlo⟩
  try simp only at hk hlo
  refine' y668c
  apply DrawA.lin lfB (by kernel_rfl) (by decide +kernel)
  have hins : (∀ h : k < l.length, bless l[k].nm os[c].nm = false) -> (l.take (k : Int).toNat).drop (Int.toNat 0) ++ [os[c]] ++ l.drop (k : Int).toNat = insV l os[c] := fun h => by
   rw [insV_cut hk hlo h]
   simp
  rcases Nat.lt_or_ge k l.length with hlk | hgk
  ·(conv => whnf); repeat' ((first | (apply PdC.same; · with_reducible rfl) | apply PdC.chk | apply PdA.mk | (apply EqA.mk; rfl) | (apply LzA.mk; · ((conv => whnf); repeat' ((first | (apply EqA.mk; rfl) | refine' z9af5 | fail) <;> (conv => whnf)))) | refine' z668c | (fail "DrawA.lin")) <;> (conv => whnf))
   ·(refine' ⟨k + 1, _, _, _⟩; rotate_right; (refine SubA.auto rfl rfl rfl rfl ?_ ?_ <;> refine' fin_); rotate_right; exact ar2_)
    refine ⟨by omega, fun j h hj => ?_⟩
    rcases Nat.lt_or_ge j k with h1 | h1
    ·exact hlo j h h1
    ·have e : j = k := by omega
     subst e; exact h0
   replace hins := hins fun _ => h0
   apply DrawA.lin lfA (by kernel_rfl) (by decide +kernel)
   (conv => whnf); repeat' ((first | (apply PdC.same; · with_reducible rfl) | apply PdC.chk | apply PdA.mk | (apply EqA.mk; rfl) | (apply LzA.mk; · ((conv => whnf); repeat' ((first | (apply EqA.mk; rfl) | (apply And.intro; omega) | ((first | apply NW.as | apply ValA.as); with_reducible assumption) | ((first | apply NW.i64 | apply NW.u32 | apply NW.u64 | apply NW.u8 | apply CutA.hi | apply CutA.lo); omega) | (apply SzA.map; (intro _; rfl)) | refine' z9af5 | fail) <;> (conv => whnf)))) | refine' z668c | (fail "DrawA.lin")) <;> (conv => whnf))
   rotate_right
   ·(refine' ⟨(c + 1, nol, l), _, _, _⟩; rotate_right; (refine SubA.auto rfl rfl rfl rfl ?_ ?_ <;> refine' fin_); rotate_right; exact ar2_)
    exact ⟨Nat.succ_le_of_lt hlt, Nat.le_succ_of_le hlc, hMl, hl⟩
   all_goals
    have he : e = 8 \/ e = 4 := by omega
    obtain ⟨hF, hCon⟩ := hP8 he
    simp only [Bool.and_false, hins]
    refine CallA.loc [] [6] rfl rfl ((stCheck_call n2 false _ ns (insV l os[c]) _ hF hMx (added_call false _ hMx (by omega)) a b p n e hCon he).mono ?_)
    rintro _ _ ⟨rfl, rfl⟩
    refine' y8bcb
    (refine' ⟨(c + 1, nol, l), _, _, _⟩; rotate_right; (refine SubA.auto rfl rfl rfl rfl ?_ ?_ <;> refine' fin_); rotate_right; exact ar2_)
    exact ⟨Nat.succ_le_of_lt hlt, Nat.le_succ_of_le hlc, hMl, hl⟩
  ·(conv => whnf); repeat' ((first | (apply PdC.same; · with_reducible rfl) | apply PdC.chk | apply PdA.mk | (apply EqA.mk; rfl) | (apply LzA.mk; · ((conv => whnf); repeat' ((first | (apply EqA.mk; rfl) | refine' z9af5 | fail) <;> (conv => whnf)))) | refine' z668c | (fail "DrawA.lin")) <;> (conv => whnf))
   replace hins := hins fun h => by omega
   apply DrawA.lin lfA (by kernel_rfl) (by decide +kernel)
   (conv => whnf); repeat' ((first | (apply PdC.same; · with_reducible rfl) | apply PdC.chk | apply PdA.mk | (apply EqA.mk; rfl) | (apply LzA.mk; · ((conv => whnf); repeat' ((first | (apply EqA.mk; rfl) | (apply And.intro; omega) | ((first | apply NW.as | apply ValA.as); with_reducible assumption) | ((first | apply NW.i64 | apply NW.u32 | apply NW.u64 | apply NW.u8 | apply CutA.hi | apply CutA.lo); omega) | (apply SzA.map; (intro _; rfl)) | refine' z9af5 | fail) <;> (conv => whnf)))) | refine' z668c | (fail "DrawA.lin")) <;> (conv => whnf))
   rotate_right
   ·(refine' ⟨(c + 1, nol, l), _, _, _⟩; rotate_right; (refine SubA.auto rfl rfl rfl rfl ?_ ?_ <;> refine' fin_); rotate_right; exact ar2_)
    exact ⟨Nat.succ_le_of_lt hlt, Nat.le_succ_of_le hlc, hMl, hl⟩
   all_goals
    have he : e = 8 \/ e = 4 := by omega
    obtain ⟨hF, hCon⟩ := hP8 he
    simp only [Bool.and_false, hins]
    refine CallA.loc [] [6] rfl rfl ((stCheck_call n2 false _ ns (insV l os[c]) _ hF hMx (added_call false _ hMx (by omega)) a b p n e hCon he).mono ?_)
    rintro _ _ ⟨rfl, rfl⟩
    refine' y8bcb
    (refine' ⟨(c + 1, nol, l), _, _, _⟩; rotate_right; (refine SubA.auto rfl rfl rfl rfl ?_ ?_ <;> refine' fin_); rotate_right; exact ar2_)
    exact ⟨Nat.succ_le_of_lt hlt, Nat.le_succ_of_le hlc, hMl, hl⟩
end Go.Proofs.YtnhifaofkndclaaGreatDoor
