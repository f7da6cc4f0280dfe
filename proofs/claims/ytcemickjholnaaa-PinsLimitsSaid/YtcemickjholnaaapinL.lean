/- PinsLimits. -/
import Derived.Test.Ytcemickjholnaaapin8
namespace Go.Proofs.Ytcemickjholnaaa
set_option linter.unusedSimpArgs false
set_option linter.unusedVariables false
set_option linter.unnecessarySimpa false
open Go.Abs
set_option maxRecDepth 100000
def limN (i : Nat) : ByteArray := ⟨#[103]⟩ ++ bstr [97 + ((i % 26 : Nat) : Int), 97 + ((i / 26 : Nat) : Int)]
def limG (i : Nat) : Grp := ⟨limN i, false, [(i : Int)], false, [sUart]⟩
def limGs (c : Nat) : List Grp := (List.range c).map limG
def limF (i : Nat) : ByteArray := ⟨#[102]⟩ ++ bstr [97 + (i : Int)]
def limFs (c : Nat) : List ByteArray := (List.range c).map limF
theorem limGs_succ (c : Nat) : limGs (c + 1) = limGs c ++ [limG c] := by simp [limGs, List.range_succ]
theorem limFs_succ (c : Nat) : limFs (c + 1) = limFs c ++ [limF c] := by simp [limFs, List.range_succ]
theorem lim_p : ∀ k : Nat, k < 40 → (validP ⟨64, false, limGs k⟩ == 0) = decide (k ≤ 24) := by decide +kernel
theorem lim_q : ∀ k : Nat, k < 40 → validP ⟨(k : Int) + 40, false, [⟨⟨#[103]⟩, false, [0], false, limFs (1 + k % 12)⟩]⟩ = if 24 < k then 2 else if 7 < k % 12 then 3 else 0 := by decide +kernel
def l11SC0 : Sc := (.one 10 (.one 11 (.take 12 (.one 13 (.one 14 (.take 15 (.take 16 (.one 17 .done))))))))
def l11SC1 : Sc := (.one 11 (.take 12 (.one 13 (.one 14 (.take 15 (.take 16 (.one 17 .done)))))))
def l11SC2 : Sc := (.one 13 (.one 14 (.take 15 (.take 16 (.one 17 .done)))))
def l11SC3 : Sc := (.one 6 (.one 14 (.take 15 (.take 16 (.one 17 .done)))))
def l11SC4 : Sc := (.take 12 (.two 6 13 l11SC2 l11SC3))
def l11SC5 : Sc := (.two 6 11 l11SC1 l11SC4)
def l11SC6 : Sc := (.take 4 (.take 5 (.two 6 10 l11SC0 l11SC5)))
def l11SC7 : Sc := (.take 4 (.take 5 (.two 6 11 l11SC1 l11SC4)))
def l11SC8 : Sc := (.take 4 (.take 5 (.two 6 13 l11SC2 l11SC3)))
def l11SC9 : Sc := (.one 3 (.take 4 (.take 5 (.one 6 (.one 14 (.take 15 (.take 16 (.one 17 .done))))))))
def l11SC10 : Sc := (.take 12 (.two 3 13 l11SC8 l11SC9))
def l11SC11 : Sc := (.two 3 11 l11SC7 l11SC10)
def l11SC12 : Sc := (.two 3 10 l11SC6 l11SC11)
def l11SC13 : Sc := (.two 6 10 l11SC0 l11SC5)
def l11SC14 : Sc := (.one 14 (.take 15 (.take 16 (.one 17 .done))))
def l11SC15 : Sc := (.one 1 (.take 15 (.take 16 (.one 17 .done))))
def l11SC16 : Sc := (.two 1 14 l11SC14 l11SC15)
def l11SC17 : Sc := (.take 12 (.two 1 13 l11SC2 l11SC16))
def l11SC18 : Sc := (.two 1 11 l11SC1 l11SC17)
def l11SC19 : Sc := (.two 1 10 l11SC0 l11SC18)
def l11SC20 : Sc := (.two 6 13 l11SC2 l11SC3)
def l11SC21 : Sc := (.two 1 13 l11SC2 l11SC16)
def l11SC22 : Sc := (.two 1 6 l11SC3 l11SC16)
def l11SC23 : Sc := (.take 12 (.three 1 6 13 l11SC20 l11SC21 l11SC22))
def l11SC24 : Sc := (.three 1 6 11 l11SC5 l11SC18 l11SC23)
def l11SC25 : Sc := (.take 4 (.take 5 (.three 1 6 10 l11SC13 l11SC19 l11SC24)))
def l11SC26 : Sc := (.take 4 (.take 5 (.three 1 6 11 l11SC5 l11SC18 l11SC23)))
def l11SC27 : Sc := (.two 3 13 l11SC8 l11SC9)
def l11SC28 : Sc := (.take 4 (.take 5 (.three 1 6 13 l11SC20 l11SC21 l11SC22)))
def l11SC29 : Sc := (.take 4 (.take 5 (.two 1 6 l11SC3 l11SC16)))
def l11SC30 : Sc := (.two 1 3 l11SC9 l11SC29)
def l11SC31 : Sc := (.take 12 (.three 1 3 13 l11SC27 l11SC28 l11SC30))
def l11SC32 : Sc := (.three 1 3 11 l11SC11 l11SC26 l11SC31)
def l11Sc : Sc := (.take 0 (.take 2 (.take 7 (.take 8 (.take 9 (.three 1 3 10 l11SC12 l11SC25 l11SC32))))))
def limH (nb : Bool) (gs : List Grp) (c : Nat) (nf : Bool) (fs : List ByteArray) : Bool → AH
  | false => [some (.cells [.p (pI 64), .buf 1]), some (AO.buf 34 nb (gs.map Grp.pv)), some (.cells [.p (pI ((c : Int) + 40)), .sub 3 0 1]), some (.cells [.p (pS ⟨#[103]⟩), .p (.list false ([0].map pI)), .buf 4]), some (AO.buf 9 nf (fs.map pS))]
  | true => [some (.cells [.p (pI 64), .buf 1]), some (AO.buf 34 nb (gs.map Grp.pv)), some (.cells [.p (pI ((c : Int) + 40)), .p (.list false [(⟨⟨#[103]⟩, false, [0], false, fs⟩ : Grp).pv])])]
/-- Kept for later: a goal of a walk's step. -/
theorem park_pinL {P : Prop} (x : P) (_ : x = x) : P := x
/-- One step of a walk. -/
theorem go_pinL {P : Prop} (h : P := by
  (first | ((first | apply LenA.map | apply NilA.map | apply NilA.mk); intro _) | ((first | apply NW.as | apply ValA.as); with_reducible assumption) | ((first | apply NW.i64 | apply NW.u32 | apply NW.u64 | apply NW.u8 | apply InA.nat | apply InA.map | apply AppA.snoc (f := pI) (a := _) rfl | apply AppA.one (f := pI) (a := _) rfl | apply AppA.snoc (f := pB) (a := _) rfl | apply AppA.one (f := pB) (a := _) rfl | apply AppA.snoc (f := pS) (a := _) rfl | apply AppA.one (f := pS) (a := _) rfl | apply AppA.snoc (f := Grp.pv) (a := _) rfl | apply AppA.one (f := Grp.pv) (a := _) rfl | (apply AppA.snoc (f := Grp.pv) (a := ⟨_, _, _, _, _⟩); dsimp only [Grp.pv]; exact rfl) | (apply AppA.one (f := Grp.pv) (a := ⟨_, _, _, _, _⟩); dsimp only [Grp.pv]; exact rfl) | apply AppA.map | apply AppA.nil | apply CutA.lo | apply CutA.hi); (first | omega | (simp only [lenS] at *; omega) | grind)) | ((first | (apply RemA.as; assumption) | apply RemA.self); (first | omega | (simp only [lenS] at *; omega) | grind)) | (apply ValA.as; assumption) | apply ValA.self | (apply NW.as; assumption) | (apply SzA.map; (intro _; rfl)) | with_reducible apply br_pt | with_reducible apply br_pf | with_reducible apply br_mt | with_reducible apply br_mf | apply Both.mk | ((first | apply br_T | apply br_F | apply br_mT | apply br_mF); assumption) | ((first | apply br_lss | apply br_leq | apply br_gtr | apply br_geq | apply br_dec | apply br_beq | apply br_bne | apply br_beqB | apply br_bneB | apply br_not | apply br_m | apply br_intro) <;> intro h0 <;> first | (exfalso; first | omega | exact tf h0 (by assumption) | exact tf (by assumption) h0 | exact h0 (by assumption) | exact h0 rfl | exact of_decide_eq_false h0 rfl) | skip) | refine ArrA.mk _ rfl rfl ?_ | (apply IdxA.lit; omega; exact rfl) | ((first | apply IdxA.of_nat | (apply IdxA.of_map; (first | omega | (simp only [lenS] at *; omega) | grind))); rotate_left; (first | omega | (simp only [lenS] at *; omega) | grind)) | apply AppC.own | apply CutO.part | apply IsL.set (f := pI) (a := _) rfl | apply IsL.rep (f := pI) (a := _) rfl | apply IsL.set (f := pB) (a := _) rfl | apply IsL.rep (f := pB) (a := _) rfl | apply IsL.set (f := pS) (a := _) rfl | apply IsL.rep (f := pS) (a := _) rfl | apply IsL.set (f := Grp.pv) (a := _) rfl | apply IsL.rep (f := Grp.pv) (a := _) rfl | (apply IsL.set (f := Grp.pv) (a := ⟨_, _, _, _, _⟩); dsimp only [Grp.pv]; exact rfl) | (apply IsL.rep (f := Grp.pv) (a := ⟨_, _, _, _, _⟩); dsimp only [Grp.pv]; exact rfl) | apply IsL.lit (f := pI) [] rfl | apply IsL.lit (f := pI) [_] rfl | apply IsL.lit (f := pB) [] rfl | apply IsL.lit (f := pB) [_] rfl | apply IsL.lit (f := pS) [] rfl | apply IsL.lit (f := pS) [_] rfl | apply IsL.lit (f := Grp.pv) [] rfl | apply IsL.lit (f := Grp.pv) [_] rfl | apply IsL.lit (f := Grp.pv) [] rfl | apply IsL.lit (f := Grp.pv) [⟨_, _, _, _, _⟩] rfl | (apply And.intro; (first | with_reducible rfl | (show (_ : AV) = _; rfl) | (first | omega | (simp only [lenS] at *; omega) | grind)))) <;> (solve_by_elim (newGoals := .nonDependentOnly) (symm := false) (exfalso := false) (transparency := .reducible) only [rfl, park_pinL])) : P := h
set_option maxHeartbeats 16000000 in
theorem PinsLimits_call (a : Int) (ha : 0 ≤ a ∧ a ≤ 255) : ACall Try.prog 4 [.p (.v (.int .u8 a))] [] fun r H => r = .p (pB true) := by
  refine acall_enterDn 3 Try.func4 rfl rfl tabOK rfl ?_
  obtain ⟨k, hk⟩ : ∃ n : Nat, a.tmod 40 = n := ⟨(a.tmod 40).toNat, by rw [Int.tmod_eq_emod_of_nonneg ha.1]; omega⟩
  have hkl : k < 40 := by rw [Int.tmod_eq_emod_of_nonneg ha.1] at hk; omega
  have hvp := lim_p k hkl
  have hvq := lim_q k hkl
  (conv => whnf); repeat' ((first | apply CondA.plain | refine' go_pinL | (apply DrawA.quiet (by kernel_rfl) (by kernel_rfl); (conv => whnf); fail_if_success (show False))) <;> (conv => whnf))
  refine loopD_rule (fun (⟨c, nb, gs⟩ : Nat × Bool × List Grp) => ⟨[(3, .p (pI k)), (4, .ptr 0 0), (5, .p (pI c))], [some (.cells [.p (pI 64), .buf 1]), some (AO.buf 34 nb (gs.map Grp.pv))]⟩)
    (fun _ => []) (fun ⟨c, nb, gs⟩ => c ≤ k ∧ gs = limGs c) (fun ⟨c, _, _⟩ => k - c) (0, true, []) ?_ rfl ?_ ?_ ?_
  · refine SubC.cell _ 0 1 34 _ _ _ _ _ rfl rfl rfl (.sub _ (SubA.of [1] rfl ?_ ?_ rfl rfl)) <;> (repeat' (first | exact trivial | refine And.intro ?_ ?_ | with_reducible rfl | (refine pIEq ?_; (first | omega | (simp only [lenS] at *; omega) | grind)) | (refine bufMap ?_) | (refine bufNil ?_) | (refine bufEq ?_) | rfl))
  · exact ⟨Nat.zero_le _, rfl⟩
  · rintro ⟨c, nb, gs⟩ _ x hx
    cases hx
  rintro ⟨c, nb, gs⟩ ⟨hc, hgs⟩
  have hgl : gs.length = c := by rw [hgs]; simp [limGs]
  rcases Nat.lt_or_ge c k with hlt | hge
  · have hr : (c : Int).tmod 26 = ((c % 26 : Nat) : Int) := by rw [Int.tmod_eq_emod_of_nonneg (by omega)]; omega
    have hq : (c : Int).tdiv 26 = ((c / 26 : Nat) : Int) := by rw [Int.tdiv_eq_ediv_of_nonneg (by omega)]; omega
    have hr2 : c % 26 < 26 := Nat.mod_lt _ (by decide)
    have hq2 : c / 26 < 2 := by omega
    have hst : (⟨#[103]⟩ : ByteArray).size + (bstr [97 + ((c % 26 : Nat) : Int), 97 + ((c / 26 : Nat) : Int)]).size ≤ 9223372036854775807 := by
      have h1 : (⟨#[103]⟩ : ByteArray).size = 1 := rfl
      have h2 : (bstr [97 + ((c % 26 : Nat) : Int), 97 + ((c / 26 : Nat) : Int)]).size = 2 := rfl
      omega
    have hnx : gs ++ [limG c] = limGs (c + 1) := by rw [limGs_succ, hgs]
    (conv => whnf); repeat' ((first | (refine IsL.lit (f := fun n : Int => PV.v (.int .u8 n)) [97 + ((c % 26 : Nat) : Int), 97 + ((c / 26 : Nat) : Int)] rfl ?_) | (refine BytesA.mk [97 + ((c % 26 : Nat) : Int), 97 + ((c / 26 : Nat) : Int)] rfl ?_) | (refine StrA.mk hst ?_) | (refine IsL.lit (f := pI) [(c : Int)] rfl ?_) | (refine IsL.lit (f := pS) [sUart] rfl ?_) | (refine IsL.lit (f := Grp.pv) [limG c] rfl ?_) | apply CondA.plain | refine' go_pinL | (apply DrawA.quiet (by kernel_rfl) (by kernel_rfl); (conv => whnf); fail_if_success (show False))) <;> (conv => whnf))
    refine ⟨(c + 1, false, gs ++ [limG c]), ⟨by omega, hnx⟩, ?_, .sub _ ?_, rfl⟩
    · show k - (c + 1) < k - c
      omega
    · (refine SubA.auto rfl rfl rfl rfl ?_ ?_ <;> repeat' (first | exact trivial | refine And.intro ?_ ?_ | with_reducible rfl | (refine pIEq ?_; (first | omega | (simp only [lenS] at *; omega) | grind)) | (refine bufMap ?_) | (refine bufNil ?_) | (refine bufEq ?_) | rfl))
  obtain rfl : c = k := by omega
  have hk12 : (c : Int).tmod 12 = ((c % 12 : Nat) : Int) := by rw [Int.tmod_eq_emod_of_nonneg (by omega)]; omega
  have hkm : c % 12 < 12 := Nat.mod_lt _ (by decide)
  obtain ⟨t, ht⟩ : ∃ t, c % 12 = t := ⟨_, rfl⟩
  rw [ht] at hk12 hkm
  have hvq2 : validP ⟨(c : Int) + 40, false, [⟨⟨#[103]⟩, false, [0], false, limFs (1 + t)⟩]⟩ = if 24 < c then 2 else if 7 < t then 3 else 0 := by rw [← ht]; exact hvq
  clear hvq ht
  (conv => whnf); repeat' ((first | (refine IsL.lit (f := pI) [0] rfl ?_) | (refine IsL.lit (f := Grp.pv) [⟨⟨#[103]⟩, false, [0], true, []⟩] rfl ?_) | apply CondA.plain | refine' go_pinL | fail) <;> (conv => whnf))
  refine loopD_rule (fun (⟨d, nf, fs, z⟩ : Nat × Bool × List ByteArray × Bool) => ⟨[(3, .p (pI c)), (4, .ptr 0 0), (6, .ptr 2 0), (7, .p (pI d))], limH nb gs c nf fs z⟩)
    (fun _ => []) (fun ⟨d, nf, fs, z⟩ => d ≤ t + 1 ∧ fs = limFs d ∧ (z = true ↔ d = t + 1)) (fun ⟨d, _, _, _⟩ => t + 1 - d) (0, true, [], false) ?_ rfl ?_ ?_ ?_
  · refine SubC.rows _ 4 1 3 34 _ _ _ rfl rfl rfl (fun h => by cases h) (SubC.cell _ 5 2 9 _ _ _ _ _ rfl rfl rfl (.sub _ (SubA.of [1, 4, 5, 6] rfl ?_ ?_ rfl rfl))) <;> (repeat' (first | exact trivial | refine And.intro ?_ ?_ | with_reducible rfl | (refine pIEq ?_; (first | omega | (simp only [lenS] at *; omega) | grind)) | (refine bufMap ?_) | (refine bufNil ?_) | (refine bufEq ?_) | rfl))
  · exact ⟨Nat.zero_le _, rfl, by simp⟩
  · rintro ⟨d, nf, fs, z⟩ _ x hx
    cases hx
  rintro ⟨d, nf, fs, z⟩ ⟨hd, hfs, hz⟩
  rcases Nat.lt_or_ge d (t + 1) with hdl | hdg
  · obtain rfl : z = false := by
      cases z with
      | false => rfl
      | true => have := hz.1 rfl; omega
    have hfl : fs.length = d := by rw [hfs]; simp [limFs]
    have hst : (⟨#[102]⟩ : ByteArray).size + (bstr [97 + (d : Int)]).size ≤ 9223372036854775807 := by
      have h1 : (⟨#[102]⟩ : ByteArray).size = 1 := rfl
      have h2 : (bstr [97 + (d : Int)]).size = 1 := rfl
      omega
    have hnx : fs ++ [limF d] = limFs (d + 1) := by rw [limFs_succ, hfs]
    (conv => whnf); repeat' ((first | apply CondA.plain | refine' go_pinL | fail) <;> (conv => whnf))
    refine DrawA.meet (fun (u : Unit) => ⟨[(3, .p (pI c)), (4, .ptr 0 0), (6, .ptr 2 0), (7, .p (pI d))], [some (.cells [.p (pI 64), .buf 1]), some (AO.buf 34 nb (gs.map Grp.pv)), some (.cells [.p (pI ((c : Int) + 40)), .sub 3 0 1]), some (.cells [.p (pS ⟨#[103]⟩), .p (.list false ([0].map pI)), .buf 5]), none, some (AO.buf 9 false ((fs ++ [limF d]).map pS))]⟩) (fun (u : Unit) => True) (DrawB.orders l11Sc (by kernel_rfl) (by kernel_rfl) (by kernel_rfl) ?_) ?_
    · (conv => whnf); repeat' ((first | (refine IsL.lit (f := fun n : Int => PV.v (.int .u8 n)) [97 + (d : Int)] rfl ?_) | (refine BytesA.mk [97 + (d : Int)] rfl ?_) | (refine StrA.mk hst ?_) | (refine IsL.lit (f := pS) [limF d] rfl ?_) | apply CondA.plain | refine' go_pinL | fail) <;> (conv => whnf))
      all_goals
        refine ⟨(), trivial, SubA.of [7] rfl ?_ ?_ rfl rfl⟩ <;> (repeat' (first | exact trivial | refine And.intro ?_ ?_ | with_reducible rfl | (refine pIEq ?_; (first | omega | (simp only [lenS] at *; omega) | grind)) | (refine bufMap ?_) | (refine bufNil ?_) | (refine bufEq ?_) | rfl))
    rintro u _
    (conv => whnf); repeat' ((first | apply CondA.plain | refine' go_pinL | fail) <;> (conv => whnf))
    rcases Nat.lt_or_ge d t with hdt | hdt
    · refine ⟨(d + 1, false, fs ++ [limF d], false), ⟨by omega, hnx, ⟨fun h => (by cases h), fun h => by omega⟩⟩, ?_, .sub _ ?_, rfl⟩
      · show t + 1 - (d + 1) < t + 1 - d
        omega
      · refine SubA.of [1, 2, 3, 5] rfl ?_ ?_ rfl rfl <;> (repeat' (first | exact trivial | refine And.intro ?_ ?_ | with_reducible rfl | (refine pIEq ?_; (first | omega | (simp only [lenS] at *; omega) | grind)) | (refine bufMap ?_) | (refine bufNil ?_) | (refine bufEq ?_) | rfl))
    · refine ⟨(d + 1, false, fs ++ [limF d], true), ⟨by omega, hnx, ⟨fun _ => by omega, fun _ => rfl⟩⟩, ?_, .sub _ ?_, rfl⟩
      · show t + 1 - (d + 1) < t + 1 - d
        omega
      · refine SubA.thawed _ [5] [] ?_
        refine SubA.cells _ [3] ?_
        refine SubA.unrow _ 2 1 3 3 [(⟨⟨#[103]⟩, false, [0], false, fs ++ [limF d]⟩ : Grp).pv] _ rfl rfl rfl (fun x hx => by rw [List.mem_singleton.1 hx]; rfl) (by decide) ?_
        refine SubA.of [1, 2] rfl ?_ ?_ rfl rfl <;> (repeat' (first | exact trivial | refine And.intro ?_ ?_ | with_reducible rfl | (refine pIEq ?_; (first | omega | (simp only [lenS] at *; omega) | grind)) | (refine bufMap ?_) | (refine bufNil ?_) | (refine bufEq ?_) | rfl))
  obtain rfl : d = t + 1 := by omega
  obtain rfl : z = true := hz.2 rfl
  have hpv := pValid_call (⟨64, nb, gs⟩ : Pin)
  have hqv := pValid_call (⟨(c : Int) + 40, false, [⟨⟨#[103]⟩, false, [0], false, fs⟩]⟩ : Pin)
  have e1 : validP ⟨64, nb, gs⟩ = validP ⟨64, false, limGs c⟩ := by rw [hgs]; rfl
  have e2 : validP ⟨(c : Int) + 40, false, [⟨⟨#[103]⟩, false, [0], false, fs⟩]⟩ = if 24 < c then 2 else if 7 < t then 3 else 0 := by rw [hfs, Nat.add_comm t 1]; exact hvq2
  rw [e1] at hpv
  obtain ⟨v, hv⟩ : ∃ v, validP ⟨64, false, limGs c⟩ = v := ⟨_, rfl⟩
  rw [hv] at hvp hpv
  clear hvq2 e1 hv hz hfs hgs hk
  rcases Nat.lt_or_ge 24 c with h24 | h24
  · have hv0 : v ≠ 0 := fun e => by
      rw [e, decide_eq_false (show ¬ c ≤ 24 by omega)] at hvp
      cases hvp
    rw [e2, if_pos h24] at hqv
    have hvb : (v == 0) = decide ((c : Int) ≤ 24) := by
      rw [hvp]
      exact decide_eq_decide.2 (by omega)
    clear hvp e2
    (conv => whnf); repeat' ((first | apply CondA.plain | refine' go_pinL | fail) <;> (conv => whnf))
    refine CallA.loc [] [1] rfl rfl (hpv.mono ?_)
    rintro _ _ ⟨rfl, rfl⟩
    (conv => whnf); repeat' ((first | apply CondA.plain | refine' go_pinL | (refine CallA.scalar (hqv) ?_) | (refine CallA.scalar (sane22_call) ?_)) <;> (conv => whnf))
    refine .nil _ ?_
    conv => whnf
    (refine RetK.p ?_ <;> repeat' (first | exact trivial | refine And.intro ?_ ?_ | with_reducible rfl | (refine pIEq ?_; (first | omega | (simp only [lenS] at *; omega) | grind)) | (refine bufMap ?_) | (refine bufNil ?_) | (refine bufEq ?_) | rfl); all_goals try first | refine pBEq ?_ | refine pIEq ?_)
  · have hv0 : v = 0 := by
      rw [decide_eq_true h24] at hvp
      exact eq_of_beq hvp
    subst hv0
    rw [e2, if_neg (by omega)] at hqv
    have hvb : ((0 : Int) == 0) = decide ((c : Int) ≤ 24) := by
      rw [hvp]
      exact decide_eq_decide.2 (by omega)
    clear hvp e2
    rcases Nat.lt_or_ge 7 t with h7 | h7
    · rw [if_pos h7] at hqv
      (conv => whnf); repeat' ((first | apply CondA.plain | refine' go_pinL | fail) <;> (conv => whnf))
      refine CallA.loc [] [1] rfl rfl (hpv.mono ?_)
      rintro _ _ ⟨rfl, rfl⟩
      (conv => whnf); repeat' ((first | apply CondA.plain | refine' go_pinL | (refine CallA.scalar (hqv) ?_) | (refine CallA.scalar (sane22_call) ?_)) <;> (conv => whnf))
      refine .nil _ ?_
      conv => whnf
      (refine RetK.p ?_ <;> repeat' (first | exact trivial | refine And.intro ?_ ?_ | with_reducible rfl | (refine pIEq ?_; (first | omega | (simp only [lenS] at *; omega) | grind)) | (refine bufMap ?_) | (refine bufNil ?_) | (refine bufEq ?_) | rfl); all_goals try first | refine pBEq ?_ | refine pIEq ?_)
    · rw [if_neg (by omega)] at hqv
      (conv => whnf); repeat' ((first | apply CondA.plain | refine' go_pinL | fail) <;> (conv => whnf))
      refine CallA.loc [] [1] rfl rfl (hpv.mono ?_)
      rintro _ _ ⟨rfl, rfl⟩
      (conv => whnf); repeat' ((first | apply CondA.plain | refine' go_pinL | (refine CallA.scalar (hqv) ?_) | (refine CallA.scalar (sane22_call) ?_)) <;> (conv => whnf))
      refine .nil _ ?_
      conv => whnf
      (refine RetK.p ?_ <;> repeat' (first | exact trivial | refine And.intro ?_ ?_ | with_reducible rfl | (refine pIEq ?_; (first | omega | (simp only [lenS] at *; omega) | grind)) | (refine bufMap ?_) | (refine bufNil ?_) | (refine bufEq ?_) | rfl); all_goals try first | refine pBEq ?_ | refine pIEq ?_)
end Go.Proofs.Ytcemickjholnaaa
