/- Pinning: the reference's Check. -/
import Derived.Test.YtnogpkaehiapfaapgE
import Derived.Test.Ytnogpkaehiapfaapg9
namespace Go.Proofs.Ytnogpkaehiapfaa
set_option linter.unusedSimpArgs false
set_option linter.unusedVariables false
set_option linter.unnecessarySimpa false
open Go.Abs
set_option maxRecDepth 100000
theorem freeG_mem {gs : List Grp} {us vs : List Int} (h : ∀ x, x ∈ us ↔ x ∈ vs) (g : Int) : freeG_ gs us g = freeG_ gs vs g := by
  rw [Bool.eq_iff_iff, freeG_iff, freeG_iff]
  exact ⟨fun k u hu => k u ((h u).2 hu), fun k u hu => k u ((h u).1 hu)⟩
theorem readF_mem {gs : List Grp} {opts : List (List Int)} : ∀ (k : Nat) (has : List Bool) (us vs pr : List Int), (∀ x, x ∈ us ↔ x ∈ vs) → readF gs opts k has us pr = readF gs opts k has vs pr
  | 0, _, _, _, _, _ => rfl
  | _ + 1, _, _, _, [], _ => rfl
  | k + 1, has, us, vs, d :: rest, h => by
    rw [readF, readF]
    have e : (fun (acc : Option (List Int)) g => acc.bind fun s => if freeG_ gs us g then readF gs opts k (has.set d.toNat true) (us ++ [g]) s else some s) = fun acc g => acc.bind fun s => if freeG_ gs vs g then readF gs opts k (has.set d.toNat true) (vs ++ [g]) s else some s := by
      funext acc g
      congr 1
      funext s
      rw [freeG_mem h g, readF_mem k _ (us ++ [g]) (vs ++ [g]) s fun x => by simp [h x]]
    rw [e]
theorem fold_suf (f : List Int → Int → Option (List Int)) : ∀ (o : List Int) (s0 s : List Int), (∀ g s s', f s g = some s' → s' <:+ s) → o.foldl (fun acc g => acc.bind fun s => f s g) (some s0) = some s → s <:+ s0
  | [], s0, s, _, h => by
    injection h with h
    rw [h]; exact List.suffix_refl _
  | g :: r, s0, s, hf, h => by
    rw [List.foldl_cons, Option.bind_some] at h
    cases hg : f s0 g with
    | none => rw [hg, foldl_none] at h; cases h
    | some s1 =>
      rw [hg] at h
      exact (fold_suf f r s1 s hf h).trans (hf g s0 s1 hg)
theorem readF_suf {gs : List Grp} {opts : List (List Int)} : ∀ (k : Nat) (has : List Bool) (us pr s : List Int), readF gs opts k has us pr = some s → s <:+ pr
  | 0, _, _, _, _, h => by cases h
  | _ + 1, _, _, [], _, h => by cases h
  | k + 1, has, us, d :: rest, s, h => by
    rw [readF] at h
    split at h
    · refine (fold_suf _ _ _ _ (fun g s s' hs => ?_) h).trans (List.suffix_cons _ _)
      split at hs
      · exact readF_suf k _ _ _ _ hs
      · injection hs with hs; rw [hs]; exact List.suffix_refl _
    · cases h
/-- The demands that have groups, and these groups. -/
def hasG (gr : List Int) : List Bool := gr.map fun g => decide (0 ≤ g)
def usG (gr : List Int) : List Int := gr.filter fun g => decide (0 ≤ g)
theorem hasG_set {gr : List Int} {D : Nat} {z : Nat} : hasG (gr.set D z) = (hasG gr).set D true := by
  unfold hasG
  rw [List.map_set]
  congr 1
theorem usG_set {gr : List Int} {D : Nat} {z : Nat} (h : D < gr.length) (hn : gr[D] = -1) (x : Int) : x ∈ usG (gr.set D z) ↔ x ∈ usG gr ++ [(z : Int)] := by
  unfold usG
  rw [List.mem_filter, List.mem_append, List.mem_filter, List.mem_singleton]
  constructor
  · rintro ⟨h1, h2⟩
    rcases List.mem_or_eq_of_mem_set h1 with h3 | h3
    · exact .inl ⟨h3, h2⟩
    · exact .inr h3
  · rintro (⟨h1, h2⟩ | rfl)
    · refine ⟨?_, h2⟩
      obtain ⟨j, hj, rfl⟩ := List.getElem_of_mem h1
      have hne : D ≠ j := fun e => by
        subst e
        have := of_decide_eq_true h2
        omega
      have : (gr.set D z)[j]'(by rw [List.length_set]; exact hj) = gr[j] := by rw [List.getElem_set, if_neg hne]
      rw [← this]; exact List.getElem_mem _
    · refine ⟨?_, decide_eq_true (Int.natCast_nonneg z)⟩
      have : (gr.set D z)[D]'(by rw [List.length_set]; exact h) = (z : Int) := by rw [List.getElem_set, if_pos rfl]
      have h2 := List.getElem_mem (l := gr.set D (z : Int)) (n := D) (by rw [List.length_set]; exact h)
      rwa [this] at h2
/-- The place behind what was read. -/
def posF (pr : List Int) : Option (List Int) → Int
  | some s => (pr.length : Int) - s.length
  | none => -1
def r7Sc : Sc := (.frz 0 (.take 1 (.take 2 (.take 3 (.load 4 (.one 5 (.take 6 .done)))))))
def r11Sc : Sc := (.frz 0 (.take 1 (.take 2 (.take 3 (.take 4 (.load 5 (.one 6 (.take 7 .done))))))))
theorem suf_drop {s pr : List Int} (h : s <:+ pr) : s = pr.drop (pr.length - s.length) ∧ s.length ≤ pr.length := by
  obtain ⟨t, rfl⟩ := h
  simp
/-- Kept for later: a goal of a walk's step. -/
theorem park_pgP {P : Prop} (x : P) (_ : x = x) : P := x
/-- One step of a walk. -/
theorem go_pgP {P : Prop} (h : P := by
  (first | ((first | apply LenA.map | apply NilA.map | apply NilA.mk); intro _) | ((first | apply NW.as | apply ValA.as); with_reducible assumption) | ((first | apply NW.i64 | apply NW.u32 | apply NW.u64 | apply NW.u8 | apply InA.nat | apply InA.map | apply AppA.snoc (f := pI) (a := _) rfl | apply AppA.one (f := pI) (a := _) rfl | apply AppA.snoc (f := pB) (a := _) rfl | apply AppA.one (f := pB) (a := _) rfl | apply AppA.snoc (f := pS) (a := _) rfl | apply AppA.one (f := pS) (a := _) rfl | apply AppA.map | apply AppA.nil | apply CutA.lo | apply CutA.hi); (first | omega | (simp only [lenS] at *; omega) | grind)) | ((first | (apply RemA.as; assumption) | apply RemA.self); (first | omega | (simp only [lenS] at *; omega) | grind)) | (apply ValA.as; assumption) | apply ValA.self | (apply NW.as; assumption) | (apply SzA.map; (intro _; rfl)) | with_reducible apply br_pt | with_reducible apply br_pf | with_reducible apply br_mt | with_reducible apply br_mf | apply Both.mk | ((first | apply br_T | apply br_F | apply br_mT | apply br_mF); assumption) | ((first | apply br_lss | apply br_leq | apply br_gtr | apply br_geq | apply br_dec | apply br_beq | apply br_bne | apply br_beqB | apply br_bneB | apply br_not | apply br_m | apply br_intro) <;> intro h0 <;> first | (exfalso; first | omega | exact tf h0 (by assumption) | exact tf (by assumption) h0 | exact h0 (by assumption) | exact h0 rfl | exact of_decide_eq_false h0 rfl) | skip) | refine ArrA.mk _ rfl rfl ?_ | (apply IdxA.lit; omega; exact rfl) | ((first | apply IdxA.of_nat | (apply IdxA.of_map; (first | omega | (simp only [lenS] at *; omega) | grind))); rotate_left; (first | omega | (simp only [lenS] at *; omega) | grind)) | apply AppC.own | apply CutO.part | apply IsL.set (f := pI) (a := _) rfl | apply IsL.rep (f := pI) (a := _) rfl | apply IsL.set (f := pB) (a := _) rfl | apply IsL.rep (f := pB) (a := _) rfl | apply IsL.set (f := pS) (a := _) rfl | apply IsL.rep (f := pS) (a := _) rfl | apply IsL.lit (f := pI) [] rfl | apply IsL.lit (f := pI) [_] rfl | apply IsL.lit (f := pB) [] rfl | apply IsL.lit (f := pB) [_] rfl | apply IsL.lit (f := pS) [] rfl | apply IsL.lit (f := pS) [_] rfl | (apply And.intro; (first | with_reducible rfl | (show (_ : AV) = _; rfl) | (first | omega | (simp only [lenS] at *; omega) | grind)))) <;> (solve_by_elim (newGoals := .nonDependentOnly) (symm := false) (exfalso := false) (transparency := .reducible) only [rfl, park_pgP])) : P := h
set_option maxHeartbeats 16000000 in
theorem rread_call {p : Pin} (hP : VP p) (nl np : Bool) (l : List ByteArray) (pr : List Int) (hll : l.length ≤ 10) : ∀ (k : Nat) (nu : Bool) (gr : List Int) (a : Nat), gr.length = l.length → (∀ g ∈ gr, -1 ≤ g ∧ g < p.gs.length) → gr.countP (fun g => decide (g = -1)) ≤ k → a ≤ pr.length →
    ACall Try.prog 61 [.p p.pv, .p (.list nl (l.map pS)), .p (.list nu (gr.map pI)), .p (.list np (pr.map pI)), .p (pI a)] [] fun r H => r = .p (pI (posF pr (readF p.gs (optsL p l) k (hasG gr) (usG gr) (pr.drop a)))) ∧ H = [] := by
  intro k
  induction k with
  | zero =>
    intro nu gr a hgl hgr hcp ha
    refine acall_enter Try.func61 rfl rfl tabOK rfl ?_
    rw [readF]
    have e : posF pr none = -1 := rfl
    rw [e]
    rcases Nat.lt_or_ge a pr.length with hlt | hge
    rotate_left
    · (conv => whnf); repeat' ((first | apply CondA.plain | refine' go_pgP | (apply DrawA.quiet (by kernel_rfl) (by kernel_rfl); (conv => whnf); fail_if_success (show False))) <;> (conv => whnf))
      (refine' RetK.auto (.p (pI (-1))) ([]) rfl rfl rfl rfl _ _ _ <;> repeat' (first | exact trivial | refine And.intro ?_ ?_ | with_reducible rfl | (refine pIEq ?_; (first | omega | (simp only [lenS] at *; omega) | grind)) | (refine bufMap ?_) | (refine bufNil ?_) | (refine bufEq ?_) | rfl))
    obtain ⟨d, hd⟩ : ∃ d, pr[a] = d := ⟨_, rfl⟩
    have hd1 : pr[((a : Nat) : Int).toNat]? = some d := by rw [Int.toNat_natCast, List.getElem?_eq_getElem hlt, hd]
    have ha0 := Int.natCast_nonneg a
    rcases Decidable.em (0 ≤ d ∧ d < l.length) with hdr | hdr
    · obtain ⟨hd0, hdl⟩ := hdr
      obtain ⟨D, rfl⟩ : ∃ D : Nat, d = D := ⟨d.toNat, by omega⟩
      have hDl : D < gr.length := by omega
      obtain ⟨q, hq⟩ : ∃ q, gr[D] = q := ⟨_, rfl⟩
      have hq1 : gr[((D : Nat) : Int).toNat]? = some q := by rw [Int.toNat_natCast, List.getElem?_eq_getElem hDl, hq]
      have hqn : q ≠ -1 := fun e => by
        have : 0 < gr.countP (fun g => decide (g = -1)) := List.countP_pos_iff.2 ⟨gr[D], List.getElem_mem _, by rw [hq]; exact decide_eq_true e⟩
        omega
      (conv => whnf); repeat' ((first | (apply IdxA.at_ (f := pI) (D : Int) ha0 hd1) | (apply IdxA.at_ (f := pI) q (Int.natCast_nonneg D) hq1) | apply CondA.plain | refine' go_pgP | (apply DrawA.quiet (by kernel_rfl) (by kernel_rfl); (conv => whnf); fail_if_success (show False))) <;> (conv => whnf))
      (refine' RetK.auto (.p (pI (-1))) ([]) rfl rfl rfl rfl _ _ _ <;> repeat' (first | exact trivial | refine And.intro ?_ ?_ | with_reducible rfl | (refine pIEq ?_; (first | omega | (simp only [lenS] at *; omega) | grind)) | (refine bufMap ?_) | (refine bufNil ?_) | (refine bufEq ?_) | rfl))
    · (conv => whnf); repeat' ((first | (apply IdxA.at_ (f := pI) d ha0 hd1) | apply CondA.plain | refine' go_pgP | (apply DrawA.quiet (by kernel_rfl) (by kernel_rfl); (conv => whnf); fail_if_success (show False))) <;> (conv => whnf))
      all_goals (refine' RetK.auto (.p (pI (-1))) ([]) rfl rfl rfl rfl _ _ _ <;> repeat' (first | exact trivial | refine And.intro ?_ ?_ | with_reducible rfl | (refine pIEq ?_; (first | omega | (simp only [lenS] at *; omega) | grind)) | (refine bufMap ?_) | (refine bufNil ?_) | (refine bufEq ?_) | rfl))
  | succ k IH =>
    intro nu gr a hgl hgr hcp ha
    refine acall_enter Try.func61 rfl rfl tabOK rfl ?_
    have e : posF pr none = -1 := rfl
    rcases Nat.lt_or_ge a pr.length with hlt | hge
    rotate_left
    · rw [List.drop_of_length_le hge, readF, e]
      (conv => whnf); repeat' ((first | apply CondA.plain | refine' go_pgP | (apply DrawA.quiet (by kernel_rfl) (by kernel_rfl); (conv => whnf); fail_if_success (show False))) <;> (conv => whnf))
      (refine' RetK.auto (.p (pI (-1))) ([]) rfl rfl rfl rfl _ _ _ <;> repeat' (first | exact trivial | refine And.intro ?_ ?_ | with_reducible rfl | (refine pIEq ?_; (first | omega | (simp only [lenS] at *; omega) | grind)) | (refine bufMap ?_) | (refine bufNil ?_) | (refine bufEq ?_) | rfl))
    obtain ⟨d, hd⟩ : ∃ d, pr[a] = d := ⟨_, rfl⟩
    have hd1 : pr[((a : Nat) : Int).toNat]? = some d := by rw [Int.toNat_natCast, List.getElem?_eq_getElem hlt, hd]
    have ha0 := Int.natCast_nonneg a
    have hol := opts_len p l
    rw [List.drop_eq_getElem_cons hlt, hd]
    rcases Decidable.em (0 ≤ d ∧ d < l.length) with hdr | hdr
    rotate_left
    · rw [readF, if_neg (fun h => hdr ⟨h.1, by have := h.2.1; rw [hol] at this; exact this⟩), e]
      (conv => whnf); repeat' ((first | (apply IdxA.at_ (f := pI) d ha0 hd1) | apply CondA.plain | refine' go_pgP | (apply DrawA.quiet (by kernel_rfl) (by kernel_rfl); (conv => whnf); fail_if_success (show False))) <;> (conv => whnf))
      all_goals (refine' RetK.auto (.p (pI (-1))) ([]) rfl rfl rfl rfl _ _ _ <;> repeat' (first | exact trivial | refine And.intro ?_ ?_ | with_reducible rfl | (refine pIEq ?_; (first | omega | (simp only [lenS] at *; omega) | grind)) | (refine bufMap ?_) | (refine bufNil ?_) | (refine bufEq ?_) | rfl))
    obtain ⟨hd0, hdl⟩ := hdr
    obtain ⟨D, rfl⟩ : ∃ D : Nat, d = D := ⟨d.toNat, by omega⟩
    have hDl : D < gr.length := by omega
    obtain ⟨q, hq⟩ : ∃ q, gr[D] = q := ⟨_, rfl⟩
    have hq1 : gr[((D : Nat) : Int).toNat]? = some q := by rw [Int.toNat_natCast, List.getElem?_eq_getElem hDl, hq]
    have hqr := hgr q (by rw [← hq]; exact List.getElem_mem _)
    have hhg : (hasG gr).getD D true = decide (0 ≤ q) := by rw [hasG, List.getD_eq_getElem?_getD, List.getElem?_map, List.getElem?_eq_getElem hDl, hq]; rfl
    rcases Decidable.em (q = -1) with hqn | hqn
    rotate_left
    · rw [readF, if_neg (fun h => by
        have := h.2.2
        rw [Int.toNat_natCast, hhg, decide_eq_true (show (0 : Int) ≤ q by omega)] at this
        cases this), e]
      (conv => whnf); repeat' ((first | (apply IdxA.at_ (f := pI) (D : Int) ha0 hd1) | (apply IdxA.at_ (f := pI) q (Int.natCast_nonneg D) hq1) | apply CondA.plain | refine' go_pgP | (apply DrawA.quiet (by kernel_rfl) (by kernel_rfl); (conv => whnf); fail_if_success (show False))) <;> (conv => whnf))
      (refine' RetK.auto (.p (pI (-1))) ([]) rfl rfl rfl rfl _ _ _ <;> repeat' (first | exact trivial | refine And.intro ?_ ?_ | with_reducible rfl | (refine pIEq ?_; (first | omega | (simp only [lenS] at *; omega) | grind)) | (refine bufMap ?_) | (refine bufNil ?_) | (refine bufEq ?_) | rfl))
    subst hqn
    obtain ⟨f, hf⟩ : ∃ f, l[D]'(by omega) = f := ⟨_, rfl⟩
    have hf1 : l[((D : Nat) : Int).toNat]? = some f := by rw [Int.toNat_natCast, List.getElem?_eq_getElem (by omega), hf]
    have hog : (optsL p l).getD D [] = offersF p f := by rw [List.getD_eq_getElem?_getD, List.getElem?_eq_getElem (by omega), optsL_at (by omega), hf]; rfl
    rw [readF, if_pos ⟨by omega, by omega, by rw [Int.toNat_natCast, hhg]; rfl⟩, Int.toNat_natCast, hog]
    have hor : ∀ g ∈ offersF p f, 0 ≤ g ∧ g < p.gs.length := fun g hg => offersF_in hg
    have hoff := roffers_call hP f
    obtain ⟨o, ho⟩ : ∃ o, offersF p f = o := ⟨_, rfl⟩
    rw [ho] at hor hoff ⊢
    obtain ⟨G, hG⟩ : ∃ G : List Int → Int → Option (List Int), G = fun s g => if freeG_ p.gs (usG gr) g then readF p.gs (optsL p l) k ((hasG gr).set D true) (usG gr ++ [g]) s else some s := ⟨_, rfl⟩
    have hG2 : (fun (acc : Option (List Int)) g => acc.bind fun s => if freeG_ p.gs (usG gr) g then readF p.gs (optsL p l) k ((hasG gr).set D true) (usG gr ++ [g]) s else some s) = fun acc g => acc.bind fun s => G s g := by rw [hG]
    rw [hG2]
    have hcs : ∀ z : Nat, (gr.set D z).countP (fun g => decide (g = -1)) ≤ k := fun z => by
      rw [List.countP_set hDl, hq]
      have h1 : (if decide ((z : Int) = -1) = true then 1 else 0) = 0 := by rw [if_neg]; simp
      rw [h1]
      simp
      omega
    (conv => whnf); repeat' ((first | (apply IdxA.at_ (f := pI) (D : Int) ha0 hd1) | (apply IdxA.at_ (f := pI) (-1) (Int.natCast_nonneg D) hq1) | apply CondA.plain | refine' go_pgP | fail) <;> (conv => whnf))
    refine DrawA.retire 5 0 [pI p.n, .list p.nl (p.gs.map Grp.pv)] rfl rfl ?_
    apply DrawA.orders r7Sc (by kernel_rfl) (by kernel_rfl) (by kernel_rfl)
    (conv => whnf); repeat' ((first | (apply IdxA.at_ (f := pS) f (Int.natCast_nonneg D) hf1) | apply CondA.plain | refine' go_pgP | ((refine CallA.fresh _ hoff ?_; rintro _ ⟨n1, rfl⟩))) <;> (conv => whnf))
    refine loop_rule (fun (⟨c, R, v⟩ : Nat × Option (List Int) × Int) => ⟨[(1, .p (.list nl (l.map pS))), (2, .p (.list nu (gr.map pI))), (3, .p (.list np (pr.map pI))), (4, .p (pI v)), (5, .rptr [pI p.n, .list p.nl (p.gs.map Grp.pv)]), (11, .p (pI D)), (12, .p (.list n1 (o.map pI))), (13, .p (pI c))], []⟩) (fun (⟨c, R, v⟩ : Nat × Option (List Int) × Int) => c ≤ o.length ∧ o.foldl (fun acc g => acc.bind fun s => G s g) (some (pr.drop (a + 1))) = (o.drop c).foldl (fun acc g => acc.bind fun s => G s g) R ∧ (∀ s, R = some s → s <:+ pr) ∧ v = posF pr R) (fun (⟨c, R, v⟩ : Nat × Option (List Int) × Int) => o.length - c) (0, some (pr.drop (a + 1)), (a : Int) + 1) ?_ ?_ ?_; (refine SubA.auto rfl rfl rfl rfl ?_ ?_ <;> repeat' (first | exact trivial | refine And.intro ?_ ?_ | with_reducible rfl | (refine pIEq ?_; (first | omega | (simp only [lenS] at *; omega) | grind)) | (refine bufMap ?_) | (refine bufNil ?_) | (refine bufEq ?_) | rfl))
    · refine ⟨Nat.zero_le _, rfl, fun s h => (by injection h with h; rw [← h]; exact List.drop_suffix _ _), ?_⟩
      show (a : Int) + 1 = (pr.length : Int) - (pr.drop (a + 1)).length
      rw [List.length_drop]
      omega
    rintro ⟨c, R, v⟩ ⟨hc, hfs, hsf, hv⟩
    cases R with
    | none =>
      rw [foldl_none] at hfs
      rw [e] at hv
      subst hv
      rw [hfs, e]
      (conv => whnf); repeat' ((first | apply CondA.plain | refine' go_pgP | fail) <;> (conv => whnf))
      all_goals (refine' RetK.auto (.p (pI (-1))) ([]) rfl rfl rfl rfl _ _ _ <;> repeat' (first | exact trivial | refine And.intro ?_ ?_ | with_reducible rfl | (refine pIEq ?_; (first | omega | (simp only [lenS] at *; omega) | grind)) | (refine bufMap ?_) | (refine bufNil ?_) | (refine bufEq ?_) | rfl))
    | some s =>
      obtain ⟨hsd, hsl⟩ := suf_drop (hsf s rfl)
      obtain ⟨b, hb⟩ : ∃ b, pr.length - s.length = b := ⟨_, rfl⟩
      have hpb : posF pr (some s) = (b : Nat) := by show (pr.length : Int) - s.length = _; omega
      rw [hb] at hsd
      have hbl : b ≤ pr.length := by omega
      rw [hpb] at hv
      subst hv
      rcases Nat.lt_or_ge c o.length with hl2 | hge
      rotate_left
      · rw [List.drop_of_length_le hge, List.foldl_nil] at hfs
        rw [hfs, hpb]
        (conv => whnf); repeat' ((first | apply CondA.plain | refine' go_pgP | fail) <;> (conv => whnf))
        (refine' RetK.auto (.p (pI b)) ([]) rfl rfl rfl rfl _ _ _ <;> repeat' (first | exact trivial | refine And.intro ?_ ?_ | with_reducible rfl | (refine pIEq ?_; (first | omega | (simp only [lenS] at *; omega) | grind)) | (refine bufMap ?_) | (refine bufNil ?_) | (refine bufEq ?_) | rfl))
      obtain ⟨g, hg⟩ : ∃ g, o[c] = g := ⟨_, rfl⟩
      have hg1 : o[((c : Nat) : Int).toNat]? = some g := by rw [Int.toNat_natCast, List.getElem?_eq_getElem hl2, hg]
      have hc0 := Int.natCast_nonneg c
      have hgm : g ∈ o := by rw [← hg]; exact List.getElem_mem _
      have hgr2 := hor g hgm
      obtain ⟨z, rfl⟩ : ∃ z : Nat, g = z := ⟨g.toNat, by omega⟩
      have hzl : z < p.gs.length := by omega
      have hfc := rfree_call hP nu gr z (fun u hu => (hgr u hu).2) hzl
      have hfn : freeN p.gs gr (z : Int) = freeG_ p.gs (usG gr) (z : Int) := rfl
      rw [hfn] at hfc
      rw [List.drop_eq_getElem_cons hl2, List.foldl_cons, hg, Option.bind_some] at hfs
      cases hfv : freeG_ p.gs (usG gr) (z : Int) with
      | false =>
        have hGz : G s (z : Int) = some s := by rw [hG]; show (if _ then _ else _) = _; rw [hfv]; rfl
        rw [hGz] at hfs
        rw [hfv] at hfc
        (conv => whnf); repeat' ((first | apply CondA.plain | refine' go_pgP | fail) <;> (conv => whnf))
        apply DrawA.orders r11Sc (by kernel_rfl) (by kernel_rfl) (by kernel_rfl)
        (conv => whnf); repeat' ((first | (apply IdxA.at_ (f := pI) (z : Int) hc0 hg1) | apply CondA.plain | refine' go_pgP | (refine CallA.scalar (hfc) ?_)) <;> (conv => whnf))
        (refine' ⟨(c + 1, some s, (b : Int)), _, _, _⟩; rotate_right; (refine SubA.auto rfl rfl rfl rfl ?_ ?_ <;> repeat' (first | exact trivial | refine And.intro ?_ ?_ | with_reducible rfl | (refine pIEq ?_; (first | omega | (simp only [lenS] at *; omega) | grind)) | (refine bufMap ?_) | (refine bufNil ?_) | (refine bufEq ?_) | rfl)); rotate_right; (first | omega | (simp only []; omega) | (simp; omega) | (first | omega | (simp only [lenS] at *; omega) | grind)))
        exact ⟨by omega, hfs, hsf, hpb.symm⟩
      | true =>
        have hGz : G s (z : Int) = readF p.gs (optsL p l) k (hasG (gr.set D z)) (usG (gr.set D z)) (pr.drop b) := by
          rw [hG]
          show (if _ then _ else _) = _
          rw [hfv, if_pos rfl, hasG_set, ← hsd]
          exact readF_mem _ _ _ _ _ fun x => (usG_set hDl hq x).symm
        rw [hfv] at hfc
        have IH2 := fun nb2 => IH nb2 (gr.set D z) b (by rw [List.length_set]; exact hgl) (fun y hy => by
          rcases List.mem_or_eq_of_mem_set hy with h | h
          · exact hgr y h
          · rw [h]; omega) (hcs z) hbl
        rw [← hGz] at IH2
        obtain ⟨R2, hR2⟩ : ∃ R2, G s (z : Int) = R2 := ⟨_, rfl⟩
        have hsf2 : ∀ s', R2 = some s' → s' <:+ pr := fun s' h => by
          rw [← hR2, hGz] at h
          exact (readF_suf _ _ _ _ _ h).trans (List.drop_suffix _ _)
        rw [hR2] at IH2 hfs
        have hDm : D < (gr.map pI).length := by rw [List.length_map]; exact hDl
        (conv => whnf); repeat' ((first | apply CondA.plain | refine' go_pgP | fail) <;> (conv => whnf))
        apply DrawA.orders r11Sc (by kernel_rfl) (by kernel_rfl) (by kernel_rfl)
        (conv => whnf); repeat' ((first | (apply IdxA.at_ (f := pI) (z : Int) hc0 hg1) | (refine InA.mk D rfl hDm ?_) | apply CondA.plain | refine' go_pgP | (refine CallA.scalar (hfc) ?_)) <;> (conv => whnf))
        refine CallA.loc [] [0] rfl rfl ((IH2 _).mono ?_)
        rintro _ _ ⟨rfl, rfl⟩
        (conv => whnf); repeat' ((first | apply CondA.plain | refine' go_pgP | fail) <;> (conv => whnf))
        (refine' ⟨(c + 1, R2, posF pr R2), _, _, _⟩; rotate_right; (refine SubA.auto rfl rfl rfl rfl ?_ ?_ <;> repeat' (first | exact trivial | refine And.intro ?_ ?_ | with_reducible rfl | (refine pIEq ?_; (first | omega | (simp only [lenS] at *; omega) | grind)) | (refine bufMap ?_) | (refine bufNil ?_) | (refine bufEq ?_) | rfl)); rotate_right; (first | omega | (simp only []; omega) | (simp; omega) | (first | omega | (simp only [lenS] at *; omega) | grind)))
        exact ⟨by omega, hfs, hsf2, rfl⟩
theorem gr_has (n : Nat) (given : List Int) (h : ∀ g ∈ given, 0 ≤ g) : hasG (given ++ List.replicate (n - given.length) (-1)) = hasL n given.length := by
  unfold hasG hasL
  rw [List.map_append, List.map_replicate]
  congr 1
  refine List.eq_replicate_iff.2 ⟨by rw [List.length_map], fun b hb => ?_⟩
  obtain ⟨g, hg, rfl⟩ := List.mem_map.1 hb
  exact decide_eq_true (h g hg)
theorem gr_us (n : Nat) (given : List Int) (h : ∀ g ∈ given, 0 ≤ g) : usG (given ++ List.replicate n (-1)) = given := by
  unfold usG
  rw [List.filter_append, List.filter_eq_self.2 fun g hg => decide_eq_true (h g hg), List.filter_eq_nil_iff.2 fun x hx => by rw [List.eq_of_mem_replicate hx]; simp, List.append_nil]
theorem pos_all {pr : List Int} (R : Option (List Int)) (h : pr.length ≤ 4000) : decide (posF pr R = pr.length) = decide (R = some []) := by
  refine decide_eq_decide.2 ?_
  cases R with
  | none => exact ⟨fun h => by have h : (-1 : Int) = pr.length := h; omega, fun h => by cases h⟩
  | some s =>
    constructor
    · intro h
      have h : (pr.length : Int) - s.length = pr.length := h
      have : s.length = 0 := by omega
      rw [List.eq_nil_of_length_eq_zero this]
    · intro h
      injection h with h
      rw [h]
      show (pr.length : Int) - 0 = pr.length
      omega
theorem CpA.of_ {α : Type} {f : α → PV} {xs ys : List PV} {lo hi : Nat} {k : Nat → List PV → Prop} (l r : List α) (n : Nat) (hx : xs = l.map f) (hy : ys = r.map f) (hn : min (hi - lo) r.length = n) (hk : k n ((l.take lo ++ r.take n ++ l.drop (lo + n)).map f)) : CpA xs ys lo hi k := by
  subst hx; subst hy
  refine ⟨n, _, by rw [List.length_map]; exact hn, ?_, hk⟩
  simp only [List.map_append, List.map_take, List.map_drop]
theorem fill_m1 {n c : Nat} (h : c < n) : (List.replicate c (-1 : Int) ++ List.replicate (n - c) 0).set c (-1) = List.replicate (c + 1) (-1) ++ List.replicate (n - (c + 1)) 0 := by
  rw [List.set_append_right _ _ (by simp)]
  have e : n - c = n - (c + 1) + 1 := by omega
  simp only [List.length_replicate, Nat.sub_self]
  rw [e, List.replicate_succ, List.set_cons_zero, List.replicate_succ', List.append_assoc]; rfl
set_option maxHeartbeats 8000000 in
theorem rCheck_call (p : Pin) (nl nu np : Bool) (l : List ByteArray) (us pr : List Int) : ACall Try.prog 32 [.p p.pv, .p (.list nl (l.map pS)), .p (.list nu (us.map pI)), .p (.list np (pr.map pI))] [] fun r H => r = .p (pB (checkF p l us pr)) ∧ H = [] := by
  refine acall_enter Try.func32 rfl rfl tabOK rfl ?_
  have hbc := rbad_call p nl nu l us
  rcases Decidable.em (badF p l us = 0 ∧ pr.length ≠ 0 ∧ pr.length ≤ 4000) with hv | hv
  rotate_left
  · have e : checkF p l us pr = false := by
      unfold checkF
      rcases Decidable.em (badF p l us = 0) with h1 | h1
      · rcases Decidable.em (pr.length = 0) with h2 | h2
        · rw [h2]; simp
        · rw [decide_eq_false (show ¬ pr.length ≤ 4000 from fun h => hv ⟨h1, h2, h⟩)]; simp
      · rw [decide_eq_false h1]; simp
    rw [e]
    rcases Decidable.em (badF p l us = 0) with h1 | h1
    · rw [h1] at hbc hv
      rcases Decidable.em (pr.length = 0) with h2 | h2
      · (conv => whnf); repeat' ((first | apply CondA.plain | refine' go_pgP | (apply DrawA.quiet (by kernel_rfl) (by kernel_rfl); (conv => whnf); fail_if_success (show False)) | (refine CallA.scalar (hbc) ?_)) <;> (conv => whnf))
        (refine RetK.p ?_ <;> repeat' (first | exact trivial | refine And.intro ?_ ?_ | with_reducible rfl | (refine pIEq ?_; (first | omega | (simp only [lenS] at *; omega) | grind)) | (refine bufMap ?_) | (refine bufNil ?_) | (refine bufEq ?_) | rfl); all_goals try first | refine pBEq ?_ | refine pIEq ?_)
      · have h3 : ¬ pr.length ≤ 4000 := fun h => hv ⟨rfl, h2, h⟩
        (conv => whnf); repeat' ((first | apply CondA.plain | refine' go_pgP | (apply DrawA.quiet (by kernel_rfl) (by kernel_rfl); (conv => whnf); fail_if_success (show False)) | (refine CallA.scalar (hbc) ?_)) <;> (conv => whnf))
        (refine RetK.p ?_ <;> repeat' (first | exact trivial | refine And.intro ?_ ?_ | with_reducible rfl | (refine pIEq ?_; (first | omega | (simp only [lenS] at *; omega) | grind)) | (refine bufMap ?_) | (refine bufNil ?_) | (refine bufEq ?_) | rfl); all_goals try first | refine pBEq ?_ | refine pIEq ?_)
    · obtain ⟨E, hE⟩ : ∃ E, badF p l us = E := ⟨_, rfl⟩
      rw [hE] at h1 hbc
      (conv => whnf); repeat' ((first | apply CondA.plain | refine' go_pgP | (apply DrawA.quiet (by kernel_rfl) (by kernel_rfl); (conv => whnf); fail_if_success (show False)) | (refine CallA.scalar (hbc) ?_)) <;> (conv => whnf))
      (refine RetK.p ?_ <;> repeat' (first | exact trivial | refine And.intro ?_ ?_ | with_reducible rfl | (refine pIEq ?_; (first | omega | (simp only [lenS] at *; omega) | grind)) | (refine bufMap ?_) | (refine bufNil ?_) | (refine bufEq ?_) | rfl); all_goals try first | refine pBEq ?_ | refine pIEq ?_)
  obtain ⟨he, hp0, hp1⟩ := hv
  obtain ⟨hR, hfit⟩ := badF_ok he
  have hP := valid_of hR.1
  obtain ⟨hgl, hgr⟩ := fitsB_rng hfit
  have hl10 := hR.2.1
  have e : checkF p l us pr = decide (readF p.gs (optsL p l) l.length (hasL l.length us.length) us pr = some []) := by
    rw [checkF, decide_eq_true he, decide_eq_true hp0, decide_eq_true hp1]; rfl
  rw [e]
  rw [he] at hbc
  have hlr : (List.replicate (l.length : Int).toNat (pz (Value.int .i64 0))) = (List.replicate 0 (-1 : Int) ++ List.replicate (l.length - 0) 0).map pI := by
    rw [Int.toNat_natCast, List.map_append, List.map_replicate, List.map_replicate]; rfl
  (conv => whnf); repeat' ((first | (refine IsL.mk _ hlr ?_) | apply CondA.plain | refine' go_pgP | (refine CallA.scalar (hbc) ?_)) <;> (conv => whnf))
  refine loop_rule (fun (c : Nat) => ⟨[(1, .p (.list nl (l.map pS))), (2, .p (.list nu (us.map pI))), (3, .p (.list np (pr.map pI))), (4, .ptr 0 0), (9, .buf 1), (30, .p (pI l.length)), (31, .p (pI c))], [some (.cells [.p (pI p.n), .p (.list p.nl (p.gs.map Grp.pv))]), some (AO.buf 3 false ((List.replicate c (-1 : Int) ++ List.replicate (l.length - c) 0).map pI))]⟩) (fun (c : Nat) => c ≤ l.length) (fun (c : Nat) => l.length - c) 0 ?_ ?_ ?_; (refine SubA.auto rfl rfl rfl rfl ?_ ?_ <;> repeat' (first | exact trivial | refine And.intro ?_ ?_ | with_reducible rfl | (refine pIEq ?_; (first | omega | (simp only [lenS] at *; omega) | grind)) | (refine bufMap ?_) | (refine bufNil ?_) | (refine bufEq ?_) | rfl))
  · exact Nat.zero_le _
  rintro c hc
  rcases Nat.lt_or_ge c l.length with hlt | hge
  · have hnx := fill_m1 hlt
    have hcm : c < ((List.replicate c (-1 : Int) ++ List.replicate (l.length - c) 0).map pI).length := by simp; omega
    (conv => whnf); repeat' ((first | (refine InA.mk c rfl hcm ?_) | apply CondA.plain | refine' go_pgP | fail) <;> (conv => whnf))
    (refine' ⟨c + 1, _, _, _⟩; rotate_right; (refine SubA.auto rfl rfl rfl rfl ?_ ?_ <;> repeat' (first | exact trivial | refine And.intro ?_ ?_ | with_reducible rfl | (refine pIEq ?_; (first | omega | (simp only [lenS] at *; omega) | grind)) | (refine bufMap ?_) | (refine bufNil ?_) | (refine bufEq ?_) | rfl)); rotate_right; (first | omega | (simp only []; omega) | (simp; omega) | (first | omega | (simp only [lenS] at *; omega) | grind)))
    all_goals first | exact hlt | exact hnx | skip
  obtain rfl : c = l.length := by omega
  rw [Nat.sub_self, List.replicate_zero, List.append_nil]
  have hrd := fun nb => rread_call hP nl np l pr hl10 l.length nb (us ++ List.replicate (l.length - us.length) (-1)) 0 (by simp; omega) (fun g hg => by
    rcases List.mem_append.1 hg with h | h
    · have := hgr g h; omega
    · rw [List.eq_of_mem_replicate h]; have := hP.n; omega) (by
    rw [List.countP_append, List.countP_eq_zero.2 fun g hg => by have := hgr g hg; simp; omega]
    have := List.countP_le_length (p := fun g => decide (g = -1)) (l := List.replicate (l.length - us.length) (-1 : Int))
    rw [List.length_replicate] at this
    omega) (Nat.zero_le _)
  rw [gr_has _ _ fun g hg => (hgr g hg).1, gr_us _ _ fun g hg => (hgr g hg).1, List.drop_zero] at hrd
  obtain ⟨R, hRR⟩ : ∃ R, readF p.gs (optsL p l) l.length (hasL l.length us.length) us pr = R := ⟨_, rfl⟩
  rw [hRR] at hrd ⊢
  have hpa := pos_all (pr := pr) R hp1
  have hcp : (List.replicate l.length (-1 : Int)).take 0 ++ us.take us.length ++ (List.replicate l.length (-1 : Int)).drop (0 + us.length) = us ++ List.replicate (l.length - us.length) (-1) := by simp
  (conv => whnf); repeat' ((first | (refine CpA.of_ (f := pI) (List.replicate l.length (-1 : Int)) us us.length rfl rfl (by simp only [lenS, Option.getD] at *; simp; omega) ?_) | apply CondA.plain | refine' go_pgP | fail) <;> (conv => whnf))
  rw [hcp]
  refine CallA.loc [] [1] rfl rfl ((hrd _).mono ?_)
  rintro _ _ ⟨rfl, rfl⟩
  have hpe : (posF pr R == (pr.length : Int)) = decide (R = some []) := by rw [← hpa]; rfl
  (conv => whnf); repeat' ((first | apply CondA.plain | refine' go_pgP | fail) <;> (conv => whnf))
  (refine' RetK.auto (.p (pB (posF pr R == (pr.length : Int)))) ([]) rfl rfl rfl rfl _ _ _ <;> repeat' (first | exact trivial | refine And.intro ?_ ?_ | with_reducible rfl | (refine pIEq ?_; (first | omega | (simp only [lenS] at *; omega) | grind)) | (refine bufMap ?_) | (refine bufNil ?_) | (refine bufEq ?_) | rfl))
  rw [hpe]
end Go.Proofs.Ytnogpkaehiapfaa
