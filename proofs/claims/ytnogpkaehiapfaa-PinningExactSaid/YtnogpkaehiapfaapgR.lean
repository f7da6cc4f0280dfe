/- Pinning: the reference's Core and Most. -/
import Derived.Test.YtnogpkaehiapfaapgM
namespace Go.Proofs.Ytnogpkaehiapfaa
set_option linter.unusedSimpArgs false
set_option linter.unusedVariables false
set_option linter.unnecessarySimpa false
open Go.Abs
set_option maxRecDepth 100000
/-- The places of what holds, up to one. -/
def trueN (inn : List Bool) (c : Nat) : List Int := ((List.range c).filter fun i => inn.getD i false).map fun (i : Nat) => (i : Int)
theorem trueN_succ (inn : List Bool) (c : Nat) : trueN inn (c + 1) = trueN inn c ++ (if inn.getD c false then [(c : Int)] else []) := by
  unfold trueN
  rw [List.range_succ, List.filter_append, List.map_append]
  congr 1
  rw [List.filter_cons]
  split <;> rfl
theorem trueN_mem {inn : List Bool} {c : Nat} {x : Int} : x ∈ trueN inn c ↔ 0 ≤ x ∧ x < c ∧ inn.getD x.toNat false = true := by
  unfold trueN
  constructor
  · intro h
    obtain ⟨i, hi, rfl⟩ := List.mem_map.1 h
    have hi := List.mem_filter.1 hi
    have := List.mem_range.1 hi.1
    exact ⟨by omega, by omega, by rw [Int.toNat_natCast]; exact hi.2⟩
  · rintro ⟨h0, h1, h2⟩
    exact List.mem_map.2 ⟨x.toNat, List.mem_filter.2 ⟨List.mem_range.2 (by omega), h2⟩, by omega⟩
theorem trueN_asc (inn : List Bool) (c : Nat) : AscF 0 c (trueN inn c) := by
  refine ⟨?_, fun y hy => ?_⟩
  · unfold trueN
    rw [List.pairwise_map]
    exact ((List.pairwise_lt_range (n := c)).filter _).imp fun h => by omega
  · have := trueN_mem.1 hy
    omega
theorem trueN_len (inn : List Bool) (c : Nat) : (trueN inn c).length ≤ c := by
  have := (trueN_asc inn c).len
  omega
/-- Kept for later: a goal of a walk's step. -/
theorem park_pgR {P : Prop} (x : P) (_ : x = x) : P := x
/-- One step of a walk. -/
theorem go_pgR {P : Prop} (h : P := by
  (first | ((first | apply LenA.map | apply NilA.map | apply NilA.mk); intro _) | ((first | apply NW.as | apply ValA.as); with_reducible assumption) | ((first | apply NW.i64 | apply NW.u32 | apply NW.u64 | apply NW.u8 | apply InA.nat | apply InA.map | apply AppA.snoc (f := pI) (a := _) rfl | apply AppA.one (f := pI) (a := _) rfl | apply AppA.snoc (f := pB) (a := _) rfl | apply AppA.one (f := pB) (a := _) rfl | apply AppA.snoc (f := pS) (a := _) rfl | apply AppA.one (f := pS) (a := _) rfl | apply AppA.map | apply AppA.nil | apply CutA.lo | apply CutA.hi); (first | omega | (simp only [lenS] at *; omega) | grind)) | ((first | (apply RemA.as; assumption) | apply RemA.self); (first | omega | (simp only [lenS] at *; omega) | grind)) | (apply ValA.as; assumption) | apply ValA.self | (apply NW.as; assumption) | (apply SzA.map; (intro _; rfl)) | with_reducible apply br_pt | with_reducible apply br_pf | with_reducible apply br_mt | with_reducible apply br_mf | apply Both.mk | ((first | apply br_T | apply br_F | apply br_mT | apply br_mF); assumption) | ((first | apply br_lss | apply br_leq | apply br_gtr | apply br_geq | apply br_dec | apply br_beq | apply br_bne | apply br_beqB | apply br_bneB | apply br_not | apply br_m | apply br_intro) <;> intro h0 <;> first | (exfalso; first | omega | exact tf h0 (by assumption) | exact tf (by assumption) h0 | exact h0 (by assumption) | exact h0 rfl | exact of_decide_eq_false h0 rfl) | skip) | refine ArrA.mk _ rfl rfl ?_ | (apply IdxA.lit; omega; exact rfl) | ((first | apply IdxA.of_nat | (apply IdxA.of_map; (first | omega | (simp only [lenS] at *; omega) | grind))); rotate_left; (first | omega | (simp only [lenS] at *; omega) | grind)) | apply AppC.own | apply CutO.part | apply IsL.set (f := pI) (a := _) rfl | apply IsL.rep (f := pI) (a := _) rfl | apply IsL.set (f := pB) (a := _) rfl | apply IsL.rep (f := pB) (a := _) rfl | apply IsL.set (f := pS) (a := _) rfl | apply IsL.rep (f := pS) (a := _) rfl | apply IsL.lit (f := pI) [] rfl | apply IsL.lit (f := pI) [_] rfl | apply IsL.lit (f := pB) [] rfl | apply IsL.lit (f := pB) [_] rfl | apply IsL.lit (f := pS) [] rfl | apply IsL.lit (f := pS) [_] rfl | (apply And.intro; (first | with_reducible rfl | (show (_ : AV) = _; rfl) | (first | omega | (simp only [lenS] at *; omega) | grind)))) <;> (solve_by_elim (newGoals := .nonDependentOnly) (symm := false) (exfalso := false) (transparency := .reducible) only [rfl, park_pgR])) : P := h
theorem rsome_call (nl : Bool) (l : List ByteArray) (inn : List Bool) (hl : inn.length = l.length) (hll : l.length ≤ 1000) :
    ACall Try.prog 62 [.p (.list nl (l.map pS)), .buf 0] [some (AO.buf 4 false (inn.map pB))] fun r H => (∃ n, r = .p (.list n ((pickL' l (trueN inn l.length)).map pS))) ∧ H = [some (AO.buf 4 false (inn.map pB))] := by
  refine acall_enter Try.func62 rfl rfl tabOK rfl ?_
  (conv => whnf); repeat' ((first | apply CondA.plain | refine' go_pgR | (apply DrawA.quiet (by kernel_rfl) (by kernel_rfl); (conv => whnf); fail_if_success (show False))) <;> (conv => whnf))
  refine loop_rule (fun (⟨c, nb, x⟩ : Nat × Bool × List ByteArray) => ⟨[(0, .p (.list nl (l.map pS))), (1, .buf 0), (5, .buf 1), (6, .p (pI c))], [some (AO.buf 4 false (inn.map pB)), some (AO.buf 9 nb (x.map pS))]⟩) (fun (⟨c, nb, x⟩ : Nat × Bool × List ByteArray) => c ≤ l.length ∧ x = pickL' l (trueN inn c)) (fun (⟨c, nb, x⟩ : Nat × Bool × List ByteArray) => l.length - c) (0, true, []) ?_ ?_ ?_; (refine SubA.auto1 (9, 5) rfl rfl rfl rfl rfl ?_ ?_ <;> repeat' (first | exact trivial | refine And.intro ?_ ?_ | with_reducible rfl | (refine pIEq ?_; (first | omega | (simp only [lenS] at *; omega) | grind)) | (refine bufMap ?_) | (refine bufNil ?_) | (refine bufEq ?_) | rfl))
  · exact ⟨Nat.zero_le _, rfl⟩
  rintro ⟨c, nb, x⟩ ⟨hc, hx⟩
  have hxl : x.length ≤ c := by rw [hx, pickL', List.length_map]; exact trueN_len _ _
  rcases Nat.lt_or_ge c l.length with hlt | hge
  · obtain ⟨v, hv⟩ : ∃ v, inn[c]'(by omega) = v := ⟨_, rfl⟩
    have hv1 : inn[((c : Nat) : Int).toNat]? = some v := by rw [Int.toNat_natCast, List.getElem?_eq_getElem (by omega), hv]
    obtain ⟨f, hf⟩ : ∃ f, l[c] = f := ⟨_, rfl⟩
    have hf1 : l[((c : Nat) : Int).toNat]? = some f := by rw [Int.toNat_natCast, List.getElem?_eq_getElem hlt, hf]
    have hs := trueN_succ inn c
    have hg : inn.getD c false = v := by rw [List.getD_eq_getElem?_getD, List.getElem?_eq_getElem (by omega), hv]; rfl
    rw [hg] at hs
    have hc0 := Int.natCast_nonneg c
    cases v with
    | true =>
      have hnx : x ++ [f] = pickL' l (trueN inn (c + 1)) := by
        rw [hs, if_pos rfl, pickL', List.map_append, hx, pickL']
        show _ ++ [f] = _ ++ [l.getD (c : Int).toNat _]
        rw [List.getD_eq_getElem?_getD, hf1]; rfl
      (conv => whnf); repeat' ((first | (apply IdxA.at_ (f := pB) true hc0 hv1) | (apply IdxA.at_ (f := pS) f hc0 hf1) | apply CondA.plain | refine' go_pgR | (apply DrawA.quiet (by kernel_rfl) (by kernel_rfl); (conv => whnf); fail_if_success (show False))) <;> (conv => whnf))
      (refine' ⟨(c + 1, false, x ++ [f]), _, _, _⟩; rotate_right; (refine SubA.auto rfl rfl rfl rfl ?_ ?_ <;> repeat' (first | exact trivial | refine And.intro ?_ ?_ | with_reducible rfl | (refine pIEq ?_; (first | omega | (simp only [lenS] at *; omega) | grind)) | (refine bufMap ?_) | (refine bufNil ?_) | (refine bufEq ?_) | rfl)); rotate_right; (first | omega | (simp only []; omega) | (simp; omega) | (first | omega | (simp only [lenS] at *; omega) | grind)))
      exact ⟨by omega, hnx⟩
    | false =>
      rw [if_neg (by simp), List.append_nil] at hs
      (conv => whnf); repeat' ((first | (apply IdxA.at_ (f := pB) false hc0 hv1) | apply CondA.plain | refine' go_pgR | (apply DrawA.quiet (by kernel_rfl) (by kernel_rfl); (conv => whnf); fail_if_success (show False))) <;> (conv => whnf))
      (refine' ⟨(c + 1, nb, x), _, _, _⟩; rotate_right; (refine SubA.auto rfl rfl rfl rfl ?_ ?_ <;> repeat' (first | exact trivial | refine And.intro ?_ ?_ | with_reducible rfl | (refine pIEq ?_; (first | omega | (simp only [lenS] at *; omega) | grind)) | (refine bufMap ?_) | (refine bufNil ?_) | (refine bufEq ?_) | rfl)); rotate_right; (first | omega | (simp only []; omega) | (simp; omega) | (first | omega | (simp only [lenS] at *; omega) | grind)))
      exact ⟨by omega, by rw [hs]; exact hx⟩
  · obtain rfl : c = l.length := by omega
    subst hx
    (conv => whnf); repeat' ((first | apply CondA.plain | refine' go_pgR | (apply DrawA.quiet (by kernel_rfl) (by kernel_rfl); (conv => whnf); fail_if_success (show False))) <;> (conv => whnf))
    (refine RetK.frz _ _ _ [1] ?_; refine' RetK.auto (.p (.list nb ((pickL' l (trueN inn l.length)).map pS))) ([some (AO.buf 4 false (inn.map pB))]) rfl rfl rfl rfl _ _ _ <;> repeat' (first | exact trivial | refine And.intro ?_ ?_ | with_reducible rfl | (refine pIEq ?_; (first | omega | (simp only [lenS] at *; omega) | grind)) | (refine bufMap ?_) | (refine bufNil ?_) | (refine bufEq ?_) | rfl))
    all_goals first | exact ⟨nb, rfl⟩ | skip
/-- Which demands are in a list. -/
def inOf (S : List Int) (n : Nat) : List Bool := (List.range n).map fun (i : Nat) => decide ((i : Int) ∈ S)
theorem inOf_len (S : List Int) (n : Nat) : (inOf S n).length = n := by simp [inOf]
theorem inOf_get {S : List Int} {n i : Nat} (h : i < n) : (inOf S n).getD i false = decide ((i : Int) ∈ S) := by
  rw [inOf, List.getD_eq_getElem?_getD, List.getElem?_map, List.getElem?_range h]; rfl
theorem true_inOf {S : List Int} {n : Nat} (h : AscF 0 n S) : trueN (inOf S n) n = S := by
  refine asc_eq (trueN_asc _ _).pw h.pw fun x => ?_
  rw [trueN_mem]
  constructor
  · rintro ⟨h0, h1, h2⟩
    rw [inOf_get (by omega), decide_eq_true_iff, Int.toNat_of_nonneg h0] at h2
    exact h2
  · intro hx
    have := h.rng x hx
    refine ⟨by omega, by omega, ?_⟩
    rw [inOf_get (by omega), decide_eq_true_iff, Int.toNat_of_nonneg (by omega)]
    exact hx
theorem inOf_set {S T : List Int} {n c : Nat} {v : Bool} (hc : c < n) (hv : decide ((c : Int) ∈ T) = v) (h : ∀ x : Int, x ≠ c → (x ∈ S ↔ x ∈ T)) : (inOf S n).set c v = inOf T n := by
  refine List.ext_getElem (by simp [inOf]) fun i h1 h2 => ?_
  rw [List.getElem_set]
  have hi : i < n := by rw [inOf_len] at h2; exact h2
  have hT : (inOf T n)[i] = decide ((i : Int) ∈ T) := by simp [inOf]
  have hS : (inOf S n)[i]'(by rw [inOf_len]; exact hi) = decide ((i : Int) ∈ S) := by simp [inOf]
  split
  · rename_i e
    subst e
    rw [hT, hv]
  · rename_i e
    rw [hS, hT]
    exact decide_eq_decide.2 (h i (by omega))
theorem inOf_full (n : Nat) : inOf (upF 0 n) n = List.replicate n true := by
  refine List.ext_getElem (by simp [inOf]) fun i h1 h2 => ?_
  rw [List.getElem_replicate]
  have hi : i < n := by rw [inOf_len] at h1; exact h1
  have : (inOf (upF 0 n) n)[i] = decide ((i : Int) ∈ upF 0 n) := by simp [inOf]
  rw [this]
  exact decide_eq_true (upF_mem.2 (by omega))
/-- The first ones. -/
def lowL (S : List Int) (c : Nat) : List Int := S.filter fun x => decide (x < (c : Int))
theorem lowL_all {S : List Int} {n : Nat} (h : AscF 0 n S) : lowL S n = S := List.filter_eq_self.2 fun x hx => decide_eq_true (h.rng x hx).2
theorem lowL_in {S : List Int} {n c : Nat} (h : AscF 0 n S) (hc : (c : Int) ∈ S) : lowL S (c + 1) = lowL S c ++ [(c : Int)] := by
  refine asc_eq (h.pw.filter _) (List.pairwise_append.2 ⟨h.pw.filter _, List.pairwise_singleton _ _, fun a ha b hb => ?_⟩) fun x => ?_
  · rw [List.mem_singleton.1 hb]
    exact of_decide_eq_true (List.mem_filter.1 ha).2
  · unfold lowL
    rw [List.mem_append, List.mem_filter, List.mem_filter, List.mem_singleton, decide_eq_true_iff, decide_eq_true_iff]
    constructor
    · rintro ⟨h1, h2⟩
      rcases Int.lt_or_le x c with h3 | h3
      · exact .inl ⟨h1, h3⟩
      · exact .inr (by omega)
    · rintro (⟨h1, h2⟩ | rfl)
      · exact ⟨h1, by omega⟩
      · exact ⟨hc, by omega⟩
theorem lowL_out {S : List Int} {c : Nat} : lowL (S.filter (keepC c)) (c + 1) = lowL S c := by
  unfold lowL
  rw [List.filter_filter]
  refine List.filter_congr fun x _ => ?_
  unfold keepC
  rw [Bool.eq_iff_iff]
  simp
  omega
theorem coreL_has {gs : List Grp} {opts : List (List Int)} : ∀ (c : Nat), ∀ i : Nat, c ≤ i → i < opts.length → (i : Int) ∈ coreL gs opts c
  | 0, i, _, h => upF_mem.2 (by omega)
  | c + 1, i, h1, h2 => by
    have := coreL_has (gs := gs) c i (by omega) h2
    rw [coreL_succ, coreS]
    split
    · exact this
    · exact List.mem_filter.2 ⟨this, decide_eq_true (by omega)⟩
theorem coreL_asc {gs : List Grp} {opts : List (List Int)} : ∀ (c : Nat), AscF 0 opts.length (coreL gs opts c)
  | 0 => ⟨upF_asc 0 _, fun y hy => by have := upF_mem.1 hy; omega⟩
  | c + 1 => by
    have h := coreL_asc (gs := gs) (opts := opts) c
    rw [coreL_succ]
    exact ⟨by unfold coreS; split; exact h.pw; exact h.pw.filter _, fun y hy => h.rng y (coreS_sub.1 y hy)⟩
def x17SC0 : Sc := (.one 3 (.one 4 (.take 5 (.take 6 (.take 7 (.take 8 (.take 9 .done)))))))
def x17SC1 : Sc := (.one 0 (.one 4 (.take 5 (.take 6 (.take 7 (.take 8 (.take 9 .done)))))))
def x17Sc : Sc := (.take 1 (.take 2 (.two 0 3 x17SC0 x17SC1)))
theorem rsearch_some {p : Pin} (hP : VP p) (nl n2 : Bool) (l : List ByteArray) (hR : rightP p l) (S : List Int) (hr : ∀ i ∈ S, 0 ≤ i ∧ i < l.length) (hl : S.length ≤ 10) :
    ACall Try.prog 40 [.p p.pv, .p (.list nl ((pickL' l S).map pS)), .p (.list n2 [])] [] fun r H => (∃ (n : Bool) (xs : List Int), r = .tup [.p (.list n (xs.map pI)), .p (pB (satI p.gs (optsL p l) S))]) ∧ H = [] := by
  have hpl : (pickL' l S).length = S.length := by simp [pickL']
  have := rsearch_call hP nl (pickL' l S) (pickL' l S).length n2 [] (by simp) (fun u hu => by cases hu) (by omega)
  rw [List.length_nil, List.drop_zero, pick_opts p l hr] at this
  refine this.mono ?_
  rintro _ _ ⟨⟨n, rfl⟩, rfl⟩
  exact ⟨⟨n, _, rfl⟩, rfl⟩
set_option maxHeartbeats 8000000 in
theorem rCore_call (p : Pin) (nl : Bool) (l : List ByteArray) : ACall Try.prog 33 [.p p.pv, .p (.list nl (l.map pS))] [] (F2 (coreF p l).1 (coreF p l).2) := by
  refine acall_enter Try.func33 rfl rfl tabOK rfl ?_
  rcases Decidable.em (rightP p l) with hR | hR
  rotate_left
  · have e0 : badF p l [] = 1 := by rw [badF, if_neg hR]
    have e : coreF p l = ([], 1) := by rw [coreF, if_pos (by rw [e0]; simp), e0]
    rw [e]
    (conv => whnf); repeat' ((first | apply CondA.plain | refine' go_pgR | (apply DrawA.quiet (by kernel_rfl) (by kernel_rfl); (conv => whnf); fail_if_success (show False)) | ((refine CallA.scalar (rRight_call p nl l) ?_; rw [decide_eq_false hR]))) <;> (conv => whnf))
    (refine' RetK.auto (.tup [.p (.list true []), .p (pI 1)]) ([]) rfl rfl rfl rfl _ _ _ <;> repeat' (first | exact trivial | refine And.intro ?_ ?_ | with_reducible rfl | (refine pIEq ?_; (first | omega | (simp only [lenS] at *; omega) | grind)) | (refine bufMap ?_) | (refine bufNil ?_) | (refine bufEq ?_) | rfl))
    exact ⟨true, rfl⟩
  have hP := valid_of hR.1
  have hl10 := hR.2.1
  have hol := opts_len p l
  have e : coreF p l = if (srch p.gs (optsL p l) []).isSome then ([], 7) else (coreL p.gs (optsL p l) l.length, 0) := by rw [coreF, if_neg (by rw [badF_nil hR]; simp)]
  rw [e]
  have hs := rsearch_call hP nl l l.length true [] (by simp) (fun u hu => by cases hu) (by omega)
  rw [List.length_nil, List.drop_zero] at hs
  obtain ⟨S, hS⟩ : ∃ S, srch p.gs (optsL p l) [] = S := ⟨_, rfl⟩
  rw [hS] at hs ⊢
  (conv => whnf); repeat' ((first | apply CondA.plain | refine' go_pgR | (apply DrawA.quiet (by kernel_rfl) (by kernel_rfl); (conv => whnf); fail_if_success (show False)) | ((refine CallA.scalar (rRight_call p nl l) ?_; rw [decide_eq_true hR]))) <;> (conv => whnf))
  refine CallA.loc [] [] rfl rfl (hs.mono ?_)
  rintro _ _ ⟨⟨n1, rfl⟩, rfl⟩
  cases S with
  | some x =>
    (conv => whnf); repeat' ((first | apply CondA.plain | refine' go_pgR | (apply DrawA.quiet (by kernel_rfl) (by kernel_rfl); (conv => whnf); fail_if_success (show False))) <;> (conv => whnf))
    (refine' RetK.auto (.tup [.p (.list true []), .p (pI 7)]) ([]) rfl rfl rfl rfl _ _ _ <;> repeat' (first | exact trivial | refine And.intro ?_ ?_ | with_reducible rfl | (refine pIEq ?_; (first | omega | (simp only [lenS] at *; omega) | grind)) | (refine bufMap ?_) | (refine bufNil ?_) | (refine bufEq ?_) | rfl))
    exact ⟨true, rfl⟩
  | none =>
    rw [if_neg (by simp)]
    have hrp : List.replicate (l.length : Int).toNat (pz (Value.bool false)) = (List.replicate 0 true ++ List.replicate (l.length - 0) false).map pB := by
      rw [Int.toNat_natCast, List.map_append, List.map_replicate, List.map_replicate]; rfl
    (conv => whnf); repeat' ((first | (refine IsL.mk _ hrp ?_) | apply CondA.plain | refine' go_pgR | fail) <;> (conv => whnf))
    refine loop_rule (fun (c : Nat) => ⟨[(1, .p (.list nl (l.map pS))), (2, .ptr 0 0), (8, .buf 1), (29, .p (pI l.length)), (30, .p (pI c))], [some (.cells [.p (pI p.n), .p (.list p.nl (p.gs.map Grp.pv))]), some (AO.buf 4 false ((List.replicate c true ++ List.replicate (l.length - c) false).map pB))]⟩) (fun (c : Nat) => c ≤ l.length) (fun (c : Nat) => l.length - c) 0 ?_ ?_ ?_; (refine SubA.auto rfl rfl rfl rfl ?_ ?_ <;> repeat' (first | exact trivial | refine And.intro ?_ ?_ | with_reducible rfl | (refine pIEq ?_; (first | omega | (simp only [lenS] at *; omega) | grind)) | (refine bufMap ?_) | (refine bufNil ?_) | (refine bufEq ?_) | rfl))
    · exact Nat.zero_le _
    rintro c hc
    rcases Nat.lt_or_ge c l.length with hlt | hge
    · have hnx : (List.replicate c true ++ List.replicate (l.length - c) false).set c true = List.replicate (c + 1) true ++ List.replicate (l.length - (c + 1)) false := by
        rw [List.set_append_right _ _ (by simp)]
        have e : l.length - c = l.length - (c + 1) + 1 := by omega
        simp only [List.length_replicate, Nat.sub_self]
        rw [e, List.replicate_succ, List.set_cons_zero, List.replicate_succ', List.append_assoc]; rfl
      have hcm : c < ((List.replicate c true ++ List.replicate (l.length - c) false).map pB).length := by simp; omega
      (conv => whnf); repeat' ((first | (refine InA.mk c rfl hcm ?_) | apply CondA.plain | refine' go_pgR | fail) <;> (conv => whnf))
      (refine' ⟨c + 1, _, _, _⟩; rotate_right; (refine SubA.auto rfl rfl rfl rfl ?_ ?_ <;> repeat' (first | exact trivial | refine And.intro ?_ ?_ | with_reducible rfl | (refine pIEq ?_; (first | omega | (simp only [lenS] at *; omega) | grind)) | (refine bufMap ?_) | (refine bufNil ?_) | (refine bufEq ?_) | rfl)); rotate_right; (first | omega | (simp only []; omega) | (simp; omega) | (first | omega | (simp only [lenS] at *; omega) | grind)))
      all_goals first | exact hlt | exact hnx | skip
    obtain rfl : c = l.length := by omega
    rw [Nat.sub_self, List.replicate_zero, List.append_nil, ← inOf_full]
    have hcu : upF 0 l.length = coreL p.gs (optsL p l) 0 := by show _ = upF 0 (optsL p l).length; rw [hol]
    rw [hcu]
    have hil := fun S => inOf_len S l.length
    (conv => whnf); repeat' ((first | apply CondA.plain | refine' go_pgR | fail) <;> (conv => whnf))
    refine loop_rule (fun (⟨c, nb, B1, o⟩ : Nat × Bool × List Bool × List Int) => ⟨[(1, .p (.list nl (l.map pS))), (2, .ptr 0 0), (8, .buf 1), (10, .buf 2), (38, .p (pI l.length)), (39, .p (pI c))], [some (.cells [.p (pI p.n), .p (.list p.nl (p.gs.map Grp.pv))]), some (AO.buf 4 false (B1.map pB)), some (AO.buf 3 nb (o.map pI))]⟩) (fun (⟨c, nb, B1, o⟩ : Nat × Bool × List Bool × List Int) => c ≤ l.length ∧ B1 = inOf (coreL p.gs (optsL p l) c) l.length ∧ o = lowL (coreL p.gs (optsL p l) c) c) (fun (⟨c, nb, B1, o⟩ : Nat × Bool × List Bool × List Int) => l.length - c) (0, true, inOf (coreL p.gs (optsL p l) 0) l.length, []) ?_ ?_ ?_; (refine SubA.auto1 (3, 10) rfl rfl rfl rfl rfl ?_ ?_ <;> repeat' (first | exact trivial | refine And.intro ?_ ?_ | with_reducible rfl | (refine pIEq ?_; (first | omega | (simp only [lenS] at *; omega) | grind)) | (refine bufMap ?_) | (refine bufNil ?_) | (refine bufEq ?_) | rfl))
    · refine ⟨Nat.zero_le _, rfl, ?_⟩
      show [] = (coreL p.gs (optsL p l) 0).filter fun x => decide (x < ((0 : Nat) : Int))
      rw [← hcu, List.filter_eq_nil_iff.2 fun x hx => by have := upF_mem.1 hx; simp; omega]
    clear hcu hrp hc hge
    rintro ⟨c, nb, B1, o⟩ ⟨hc, hB1, ho⟩
    have hA := coreL_asc (gs := p.gs) (opts := optsL p l) c
    rw [hol] at hA
    rcases Nat.lt_or_ge c l.length with hlt | hge
    rotate_left
    · obtain rfl : c = l.length := by omega
      rw [lowL_all hA] at ho
      rw [← ho]
      clear hB1 ho
      (conv => whnf); repeat' ((first | apply CondA.plain | refine' go_pgR | fail) <;> (conv => whnf))
      (refine RetK.frz _ _ _ [2] ?_; refine' RetK.auto (.tup [.p (.list nb (o.map pI)), .p (pI 0)]) ([]) rfl rfl rfl rfl _ _ _ <;> repeat' (first | exact trivial | refine And.intro ?_ ?_ | with_reducible rfl | (refine pIEq ?_; (first | omega | (simp only [lenS] at *; omega) | grind)) | (refine bufMap ?_) | (refine bufNil ?_) | (refine bufEq ?_) | rfl))
      all_goals first | exact ⟨nb, rfl⟩ | skip
    have hh := coreL_has (gs := p.gs) (opts := optsL p l) c c (Nat.le_refl _) (by omega)
    have hsc := coreL_succ p.gs (optsL p l) c
    obtain ⟨left, hleft⟩ : ∃ left, coreL p.gs (optsL p l) c = left := ⟨_, rfl⟩
    rw [hleft] at hA hh hsc hB1 ho
    have hAW : AscF 0 l.length (left.filter (keepC c)) := ⟨hA.pw.filter _, fun y hy => hA.rng y (List.mem_filter.1 hy).1⟩
    have hcW : (c : Int) ∉ left.filter (keepC c) := fun h => by
      have := of_decide_eq_true (List.mem_filter.1 h).2
      exact this rfl
    have hmem : ∀ x : Int, x ≠ c → (x ∈ left ↔ x ∈ left.filter (keepC c)) := fun x hx => ⟨fun h => List.mem_filter.2 ⟨h, decide_eq_true hx⟩, fun h => (List.mem_filter.1 h).1⟩
    have hs1 : (inOf left l.length).set c false = inOf (left.filter (keepC c)) l.length := inOf_set hlt (decide_eq_false hcW) hmem
    have hs2 : (inOf (left.filter (keepC c)) l.length).set c true = inOf left l.length := inOf_set hlt (decide_eq_true hh) fun x hx => (hmem x hx).symm
    have hlo := lowL_out (S := left) (c := c)
    have hli := lowL_in hA hh
    obtain ⟨W, hW⟩ : ∃ W, left.filter (keepC c) = W := ⟨_, rfl⟩
    rw [coreS, hW] at hsc
    rw [hW] at hAW hs1 hs2 hlo
    have hWr : ∀ i ∈ W, 0 ≤ i ∧ i < l.length := fun i hi => by have := hAW.rng i hi; omega
    have hWl := hAW.len
    have hsm := rsome_call nl l (inOf W l.length) (hil W) (by omega)
    rw [true_inOf hAW] at hsm
    have hse := fun n3 => rsearch_some hP n3 true l hR W hWr (by omega)
    have hll := hil left
    have hlw := hil W
    have hol2 : o.length ≤ l.length := by rw [ho]; exact Nat.le_trans (List.length_filter_le _ _) (by have := hA.len; omega)
    rw [← hB1] at hs1 hs2 hll
    rw [← ho] at hlo hli
    have hcm : c < (B1.map pB).length := by rw [List.length_map, hll]; exact hlt
    obtain ⟨B2, hB2⟩ : ∃ B, inOf W l.length = B := ⟨_, rfl⟩
    have hcm2 : c < (B2.map pB).length := by rw [← hB2, List.length_map, hlw]; exact hlt
    rw [hB2] at hs1 hs2 hsm hlw
    obtain ⟨v, hv⟩ : ∃ v, satI p.gs (optsL p l) W = v := ⟨_, rfl⟩
    rw [hv] at hse
    have hsc : coreL p.gs (optsL p l) (c + 1) = if v = true then left else W := by rw [← hv]; exact hsc
    rw [← hs1] at hsm hs2 hcm2 hlw hB2
    (conv => whnf); repeat' ((first | (refine InA.mk c rfl hcm ?_) | apply CondA.plain | refine' go_pgR | fail) <;> (conv => whnf))
    refine DrawA.meet (fun (u : Unit) => ⟨[(1, .p (.list nl (l.map pS))), (2, .ptr 0 0), (8, .buf 1), (10, .buf 2), (11, .p (pI c)), (13, .p (pB v)), (38, .p (pI l.length)), (39, .p (pI c))], [some (.cells [.p (pI p.n), .p (.list p.nl (p.gs.map Grp.pv))]), some (AO.buf 4 false ((B1.set c false).map pB)), some (AO.buf 3 nb (o.map pI))]⟩) (fun (u : Unit) => True) (DrawB.orders x17Sc (by kernel_rfl) (by kernel_rfl) (by kernel_rfl) ?_) ?_
    · (conv => whnf); repeat' ((first | apply CondA.plain | refine' go_pgR | fail) <;> (conv => whnf))
      all_goals
        refine CallA.loc [1] [] rfl rfl (hsm.mono ?_)
        rintro _ _ ⟨⟨n3, rfl⟩, rfl⟩
        (conv => whnf); repeat' ((first | apply CondA.plain | refine' go_pgR | fail) <;> (conv => whnf))
        all_goals
          refine CallA.loc [] [] rfl rfl ((hse _).mono ?_)
          rintro _ _ ⟨⟨n4, xs, rfl⟩, rfl⟩
          (conv => whnf); repeat' ((first | apply CondA.plain | refine' go_pgR | fail) <;> (conv => whnf))
          (refine' ⟨(), _, _⟩; rotate_right; (refine SubA.auto rfl rfl rfl rfl ?_ ?_ <;> repeat' (first | exact trivial | refine And.intro ?_ ?_ | with_reducible rfl | (refine pIEq ?_; (first | omega | (simp only [lenS] at *; omega) | grind)) | (refine bufMap ?_) | (refine bufNil ?_) | (refine bufEq ?_) | rfl)); rotate_right; (first | omega | (simp only []; omega) | (simp; omega) | (first | omega | (simp only [lenS] at *; omega) | grind)))
    rintro u _
    cases v with
    | true =>
      have hsc : coreL p.gs (optsL p l) (c + 1) = left := hsc
      (conv => whnf); repeat' ((first | (refine InA.mk c rfl hcm2 ?_) | apply CondA.plain | refine' go_pgR | fail) <;> (conv => whnf))
      (refine' ⟨(c + 1, false, (B1.set c false).set c true, o ++ [(c : Int)]), _, _, _⟩; rotate_right; (refine SubA.auto rfl rfl rfl rfl ?_ ?_ <;> repeat' (first | exact trivial | refine And.intro ?_ ?_ | with_reducible rfl | (refine pIEq ?_; (first | omega | (simp only [lenS] at *; omega) | grind)) | (refine bufMap ?_) | (refine bufNil ?_) | (refine bufEq ?_) | rfl)); rotate_right; (first | omega | (simp only []; omega) | (simp; omega) | (first | omega | (simp only [lenS] at *; omega) | grind)))
      refine ⟨by omega, ?_, ?_⟩
      · rw [hsc, hs2, hB1]
      · rw [hsc]; exact hli.symm
    | false =>
      have hsc : coreL p.gs (optsL p l) (c + 1) = W := hsc
      (conv => whnf); repeat' ((first | apply CondA.plain | refine' go_pgR | fail) <;> (conv => whnf))
      (refine' ⟨(c + 1, nb, B1.set c false, o), _, _, _⟩; rotate_right; (refine SubA.auto rfl rfl rfl rfl ?_ ?_ <;> repeat' (first | exact trivial | refine And.intro ?_ ?_ | with_reducible rfl | (refine pIEq ?_; (first | omega | (simp only [lenS] at *; omega) | grind)) | (refine bufMap ?_) | (refine bufNil ?_) | (refine bufEq ?_) | rfl)); rotate_right; (first | omega | (simp only []; omega) | (simp; omega) | (first | omega | (simp only [lenS] at *; omega) | grind)))
      refine ⟨by omega, ?_, ?_⟩
      · rw [hsc, hB2]
      · rw [hsc]; exact hlo.symm
end Go.Proofs.Ytnogpkaehiapfaa
