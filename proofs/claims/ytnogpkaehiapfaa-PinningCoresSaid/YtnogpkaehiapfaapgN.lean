/- PinningCores. -/
import Derived.Test.YtnogpkaehiapfaapgM
namespace Go.Proofs.Ytnogpkaehiapfaa
set_option linter.unusedSimpArgs false
set_option linter.unusedVariables false
set_option linter.unnecessarySimpa false
open Go.Abs
set_option maxRecDepth 100000
theorem upF_cons {a b : Nat} (h : a < b) : upF a b = (a : Int) :: upF (a + 1) b := by
  unfold upF
  rw [show b - a = (b - (a + 1)) + 1 by omega, List.range_succ_eq_map, List.map_cons, List.map_map]
  congr 1
  refine List.map_congr_left fun i _ => ?_
  show (((a + (i + 1) : Nat)) : Int) = ((a + 1 + i : Nat) : Int)
  omega
theorem asc_full {n : Nat} : ∀ {x : List Int} {a : Nat}, AscF a n x → x.length = n - a → x = upF a n
  | [], a, _, h => by
    have h : 0 = n - a := h
    rw [upF, ← h]; rfl
  | d :: t, a, ha, h => by
    obtain ⟨D, rfl, h1, h2, h3⟩ := ha.cons
    have hl := h3.len
    have h : t.length + 1 = n - a := h
    obtain rfl : D = a := by omega
    rw [upF_cons (by omega), asc_full h3 (by omega)]
theorem upF_ascF (n : Nat) : AscF 0 n (upF 0 n) := ⟨upF_asc 0 n, fun y hy => by have := upF_mem.1 hy; omega⟩
theorem most_all {gs : List Grp} {opts : List (List Int)} {m : List Int} (h : IsMost gs opts m) : m.length = opts.length ↔ (srch gs opts []).isSome = true := by
  constructor
  · intro hl
    have := asc_full h.asc (by omega)
    have hs := h.sat
    rw [this, satI, optsI_up] at hs
    exact hs
  · intro hs
    have h1 := h.best (upF 0 opts.length) (upF_ascF _) (by rw [satI, optsI_up]; exact hs)
    have h2 := h.asc.len
    rw [upF_len] at h1
    omega
def k12SC0 : Sc := (.one 10 (.one 11 (.one 12 (.take 13 .done))))
def k12SC1 : Sc := (.one 8 (.one 11 (.one 12 (.take 13 .done))))
def k12SC2 : Sc := (.two 8 10 k12SC0 k12SC1)
def k12SC3 : Sc := (.one 11 (.one 12 (.take 13 .done)))
def k12SC4 : Sc := (.one 5 (.one 12 (.take 13 .done)))
def k12SC5 : Sc := (.two 5 11 k12SC3 k12SC4)
def k12SC6 : Sc := (.two 5 10 k12SC0 k12SC5)
def k12SC7 : Sc := (.two 5 8 k12SC1 k12SC5)
def k12Sc : Sc := (.take 0 (.take 1 (.one 2 (.take 3 (.take 4 (.take 6 (.take 7 (.take 9 (.three 5 8 10 k12SC2 k12SC6 k12SC7)))))))))
def k22SC0 : Sc := (.one 5 (.one 10 (.one 11 (.take 12 .done))))
def k22SC1 : Sc := (.one 10 (.one 11 (.take 12 .done)))
def k22SC2 : Sc := (.one 0 (.one 11 (.take 12 .done)))
def k22SC3 : Sc := (.two 0 10 k22SC1 k22SC2)
def k22Sc : Sc := (.take 1 (.take 2 (.take 3 (.take 4 (.take 6 (.take 7 (.take 8 (.take 9 (.two 0 5 k22SC0 k22SC3)))))))))
theorem Core_to {p : Pin} {l : List ByteArray} {x : List Int} {e : Int} (h : coreF p l = (x, e)) (nl : Bool) : ACall Try.prog 22 [.p p.pv, .p (.list nl (l.map pS))] [] (F2 x e) := by
  have := Core_call p nl l
  rwa [h] at this
theorem Most_to {p : Pin} {l : List ByteArray} {x : List Int} {e : Int} (h : mostF p l = (x, e)) (nl : Bool) : ACall Try.prog 23 [.p p.pv, .p (.list nl (l.map pS))] [] (F2 x e) := by
  have := Most_call p nl l
  rwa [h] at this
/-- Kept for later: a goal of a walk's step. -/
theorem park_pgN {P : Prop} (x : P) (_ : x = x) : P := x
/-- One step of a walk. -/
theorem go_pgN {P : Prop} (h : P := by
  (first | ((first | apply LenA.map | apply NilA.map | apply NilA.mk); intro _) | ((first | apply NW.as | apply ValA.as); with_reducible assumption) | ((first | apply NW.i64 | apply NW.u32 | apply NW.u64 | apply NW.u8 | apply InA.nat | apply InA.map | apply AppA.snoc (f := pI) (a := _) rfl | apply AppA.one (f := pI) (a := _) rfl | apply AppA.snoc (f := pB) (a := _) rfl | apply AppA.one (f := pB) (a := _) rfl | apply AppA.snoc (f := pS) (a := _) rfl | apply AppA.one (f := pS) (a := _) rfl | apply AppA.map | apply AppA.nil | apply CutA.lo | apply CutA.hi); (first | omega | (simp only [lenS] at *; omega) | grind)) | ((first | (apply RemA.as; assumption) | apply RemA.self); (first | omega | (simp only [lenS] at *; omega) | grind)) | (apply ValA.as; assumption) | apply ValA.self | (apply NW.as; assumption) | (apply SzA.map; (intro _; rfl)) | with_reducible apply br_pt | with_reducible apply br_pf | with_reducible apply br_mt | with_reducible apply br_mf | apply Both.mk | ((first | apply br_T | apply br_F | apply br_mT | apply br_mF); assumption) | ((first | apply br_lss | apply br_leq | apply br_gtr | apply br_geq | apply br_dec | apply br_beq | apply br_bne | apply br_beqB | apply br_bneB | apply br_not | apply br_m | apply br_intro) <;> intro h0 <;> first | (exfalso; first | omega | exact tf h0 (by assumption) | exact tf (by assumption) h0 | exact h0 (by assumption) | exact h0 rfl | exact of_decide_eq_false h0 rfl) | skip) | refine ArrA.mk _ rfl rfl ?_ | (apply IdxA.lit; omega; exact rfl) | ((first | apply IdxA.of_nat | (apply IdxA.of_map; (first | omega | (simp only [lenS] at *; omega) | grind))); rotate_left; (first | omega | (simp only [lenS] at *; omega) | grind)) | apply AppC.own | apply CutO.part | apply IsL.set (f := pI) (a := _) rfl | apply IsL.rep (f := pI) (a := _) rfl | apply IsL.set (f := pB) (a := _) rfl | apply IsL.rep (f := pB) (a := _) rfl | apply IsL.set (f := pS) (a := _) rfl | apply IsL.rep (f := pS) (a := _) rfl | apply IsL.lit (f := pI) [] rfl | apply IsL.lit (f := pI) [_] rfl | apply IsL.lit (f := pB) [] rfl | apply IsL.lit (f := pB) [_] rfl | apply IsL.lit (f := pS) [] rfl | apply IsL.lit (f := pS) [_] rfl | (apply And.intro; (first | with_reducible rfl | (show (_ : AV) = _; rfl) | (first | omega | (simp only [lenS] at *; omega) | grind)))) <;> (solve_by_elim (newGoals := .nonDependentOnly) (symm := false) (exfalso := false) (transparency := .reducible) only [rfl, park_pgN])) : P := h
set_option maxHeartbeats 16000000 in
theorem PinningCores_call (nl : Bool) (ts : List Int) : ACall Try.prog 7 [.p (.list nl (ts.map pI))] [] fun r H => r = .p (pB true) := by
  refine acall_enter Try.func7 rfl rfl tabOK rfl ?_
  (conv => whnf); repeat' ((first | apply CondA.plain | refine' go_pgN | (apply DrawA.quiet (by kernel_rfl) (by kernel_rfl); (conv => whnf); fail_if_success (show False)) | (refine CallA.scalar (sane23_call) ?_)) <;> (conv => whnf))
  · (refine RetK.p ?_ <;> repeat' (first | exact trivial | refine And.intro ?_ ?_ | with_reducible rfl | (refine pIEq ?_; (first | omega | (simp only [lenS] at *; omega) | grind)) | (refine bufMap ?_) | (refine bufNil ?_) | (refine bufEq ?_) | rfl); all_goals try first | refine pBEq ?_ | refine pIEq ?_)
  refine CallA.loc [] [] rfl rfl ((New_call nl ts).mono ?_)
  rintro r H ⟨ts', rfl, rfl⟩
  (conv => whnf); repeat' ((first | apply CondA.plain | refine' go_pgN | (apply DrawA.quiet (by kernel_rfl) (by kernel_rfl); (conv => whnf); fail_if_success (show False))) <;> (conv => whnf))
  refine CallA.loc [0] [] rfl rfl ((Pinout_call nl ts' 0 (Nat.zero_le _)).mono ?_)
  rintro _ _ ⟨p, i, hp, hi, rfl, rfl⟩
  (conv => whnf); repeat' ((first | apply CondA.plain | refine' go_pgN | (apply DrawA.quiet (by kernel_rfl) (by kernel_rfl); (conv => whnf); fail_if_success (show False))) <;> (conv => whnf))
  refine CallA.loc [0] [] rfl rfl ((Demands_call nl ts' i hi 5 (by omega)).mono ?_)
  rintro _ _ ⟨l, nb, i2, hl, hw, hi2, rfl, rfl⟩
  have hR := made_right hp (by omega) hw
  have hol := opts_len p l
  have hM := mostL_is (p := p) (l := l)
  obtain ⟨m, hm⟩ : ∃ m, mostL (satI p.gs (optsL p l)) l.length l.length = m := ⟨_, rfl⟩
  rw [hm] at hM
  have em : mostF p l = (m, 0) := by rw [mostF, if_neg (by rw [badF_nil hR]; simp), hm]
  have hmr : ∀ i ∈ m, 0 ≤ i ∧ i < l.length := fun i hi => by have := hM.asc.rng i hi; rw [hol] at this; omega
  have hml : m.length ≤ l.length := by have := hM.asc.len; omega
  have hma := most_all hM
  rw [hol] at hma
  have hpm := fun n3 => possible_call nb n3 hR m hmr (by omega)
  rw [hM.sat] at hpm
  have ec : coreF p l = if (srch p.gs (optsL p l) []).isSome then ([], 7) else (coreL p.gs (optsL p l) l.length, 0) := by rw [coreF, if_neg (by rw [badF_nil hR]; simp)]
  have main : ∀ (cb : Bool) (core : List Int) (E : Int), coreF p l = (core, E) →
      ((E = 7 ∧ m.length = l.length) ∨ (E = 0 ∧ m.length ≠ l.length ∧ CoreI p.gs (optsL p l) core l.length)) → True := fun _ _ _ _ _ => trivial
  obtain ⟨core, E, ecE, hE⟩ : ∃ core E, coreF p l = (core, E) ∧ ((E = 7 ∧ m.length = l.length) ∨ (E = 0 ∧ m.length ≠ l.length ∧ CoreI p.gs (optsL p l) core l.length)) := by
    cases hS : srch p.gs (optsL p l) [] with
    | some x =>
      rw [hS] at ec hma
      exact ⟨[], 7, ec, .inl ⟨rfl, hma.2 rfl⟩⟩
    | none =>
      rw [hS] at ec hma
      exact ⟨_, 0, ec, .inr ⟨rfl, fun h => (by have := hma.1 h; cases this), coreL_inv hS _⟩⟩
  clear main ec hma
  (conv => whnf); repeat' ((first | apply CondA.plain | refine' go_pgN | (apply DrawA.quiet (by kernel_rfl) (by kernel_rfl); (conv => whnf); fail_if_success (show False))) <;> (conv => whnf))
  refine CallA.loc [] [] rfl rfl ((Core_to ecE nb).mono ?_)
  rintro _ _ ⟨⟨n1, rfl⟩, rfl⟩
  (conv => whnf); repeat' ((first | apply CondA.plain | refine' go_pgN | (apply DrawA.quiet (by kernel_rfl) (by kernel_rfl); (conv => whnf); fail_if_success (show False))) <;> (conv => whnf))
  refine CallA.loc [] [] rfl rfl ((Most_to em nb).mono ?_)
  rintro _ _ ⟨⟨n2, rfl⟩, rfl⟩
  (conv => whnf); repeat' ((first | apply CondA.plain | refine' go_pgN | (apply DrawA.quiet (by kernel_rfl) (by kernel_rfl); (conv => whnf); fail_if_success (show False)) | (refine CallA.scalar (hpm n2) ?_)) <;> (conv => whnf))
  refine loop_rule (fun (c : Nat) => ⟨[(4, .ptr 1 0), (5, .p (.list nb (l.map pS))), (6, .p (.list n1 (core.map pI))), (7, .p (pI E)), (8, .p (.list n2 (m.map pI))), (44, .p (pI l.length)), (45, .p (pI c))], src nl ts' i2 ++ [some (.cells [.p (pI p.n), .p (.list p.nl (p.gs.map Grp.pv))])]⟩) (fun (c : Nat) => c ≤ l.length) (fun (c : Nat) => l.length - c) 0 ?_ ?_ ?_; (refine SubA.auto rfl rfl rfl rfl ?_ ?_ <;> repeat' (first | exact trivial | refine And.intro ?_ ?_ | with_reducible rfl | (refine pIEq ?_; (first | omega | (simp only [lenS] at *; omega) | grind)) | (refine bufMap ?_) | (refine bufNil ?_) | (refine bufEq ?_) | rfl))
  · exact Nat.zero_le _
  rintro c hc
  rcases Nat.lt_or_ge c l.length with hlt | hge
  · cases hcon : m.contains (c : Int) with
    | true =>
      (conv => whnf); repeat' ((first | apply CondA.plain | refine' go_pgN | fail) <;> (conv => whnf))
      refine DrawA.meet (fun (u : Unit) => ⟨[(4, .ptr 1 0), (5, .p (.list nb (l.map pS))), (6, .p (.list n1 (core.map pI))), (7, .p (pI E)), (8, .p (.list n2 (m.map pI))), (44, .p (pI l.length)), (45, .p (pI c)), (61, .p (pB false))], src nl ts' i2 ++ [some (.cells [.p (pI p.n), .p (.list p.nl (p.gs.map Grp.pv))])]⟩) (fun (u : Unit) => True) (DrawB.orders k12Sc (by kernel_rfl) (by kernel_rfl) (by kernel_rfl) ?_) ?_
      · (conv => whnf); repeat' ((first | apply CondA.plain | refine' go_pgN | ((refine CallA.scalar (In_call n2 m (c : Int)) ?_; rw [hcon]))) <;> (conv => whnf))
        all_goals
          (refine' ⟨(), _, _⟩; rotate_right; (refine SubA.auto rfl rfl rfl rfl ?_ ?_ <;> repeat' (first | exact trivial | refine And.intro ?_ ?_ | with_reducible rfl | (refine pIEq ?_; (first | omega | (simp only [lenS] at *; omega) | grind)) | (refine bufMap ?_) | (refine bufNil ?_) | (refine bufEq ?_) | rfl)); rotate_right; (first | omega | (simp only []; omega) | (simp; omega) | (first | omega | (simp only [lenS] at *; omega) | grind)))
      rintro u _
      (conv => whnf); repeat' ((first | apply CondA.plain | refine' go_pgN | fail) <;> (conv => whnf))
      (refine' ⟨c + 1, _, _, _⟩; rotate_right; (refine SubA.auto rfl rfl rfl rfl ?_ ?_ <;> repeat' (first | exact trivial | refine And.intro ?_ ?_ | with_reducible rfl | (refine pIEq ?_; (first | omega | (simp only [lenS] at *; omega) | grind)) | (refine bufMap ?_) | (refine bufNil ?_) | (refine bufEq ?_) | rfl)); rotate_right; (first | omega | (simp only []; omega) | (simp; omega) | (first | omega | (simp only [lenS] at *; omega) | grind)))
      exact hlt
    | false =>
      have hno := hM.more (i := c) (by omega) (fun h => by rw [List.contains_iff_mem.2 h] at hcon; cases hcon)
      have hpc := fun n3 => possible_call nb n3 hR (m ++ [(c : Int)]) (fun i hi => by
        rcases List.mem_append.1 hi with hi | hi
        · exact hmr i hi
        · rw [List.mem_singleton.1 hi]; omega) (by rw [List.length_append]; show m.length + 1 ≤ 10; omega)
      rw [hno] at hpc
      (conv => whnf); repeat' ((first | apply CondA.plain | refine' go_pgN | fail) <;> (conv => whnf))
      refine DrawA.meet (fun (u : Unit) => ⟨[(4, .ptr 1 0), (5, .p (.list nb (l.map pS))), (6, .p (.list n1 (core.map pI))), (7, .p (pI E)), (8, .p (.list n2 (m.map pI))), (44, .p (pI l.length)), (45, .p (pI c)), (61, .p (pB false))], src nl ts' i2 ++ [some (.cells [.p (pI p.n), .p (.list p.nl (p.gs.map Grp.pv))])]⟩) (fun (u : Unit) => True) (DrawB.orders k12Sc (by kernel_rfl) (by kernel_rfl) (by kernel_rfl) ?_) ?_
      · (conv => whnf); repeat' ((first | apply CondA.plain | refine' go_pgN | ((refine CallA.scalar (In_call n2 m (c : Int)) ?_; rw [hcon]))) <;> (conv => whnf))
        all_goals
          refine CallA.loc [] [4] rfl rfl ((hpc _).mono ?_)
          rintro _ _ ⟨rfl, rfl⟩
          (conv => whnf); repeat' ((first | apply CondA.plain | refine' go_pgN | fail) <;> (conv => whnf))
          (refine' ⟨(), _, _⟩; rotate_right; (refine SubA.auto rfl rfl rfl rfl ?_ ?_ <;> repeat' (first | exact trivial | refine And.intro ?_ ?_ | with_reducible rfl | (refine pIEq ?_; (first | omega | (simp only [lenS] at *; omega) | grind)) | (refine bufMap ?_) | (refine bufNil ?_) | (refine bufEq ?_) | rfl)); rotate_right; (first | omega | (simp only []; omega) | (simp; omega) | (first | omega | (simp only [lenS] at *; omega) | grind)))
      rintro u _
      (conv => whnf); repeat' ((first | apply CondA.plain | refine' go_pgN | fail) <;> (conv => whnf))
      (refine' ⟨c + 1, _, _, _⟩; rotate_right; (refine SubA.auto rfl rfl rfl rfl ?_ ?_ <;> repeat' (first | exact trivial | refine And.intro ?_ ?_ | with_reducible rfl | (refine pIEq ?_; (first | omega | (simp only [lenS] at *; omega) | grind)) | (refine bufMap ?_) | (refine bufNil ?_) | (refine bufEq ?_) | rfl)); rotate_right; (first | omega | (simp only []; omega) | (simp; omega) | (first | omega | (simp only [lenS] at *; omega) | grind)))
      exact hlt
  rcases hE with ⟨rfl, hml2⟩ | ⟨rfl, hml2, hC⟩
  · (conv => whnf); repeat' ((first | apply CondA.plain | refine' go_pgN | (refine CallA.scalar (sane23_call) ?_)) <;> (conv => whnf))
    (refine RetK.p ?_ <;> repeat' (first | exact trivial | refine And.intro ?_ ?_ | with_reducible rfl | (refine pIEq ?_; (first | omega | (simp only [lenS] at *; omega) | grind)) | (refine bufMap ?_) | (refine bufNil ?_) | (refine bufEq ?_) | rfl); all_goals try first | refine pBEq ?_ | refine pIEq ?_)
  have hcr : ∀ i ∈ core, 0 ≤ i ∧ i < l.length := fun i hi => by have := upF_mem.1 (hC.sub.subset hi); rw [hol] at this; omega
  have hcl : core.length ≤ l.length := by have := hC.sub.length_le; rw [upF_len, hol] at this; omega
  have hpk := fun n3 => possible_call nb n3 hR core hcr (by omega)
  have hno : satI p.gs (optsL p l) core = false := by rw [satI, hC.no]; rfl
  rw [hno] at hpk
  (conv => whnf); repeat' ((first | apply CondA.plain | refine' go_pgN | (refine CallA.scalar (hpk n1) ?_)) <;> (conv => whnf))
  refine loop_rule (fun (c : Nat) => ⟨[(4, .ptr 1 0), (5, .p (.list nb (l.map pS))), (6, .p (.list n1 (core.map pI))), (89, .p (pI core.length)), (90, .p (pI c))], src nl ts' i2 ++ [some (.cells [.p (pI p.n), .p (.list p.nl (p.gs.map Grp.pv))])]⟩) (fun (c : Nat) => c ≤ core.length) (fun (c : Nat) => core.length - c) 0 ?_ ?_ ?_; (refine SubA.auto rfl rfl rfl rfl ?_ ?_ <;> repeat' (first | exact trivial | refine And.intro ?_ ?_ | with_reducible rfl | (refine pIEq ?_; (first | omega | (simp only [lenS] at *; omega) | grind)) | (refine bufMap ?_) | (refine bufNil ?_) | (refine bufEq ?_) | rfl))
  · exact Nat.zero_le _
  clear hge
  rintro c hc
  rcases Nat.lt_or_ge c core.length with hlt | hge
  rotate_left
  · (conv => whnf); repeat' ((first | apply CondA.plain | refine' go_pgN | (refine CallA.scalar (sane23_call) ?_)) <;> (conv => whnf))
    (refine RetK.p ?_ <;> repeat' (first | exact trivial | refine And.intro ?_ ?_ | with_reducible rfl | (refine pIEq ?_; (first | omega | (simp only [lenS] at *; omega) | grind)) | (refine bufMap ?_) | (refine bufNil ?_) | (refine bufEq ?_) | rfl); all_goals try first | refine pBEq ?_ | refine pIEq ?_)
  have hCl := hC
  rw [← hol] at hCl
  have hyes : satI p.gs (optsL p l) (core.take c ++ core.drop (c + 1)) = true := hCl.less hlt
  have hpc := fun n3 => possible_call nb n3 hR (core.take c ++ core.drop (c + 1)) (fun i hi => by
    rcases List.mem_append.1 hi with hi | hi
    · exact hcr i (List.mem_of_mem_take hi)
    · exact hcr i (List.mem_of_mem_drop hi)) (by rw [List.length_append, List.length_take, List.length_drop]; omega)
  rw [hyes] at hpc
  have htk : List.take ((c : Nat) : Int).toNat (core.map pI) = (core.take c).map pI := by rw [Int.toNat_natCast, List.map_take]
  have hdr : List.drop (((c : Nat) : Int) + 1).toNat (core.map pI) = (core.drop (c + 1)).map pI := by rw [show (((c : Nat) : Int) + 1).toNat = c + 1 by omega, List.map_drop]
  (conv => whnf); repeat' ((first | apply CondA.plain | refine' go_pgN | fail) <;> (conv => whnf))
  refine DrawA.meet (fun (u : Unit) => ⟨[(4, .ptr 1 0), (5, .p (.list nb (l.map pS))), (6, .p (.list n1 (core.map pI))), (89, .p (pI core.length)), (90, .p (pI c)), (105, .p (pB false))], src nl ts' i2 ++ [some (.cells [.p (pI p.n), .p (.list p.nl (p.gs.map Grp.pv))])]⟩) (fun (u : Unit) => True) (DrawB.orders k22Sc (by kernel_rfl) (by kernel_rfl) (by kernel_rfl) ?_) ?_
  · (conv => whnf); repeat' ((first | (refine CutA.mk ((core.take c).map pI) (by omega) htk ?_) | (refine CutA.mk ((core.drop (c + 1)).map pI) (by omega) hdr ?_) | apply CondA.plain | refine' go_pgN | fail) <;> (conv => whnf))
    all_goals
      refine CallA.loc [] [3] rfl rfl ((hpc _).mono ?_)
      rintro _ _ ⟨rfl, rfl⟩
      (conv => whnf); repeat' ((first | apply CondA.plain | refine' go_pgN | fail) <;> (conv => whnf))
      (refine' ⟨(), _, _⟩; rotate_right; (refine SubA.auto rfl rfl rfl rfl ?_ ?_ <;> repeat' (first | exact trivial | refine And.intro ?_ ?_ | with_reducible rfl | (refine pIEq ?_; (first | omega | (simp only [lenS] at *; omega) | grind)) | (refine bufMap ?_) | (refine bufNil ?_) | (refine bufEq ?_) | rfl)); rotate_right; (first | omega | (simp only []; omega) | (simp; omega) | (first | omega | (simp only [lenS] at *; omega) | grind)))
  rintro u _
  (conv => whnf); repeat' ((first | apply CondA.plain | refine' go_pgN | fail) <;> (conv => whnf))
  (refine' ⟨c + 1, _, _, _⟩; rotate_right; (refine SubA.auto rfl rfl rfl rfl ?_ ?_ <;> repeat' (first | exact trivial | refine And.intro ?_ ?_ | with_reducible rfl | (refine pIEq ?_; (first | omega | (simp only [lenS] at *; omega) | grind)) | (refine bufMap ?_) | (refine bufNil ?_) | (refine bufEq ?_) | rfl)); rotate_right; (first | omega | (simp only []; omega) | (simp; omega) | (first | omega | (simp only [lenS] at *; omega) | grind)))
  exact hlt
end Go.Proofs.Ytnogpkaehiapfaa
