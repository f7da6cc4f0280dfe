/- Pinning: Most; what is possible. -/
import Derived.Test.YtnogpkaehiapfaapgU
import Derived.Test.YtnogpkaehiapfaapgE
import Derived.Test.YtnogpkaehiapfaapgI
namespace Go.Proofs.Ytnogpkaehiapfaa
set_option linter.unusedSimpArgs false
set_option linter.unusedVariables false
set_option linter.unnecessarySimpa false
open Go.Abs
set_option maxRecDepth 100000
def c9SC0 : Sc := (.one 4 (.one 5 (.one 9 (.take 10 .done))))
def c9SC1 : Sc := (.one 2 (.one 5 (.one 9 (.take 10 .done))))
def c9SC2 : Sc := (.two 2 4 c9SC0 c9SC1)
def c9SC3 : Sc := (.one 5 (.one 9 (.take 10 .done)))
def c9SC4 : Sc := (.one 0 (.one 9 (.take 10 .done)))
def c9SC5 : Sc := (.two 0 5 c9SC3 c9SC4)
def c9SC6 : Sc := (.two 0 4 c9SC0 c9SC5)
def c9SC7 : Sc := (.two 0 2 c9SC1 c9SC5)
def c9Sc : Sc := (.take 1 (.take 3 (.take 6 (.take 7 (.take 8 (.three 0 2 4 c9SC2 c9SC6 c9SC7))))))
theorem findR_at {β : Type} {f : Nat → Option β} {i m : Nat} {b : β} (hi : i < m) (h : ∀ j, j < i → f j = none) (he : f i = some b) : (List.range m).findSome? f = some b := by
  cases hs : (List.range m).findSome? f with
  | none => rw [List.findSome?_eq_none_iff] at hs; rw [hs i (List.mem_range.2 hi)] at he; cases he
  | some c =>
    obtain ⟨k, hk, h1, h2⟩ := findR_some hs
    rcases Nat.lt_trichotomy i k with h3 | h3 | h3
    · rw [h2 i h3] at he; cases he
    · subst h3; rw [h1] at he; exact he
    · rw [h k h3] at h1; cases h1
def resC : Option (List Int) → AV
  | some x => .p (.list false (x.map pI))
  | none => .p (.list true [])
/-- Kept for later: a goal of a walk's step. -/
theorem park_pgM {P : Prop} (x : P) (_ : x = x) : P := x
/-- One step of a walk. -/
theorem go_pgM {P : Prop} (h : P := by
  (first | ((first | apply LenA.map | apply NilA.map | apply NilA.mk); intro _) | ((first | apply NW.as | apply ValA.as); with_reducible assumption) | ((first | apply NW.i64 | apply NW.u32 | apply NW.u64 | apply NW.u8 | apply InA.nat | apply InA.map | apply AppA.snoc (f := pI) (a := _) rfl | apply AppA.one (f := pI) (a := _) rfl | apply AppA.snoc (f := pB) (a := _) rfl | apply AppA.one (f := pB) (a := _) rfl | apply AppA.snoc (f := pS) (a := _) rfl | apply AppA.one (f := pS) (a := _) rfl | apply AppA.map | apply AppA.nil | apply CutA.lo | apply CutA.hi); (first | omega | (simp only [lenS] at *; omega) | grind)) | ((first | (apply RemA.as; assumption) | apply RemA.self); (first | omega | (simp only [lenS] at *; omega) | grind)) | (apply ValA.as; assumption) | apply ValA.self | (apply NW.as; assumption) | (apply SzA.map; (intro _; rfl)) | with_reducible apply br_pt | with_reducible apply br_pf | with_reducible apply br_mt | with_reducible apply br_mf | apply Both.mk | ((first | apply br_T | apply br_F | apply br_mT | apply br_mF); assumption) | ((first | apply br_lss | apply br_leq | apply br_gtr | apply br_geq | apply br_dec | apply br_beq | apply br_bne | apply br_beqB | apply br_bneB | apply br_not | apply br_m | apply br_intro) <;> intro h0 <;> first | (exfalso; first | omega | exact tf h0 (by assumption) | exact tf (by assumption) h0 | exact h0 (by assumption) | exact h0 rfl | exact of_decide_eq_false h0 rfl) | skip) | refine ArrA.mk _ rfl rfl ?_ | (apply IdxA.lit; omega; exact rfl) | ((first | apply IdxA.of_nat | (apply IdxA.of_map; (first | omega | (simp only [lenS] at *; omega) | grind))); rotate_left; (first | omega | (simp only [lenS] at *; omega) | grind)) | apply AppC.own | apply CutO.part | apply IsL.set (f := pI) (a := _) rfl | apply IsL.rep (f := pI) (a := _) rfl | apply IsL.set (f := pB) (a := _) rfl | apply IsL.rep (f := pB) (a := _) rfl | apply IsL.set (f := pS) (a := _) rfl | apply IsL.rep (f := pS) (a := _) rfl | apply IsL.lit (f := pI) [] rfl | apply IsL.lit (f := pI) [_] rfl | apply IsL.lit (f := pB) [] rfl | apply IsL.lit (f := pB) [_] rfl | apply IsL.lit (f := pS) [] rfl | apply IsL.lit (f := pS) [_] rfl | (apply And.intro; (first | with_reducible rfl | (show (_ : AV) = _; rfl) | (first | omega | (simp only [lenS] at *; omega) | grind)))) <;> (solve_by_elim (newGoals := .nonDependentOnly) (symm := false) (exfalso := false) (transparency := .reducible) only [rfl, park_pgM])) : P := h
set_option maxHeartbeats 8000000 in
theorem chosen_call {p : Pin} (hP : VP p) (on mn : Bool) (os : List (Bool × List Int)) (hos : ∀ x ∈ os, ∀ g ∈ x.2, 0 ≤ g ∧ g < p.gs.length) (hol : os.length ≤ 10) : ∀ (k : Nat) (nb : Bool) (ls : List Int) (f : Nat),
    (∀ c ∈ ls, 0 ≤ c ∧ c < os.length) → ls.length + k ≤ 10 → f ≤ 10 → (k = 0 → nb = false) →
    ACall Try.prog 53 [.p (probV on os mn (masksG p.gs) true [] (takenN p.gs [])), .p (.list nb (ls.map pI)), .p (pI f), .p (pI ((ls.length + k : Nat) : Int))] [] fun r H => r = resC (chosenF (satI p.gs (os.map (·.2))) os.length k ls f) ∧ H = []
  | 0, nb, ls, f, hr, hl, hf, hnb => by
    obtain rfl := hnb rfl
    refine acall_enter Try.func53 rfl rfl tabOK rfl ?_
    have hfc := first_call hP on mn true false os [] ls (fun g hg => by cases hg) hr hos (by omega)
    rw [chosenF]
    obtain ⟨S, hS⟩ : ∃ S, srch p.gs (optsC os ls) [] = S := ⟨_, rfl⟩
    have hst : satI p.gs (os.map (·.2)) ls = S.isSome := by rw [satI, ← optsC_eq, hS]
    rw [hS] at hfc
    rw [hst]
    (conv => whnf); repeat' ((first | apply CondA.plain | refine' go_pgM | (apply DrawA.quiet (by kernel_rfl) (by kernel_rfl); (conv => whnf); fail_if_success (show False))) <;> (conv => whnf))
    refine CallA.loc [] [] rfl rfl (hfc.mono ?_)
    rintro _ _ ⟨⟨n2, rfl⟩, rfl⟩
    cases S with
    | none =>
      (conv => whnf); repeat' ((first | apply CondA.plain | refine' go_pgM | (apply DrawA.quiet (by kernel_rfl) (by kernel_rfl); (conv => whnf); fail_if_success (show False))) <;> (conv => whnf))
      (refine' RetK.auto (.p (.list true [])) ([]) rfl rfl rfl rfl _ _ _ <;> repeat' (first | exact trivial | refine And.intro ?_ ?_ | with_reducible rfl | (refine pIEq ?_; (first | omega | (simp only [lenS] at *; omega) | grind)) | (refine bufMap ?_) | (refine bufNil ?_) | (refine bufEq ?_) | rfl))
    | some x =>
      (conv => whnf); repeat' ((first | apply CondA.plain | refine' go_pgM | (apply DrawA.quiet (by kernel_rfl) (by kernel_rfl); (conv => whnf); fail_if_success (show False))) <;> (conv => whnf))
      (refine' RetK.auto (.p (.list false (ls.map pI))) ([]) rfl rfl rfl rfl _ _ _ <;> repeat' (first | exact trivial | refine And.intro ?_ ?_ | with_reducible rfl | (refine pIEq ?_; (first | omega | (simp only [lenS] at *; omega) | grind)) | (refine bufMap ?_) | (refine bufNil ?_) | (refine bufEq ?_) | rfl))
  | k + 1, nb, ls, f, hr, hl, hf, hnb => by
    have IH := chosen_call hP on mn os hos hol k
    refine acall_enter Try.func53 rfl rfl tabOK rfl ?_
    have hfc := first_call hP on mn true nb os [] ls (fun g hg => by cases hg) hr hos (by omega)
    rw [chosenF]
    obtain ⟨S, hS⟩ : ∃ S, srch p.gs (optsC os ls) [] = S := ⟨_, rfl⟩
    have hst : satI p.gs (os.map (·.2)) ls = S.isSome := by rw [satI, ← optsC_eq, hS]
    rw [hS] at hfc
    rw [hst]
    (conv => whnf); repeat' ((first | apply CondA.plain | refine' go_pgM | (apply DrawA.quiet (by kernel_rfl) (by kernel_rfl); (conv => whnf); fail_if_success (show False))) <;> (conv => whnf))
    refine CallA.loc [] [] rfl rfl (hfc.mono ?_)
    rintro _ _ ⟨⟨n2, rfl⟩, rfl⟩
    cases S with
    | none =>
      (conv => whnf); repeat' ((first | apply CondA.plain | refine' go_pgM | (apply DrawA.quiet (by kernel_rfl) (by kernel_rfl); (conv => whnf); fail_if_success (show False))) <;> (conv => whnf))
      (refine' RetK.auto (.p (.list true [])) ([]) rfl rfl rfl rfl _ _ _ <;> repeat' (first | exact trivial | refine And.intro ?_ ?_ | with_reducible rfl | (refine pIEq ?_; (first | omega | (simp only [lenS] at *; omega) | grind)) | (refine bufMap ?_) | (refine bufNil ?_) | (refine bufEq ?_) | rfl))
    | some x =>
      obtain ⟨G, hG⟩ : ∃ G : Nat → Option (List Int), G = fun i => chosenF (satI p.gs (os.map (·.2))) os.length k (ls ++ [((f + i : Nat) : Int)]) (f + i + 1) := ⟨_, rfl⟩
      rw [← hG]
      have hif : (if (some x).isSome = true then List.findSome? G (List.range (os.length - k - f)) else none) = List.findSome? G (List.range (os.length - k - f)) := rfl
      rw [hif]
      (conv => whnf); repeat' ((first | apply CondA.plain | refine' go_pgM | fail) <;> (conv => whnf))
      refine loop_rule (fun (i : Nat) => ⟨[(1, .p (.list nb (ls.map pI))), (3, .p (pI ((ls.length + (k + 1) : Nat) : Int))), (4, .ptr 0 0), (11, .p (pI ((f + i : Nat) : Int)))], [some (.cells [.p (.list on (os.map fI)), .p (.list mn ((masksG p.gs).map pU)), .p (.list true []), .p (pU (takenN p.gs []))])]⟩) (fun (i : Nat) => i ≤ os.length - k - f ∧ ∀ j, j < i → G j = none) (fun (i : Nat) => os.length - k - f - i) 0 ?_ ?_ ?_; (refine SubA.auto rfl rfl rfl rfl ?_ ?_ <;> repeat' (first | exact trivial | refine And.intro ?_ ?_ | with_reducible rfl | (refine pIEq ?_; (first | omega | (simp only [lenS] at *; omega) | grind)) | (refine bufMap ?_) | (refine bufNil ?_) | (refine bufEq ?_) | rfl))
      · exact ⟨Nat.zero_le _, fun j hj => by omega⟩
      rintro i ⟨hi, hall⟩
      rcases Nat.lt_or_ge i (os.length - k - f) with hlt | hge
      rotate_left
      · have e : List.findSome? G (List.range (os.length - k - f)) = none := List.findSome?_eq_none_iff.2 fun j hj => hall j (by have := List.mem_range.1 hj; omega)
        rw [e]
        (conv => whnf); repeat' ((first | apply CondA.plain | refine' go_pgM | fail) <;> (conv => whnf))
        (refine' RetK.auto (.p (.list true [])) ([]) rfl rfl rfl rfl _ _ _ <;> repeat' (first | exact trivial | refine And.intro ?_ ?_ | with_reducible rfl | (refine pIEq ?_; (first | omega | (simp only [lenS] at *; omega) | grind)) | (refine bufMap ?_) | (refine bufNil ?_) | (refine bufEq ?_) | rfl))
      have hc := fun nb2 h0 => IH nb2 (ls ++ [((f + i : Nat) : Int)]) (f + i + 1) (fun c hc => by
        rcases List.mem_append.1 hc with hc | hc
        · exact hr c hc
        · rw [List.mem_singleton.1 hc]; omega) (by rw [List.length_append]; show ls.length + 1 + k ≤ 10; omega) (by omega) h0
      have hgl : (ls ++ [((f + i : Nat) : Int)]).length + k = ls.length + (k + 1) := by rw [List.length_append]; show ls.length + 1 + k = _; omega
      have hGi : G i = chosenF (satI p.gs (os.map (·.2))) os.length k (ls ++ [((f + i : Nat) : Int)]) (f + i + 1) := by rw [hG]
      have hll : ls.length ≤ 100000 := by omega
      rw [hgl, ← hGi] at hc
      cases hR : G i with
      | none =>
        rw [hR] at hc
        (conv => whnf); repeat' ((first | apply CondA.plain | refine' go_pgM | fail) <;> (conv => whnf))
        refine DrawA.meet (fun (u : Unit) => ⟨[(1, .p (.list nb (ls.map pI))), (3, .p (pI ((ls.length + (k + 1) : Nat) : Int))), (4, .ptr 0 0), (11, .p (pI ((f + i : Nat) : Int))), (12, .p (.list true []))], [some (.cells [.p (.list on (os.map fI)), .p (.list mn ((masksG p.gs).map pU)), .p (.list true []), .p (pU (takenN p.gs []))])]⟩) (fun (u : Unit) => True) (DrawB.orders c9Sc (by kernel_rfl) (by kernel_rfl) (by kernel_rfl) ?_) ?_
        · (conv => whnf); repeat' ((first | apply CondA.plain | refine' go_pgM | fail) <;> (conv => whnf))
          all_goals
            refine CallA.loc [] [] rfl rfl ((Clone_call nb ls hll).mono ?_)
            rintro _ _ ⟨n3, rfl, rfl⟩
            (conv => whnf); repeat' ((first | apply CondA.plain | refine' go_pgM | fail) <;> (conv => whnf))
            all_goals
              refine CallA.loc [] [3] rfl rfl ((hc _ (fun _ => rfl)).mono ?_)
              rintro _ _ ⟨rfl, rfl⟩
              (conv => whnf); repeat' ((first | apply CondA.plain | refine' go_pgM | fail) <;> (conv => whnf))
              (refine' ⟨(), _, _⟩; rotate_right; (refine SubA.auto rfl rfl rfl rfl ?_ ?_ <;> repeat' (first | exact trivial | refine And.intro ?_ ?_ | with_reducible rfl | (refine pIEq ?_; (first | omega | (simp only [lenS] at *; omega) | grind)) | (refine bufMap ?_) | (refine bufNil ?_) | (refine bufEq ?_) | rfl)); rotate_right; (first | omega | (simp only []; omega) | (simp; omega) | (first | omega | (simp only [lenS] at *; omega) | grind)))
        rintro u _
        (conv => whnf); repeat' ((first | apply CondA.plain | refine' go_pgM | fail) <;> (conv => whnf))
        (refine' ⟨i + 1, _, _, _⟩; rotate_right; (refine SubA.auto rfl rfl rfl rfl ?_ ?_ <;> repeat' (first | exact trivial | refine And.intro ?_ ?_ | with_reducible rfl | (refine pIEq ?_; (first | omega | (simp only [lenS] at *; omega) | grind)) | (refine bufMap ?_) | (refine bufNil ?_) | (refine bufEq ?_) | rfl)); rotate_right; (first | omega | (simp only []; omega) | (simp; omega) | (first | omega | (simp only [lenS] at *; omega) | grind)))
        refine ⟨by omega, fun j hj => ?_⟩
        rcases Nat.lt_or_ge j i with h1 | h1
        · exact hall j h1
        · obtain rfl : j = i := by omega
          exact hR
      | some y =>
        rw [hR] at hc
        have e := findR_at hlt hall hR
        rw [e]
        (conv => whnf); repeat' ((first | apply CondA.plain | refine' go_pgM | fail) <;> (conv => whnf))
        refine DrawA.meet (fun (u : Unit) => ⟨[(1, .p (.list nb (ls.map pI))), (3, .p (pI ((ls.length + (k + 1) : Nat) : Int))), (4, .ptr 0 0), (11, .p (pI ((f + i : Nat) : Int))), (12, .p (.list false (y.map pI)))], [some (.cells [.p (.list on (os.map fI)), .p (.list mn ((masksG p.gs).map pU)), .p (.list true []), .p (pU (takenN p.gs []))])]⟩) (fun (u : Unit) => True) (DrawB.orders c9Sc (by kernel_rfl) (by kernel_rfl) (by kernel_rfl) ?_) ?_
        · (conv => whnf); repeat' ((first | apply CondA.plain | refine' go_pgM | fail) <;> (conv => whnf))
          all_goals
            refine CallA.loc [] [] rfl rfl ((Clone_call nb ls hll).mono ?_)
            rintro _ _ ⟨n3, rfl, rfl⟩
            (conv => whnf); repeat' ((first | apply CondA.plain | refine' go_pgM | fail) <;> (conv => whnf))
            all_goals
              refine CallA.loc [] [3] rfl rfl ((hc _ (fun _ => rfl)).mono ?_)
              rintro _ _ ⟨rfl, rfl⟩
              (conv => whnf); repeat' ((first | apply CondA.plain | refine' go_pgM | fail) <;> (conv => whnf))
              (refine' ⟨(), _, _⟩; rotate_right; (refine SubA.auto rfl rfl rfl rfl ?_ ?_ <;> repeat' (first | exact trivial | refine And.intro ?_ ?_ | with_reducible rfl | (refine pIEq ?_; (first | omega | (simp only [lenS] at *; omega) | grind)) | (refine bufMap ?_) | (refine bufNil ?_) | (refine bufEq ?_) | rfl)); rotate_right; (first | omega | (simp only []; omega) | (simp; omega) | (first | omega | (simp only [lenS] at *; omega) | grind)))
        rintro u _
        (conv => whnf); repeat' ((first | apply CondA.plain | refine' go_pgM | fail) <;> (conv => whnf))
        (refine' RetK.auto (.p (.list false (y.map pI))) ([]) rfl rfl rfl rfl _ _ _ <;> repeat' (first | exact trivial | refine And.intro ?_ ?_ | with_reducible rfl | (refine pIEq ?_; (first | omega | (simp only [lenS] at *; omega) | grind)) | (refine bufMap ?_) | (refine bufNil ?_) | (refine bufEq ?_) | rfl))
set_option maxHeartbeats 4000000 in
theorem Most_call (p : Pin) (nl : Bool) (l : List ByteArray) : ACall Try.prog 23 [.p p.pv, .p (.list nl (l.map pS))] [] (F2 (mostF p l).1 (mostF p l).2) := by
  refine acall_enter Try.func23 rfl rfl tabOK rfl ?_
  (conv => whnf); repeat' ((first | apply CondA.plain | refine' go_pgM | (apply DrawA.quiet (by kernel_rfl) (by kernel_rfl); (conv => whnf); fail_if_success (show False))) <;> (conv => whnf))
  refine CallA.loc [] [] rfl rfl ((build_call p nl true l []).mono ?_)
  rintro _ _ ⟨rfl, ⟨he, rfl⟩ | ⟨he, on, os, mn, hos, rfl⟩⟩
  · have e : mostF p l = ([], badF p l []) := by rw [mostF, if_pos he]
    rw [e]
    obtain ⟨E, hE⟩ : ∃ E, badF p l [] = E := ⟨_, rfl⟩
    rw [hE] at he ⊢
    (conv => whnf); repeat' ((first | apply CondA.plain | refine' go_pgM | (apply DrawA.quiet (by kernel_rfl) (by kernel_rfl); (conv => whnf); fail_if_success (show False))) <;> (conv => whnf))
    (refine' RetK.auto (.tup [.p (.list true []), .p (pI E)]) ([]) rfl rfl rfl rfl _ _ _ <;> repeat' (first | exact trivial | refine And.intro ?_ ?_ | with_reducible rfl | (refine pIEq ?_; (first | omega | (simp only [lenS] at *; omega) | grind)) | (refine bufMap ?_) | (refine bufNil ?_) | (refine bufEq ?_) | rfl))
    exact ⟨true, rfl⟩
  obtain ⟨hR, hfit⟩ := badF_ok he
  have hP := valid_of hR.1
  have hl10 := hR.2.1
  have hol : os.length = l.length := by
    have := congrArg List.length hos
    simp [optsL] at this
    exact this
  have e : mostF p l = (mostL (satI p.gs (optsL p l)) l.length l.length, 0) := by rw [mostF, if_neg (by rw [he]; simp)]
  rw [e]
  have hc := fun s h => chosen_call hP on mn os (opts_rng hos) (by omega) (s + 1) true [] 0 (fun c hc => by cases hc) h (by omega) (fun h => by omega)
  rw [hos, hol] at hc
  (conv => whnf); repeat' ((first | apply CondA.plain | refine' go_pgM | fail) <;> (conv => whnf))
  refine loop_rule (fun (s : Nat) => ⟨[(6, .ptr 0 0), (8, .p (pI s))], [some (.cells [.p (.list on (os.map fI)), .p (.list mn ((masksG p.gs).map pU)), .p (.list true []), .p (pU (takenN p.gs []))])]⟩) (fun (s : Nat) => s ≤ l.length ∧ mostL (satI p.gs (optsL p l)) l.length l.length = mostL (satI p.gs (optsL p l)) l.length s) (fun (s : Nat) => s) l.length ?_ ?_ ?_; (refine SubA.auto rfl rfl rfl rfl ?_ ?_ <;> repeat' (first | exact trivial | refine And.intro ?_ ?_ | with_reducible rfl | (refine pIEq ?_; (first | omega | (simp only [lenS] at *; omega) | grind)) | (refine bufMap ?_) | (refine bufNil ?_) | (refine bufEq ?_) | rfl))
  · exact ⟨Nat.le_refl _, rfl⟩
  rintro s ⟨hs, hm⟩
  cases s with
  | zero =>
    rw [hm, mostL]
    (conv => whnf); repeat' ((first | apply CondA.plain | refine' go_pgM | fail) <;> (conv => whnf))
    (refine' RetK.auto (.tup [.p (.list true []), .p (pI 0)]) ([]) rfl rfl rfl rfl _ _ _ <;> repeat' (first | exact trivial | refine And.intro ?_ ?_ | with_reducible rfl | (refine pIEq ?_; (first | omega | (simp only [lenS] at *; omega) | grind)) | (refine bufMap ?_) | (refine bufNil ?_) | (refine bufEq ?_) | rfl))
    exact ⟨true, rfl⟩
  | succ s =>
    have hc := hc s (by simp; omega)
    have hz : (([] : List Int).length + (s + 1) : Nat) = s + 1 := by simp
    rw [hz] at hc
    rw [mostL] at hm
    cases hR2 : chosenF (satI p.gs (optsL p l)) l.length (s + 1) [] 0 with
    | none =>
      rw [hR2] at hm hc
      (conv => whnf); repeat' ((first | apply CondA.plain | refine' go_pgM | fail) <;> (conv => whnf))
      refine CallA.loc [] [] rfl rfl (hc.mono ?_)
      rintro _ _ ⟨rfl, rfl⟩
      (conv => whnf); repeat' ((first | apply CondA.plain | refine' go_pgM | fail) <;> (conv => whnf))
      (refine' ⟨s, _, _, _⟩; rotate_right; (refine SubA.auto rfl rfl rfl rfl ?_ ?_ <;> repeat' (first | exact trivial | refine And.intro ?_ ?_ | with_reducible rfl | (refine pIEq ?_; (first | omega | (simp only [lenS] at *; omega) | grind)) | (refine bufMap ?_) | (refine bufNil ?_) | (refine bufEq ?_) | rfl)); rotate_right; (first | omega | (simp only []; omega) | (simp; omega) | (first | omega | (simp only [lenS] at *; omega) | grind)))
      exact ⟨by omega, hm⟩
    | some y =>
      rw [hR2] at hm hc
      rw [hm]
      (conv => whnf); repeat' ((first | apply CondA.plain | refine' go_pgM | fail) <;> (conv => whnf))
      refine CallA.loc [] [] rfl rfl (hc.mono ?_)
      rintro _ _ ⟨rfl, rfl⟩
      (conv => whnf); repeat' ((first | apply CondA.plain | refine' go_pgM | fail) <;> (conv => whnf))
      (refine' RetK.auto (.tup [.p (.list false (y.map pI)), .p (pI 0)]) ([]) rfl rfl rfl rfl _ _ _ <;> repeat' (first | exact trivial | refine And.intro ?_ ?_ | with_reducible rfl | (refine pIEq ?_; (first | omega | (simp only [lenS] at *; omega) | grind)) | (refine bufMap ?_) | (refine bufNil ?_) | (refine bufEq ?_) | rfl))
      exact ⟨false, rfl⟩
/-- Some of the demands. -/
def pickL' (l : List ByteArray) (ch : List Int) : List ByteArray := ch.map fun i => l.getD i.toNat ⟨#[]⟩
theorem pick_opts (p : Pin) (l : List ByteArray) {ch : List Int} (h : ∀ i ∈ ch, 0 ≤ i ∧ i < l.length) : optsL p (pickL' l ch) = optsI (optsL p l) ch := by
  unfold pickL' optsI
  rw [optsL, List.map_map]
  refine List.map_congr_left fun i hi => ?_
  have := h i hi
  have hl : i.toNat < l.length := by omega
  show offersF p (l.getD i.toNat _) = _
  rw [List.getD_eq_getElem?_getD, List.getElem?_eq_getElem hl, List.getD_eq_getElem?_getD, List.getElem?_eq_getElem (by rw [opts_len]; exact hl), optsL_at hl]; rfl
theorem pick_right {p : Pin} {l : List ByteArray} (hR : rightP p l) {ch : List Int} (h : ∀ i ∈ ch, 0 ≤ i ∧ i < l.length) (hl : ch.length ≤ 10) : rightP p (pickL' l ch) := by
  refine ⟨hR.1, by simp [pickL']; exact hl, fun ⟨f, hf, hw⟩ => hR.2.2 ⟨f, ?_, hw⟩⟩
  obtain ⟨i, hi, rfl⟩ := List.mem_map.1 hf
  have := h i hi
  have hl : i.toNat < l.length := by omega
  rw [List.getD_eq_getElem?_getD, List.getElem?_eq_getElem hl]
  exact List.getElem_mem _
theorem possible_call {p : Pin} (nl nc : Bool) {l : List ByteArray} (hR : rightP p l) (ch : List Int) (h : ∀ i ∈ ch, 0 ≤ i ∧ i < l.length) (hl : ch.length ≤ 10) :
    ACall Try.prog 24 [.p p.pv, .p (.list nl (l.map pS)), .p (.list nc (ch.map pI))] [] fun r H => r = .p (pB (satI p.gs (optsL p l) ch)) ∧ H = [] := by
  refine acall_enter Try.func24 rfl rfl tabOK rfl ?_
  (conv => whnf); repeat' ((first | apply CondA.plain | refine' go_pgM | (apply DrawA.quiet (by kernel_rfl) (by kernel_rfl); (conv => whnf); fail_if_success (show False))) <;> (conv => whnf))
  refine loop_rule (fun (⟨c, nb, x⟩ : Nat × Bool × List ByteArray) => ⟨[(1, .p (.list nl (l.map pS))), (3, .ptr 0 0), (7, .buf 1), (12, .p (.list nc (ch.map pI))), (13, .p (pI ch.length)), (14, .p (pI c))], [some (.cells [.p (pI p.n), .p (.list p.nl (p.gs.map Grp.pv))]), some (AO.buf 9 nb (x.map pS))]⟩) (fun (⟨c, nb, x⟩ : Nat × Bool × List ByteArray) => c ≤ ch.length ∧ x = pickL' l (ch.take c)) (fun (⟨c, nb, x⟩ : Nat × Bool × List ByteArray) => ch.length - c) (0, true, []) ?_ ?_ ?_; (refine SubA.auto1 (9, 7) rfl rfl rfl rfl rfl ?_ ?_ <;> repeat' (first | exact trivial | refine And.intro ?_ ?_ | with_reducible rfl | (refine pIEq ?_; (first | omega | (simp only [lenS] at *; omega) | grind)) | (refine bufMap ?_) | (refine bufNil ?_) | (refine bufEq ?_) | rfl))
  · exact ⟨Nat.zero_le _, rfl⟩
  rintro ⟨c, nb, x⟩ ⟨hc, hx⟩
  have hxl : x.length = c := by rw [hx]; simp [pickL']; omega
  rcases Nat.lt_or_ge c ch.length with hlt | hge
  · obtain ⟨i, hi⟩ : ∃ i, ch[c] = i := ⟨_, rfl⟩
    have hi1 : ch[((c : Nat) : Int).toNat]? = some i := by rw [Int.toNat_natCast, List.getElem?_eq_getElem hlt, hi]
    have hir := h i (by rw [← hi]; exact List.getElem_mem _)
    obtain ⟨f, hf⟩ : ∃ f, l[i.toNat]? = some f := ⟨_, List.getElem?_eq_getElem (by omega)⟩
    have hnx : x ++ [f] = pickL' l (ch.take (c + 1)) := by
      rw [List.take_succ_eq_append_getElem hlt, hi, pickL', List.map_append, hx, pickL']
      show _ ++ [f] = _ ++ [l.getD i.toNat _]
      rw [List.getD_eq_getElem?_getD, hf]; rfl
    (conv => whnf); repeat' ((first | (apply IdxA.at_ (f := pI) i (Int.natCast_nonneg c) hi1) | (apply IdxA.at_ (f := pS) f hir.1 hf) | apply CondA.plain | refine' go_pgM | (apply DrawA.quiet (by kernel_rfl) (by kernel_rfl); (conv => whnf); fail_if_success (show False))) <;> (conv => whnf))
    (refine' ⟨(c + 1, false, x ++ [f]), _, _, _⟩; rotate_right; (refine SubA.auto rfl rfl rfl rfl ?_ ?_ <;> repeat' (first | exact trivial | refine And.intro ?_ ?_ | with_reducible rfl | (refine pIEq ?_; (first | omega | (simp only [lenS] at *; omega) | grind)) | (refine bufMap ?_) | (refine bufNil ?_) | (refine bufEq ?_) | rfl)); rotate_right; (first | omega | (simp only []; omega) | (simp; omega) | (first | omega | (simp only [lenS] at *; omega) | grind)))
    exact ⟨by omega, hnx⟩
  · rw [List.take_of_length_le hge] at hx
    subst hx
    have hR2 := pick_right hR h hl
    have ha := fun nb2 => rAssign_call p nb2 true (pickL' l ch) []
    rw [asg_nil hR2, pick_opts p l h] at ha
    unfold satI
    (conv => whnf); repeat' ((first | apply CondA.plain | refine' go_pgM | (apply DrawA.quiet (by kernel_rfl) (by kernel_rfl); (conv => whnf); fail_if_success (show False))) <;> (conv => whnf))
    cases hS : srch p.gs (optsI (optsL p l) ch) [] with
    | none =>
      rw [hS] at ha
      refine CallA.loc [] [1] rfl rfl ((ha _).mono ?_)
      rintro _ _ ⟨⟨n1, rfl⟩, rfl⟩
      (conv => whnf); repeat' ((first | apply CondA.plain | refine' go_pgM | (apply DrawA.quiet (by kernel_rfl) (by kernel_rfl); (conv => whnf); fail_if_success (show False))) <;> (conv => whnf))
      (refine RetK.p ?_ <;> repeat' (first | exact trivial | refine And.intro ?_ ?_ | with_reducible rfl | (refine pIEq ?_; (first | omega | (simp only [lenS] at *; omega) | grind)) | (refine bufMap ?_) | (refine bufNil ?_) | (refine bufEq ?_) | rfl); all_goals try first | refine pBEq ?_ | refine pIEq ?_)
    | some y =>
      rw [hS] at ha
      refine CallA.loc [] [1] rfl rfl ((ha _).mono ?_)
      rintro _ _ ⟨⟨n1, rfl⟩, rfl⟩
      (conv => whnf); repeat' ((first | apply CondA.plain | refine' go_pgM | (apply DrawA.quiet (by kernel_rfl) (by kernel_rfl); (conv => whnf); fail_if_success (show False))) <;> (conv => whnf))
      (refine RetK.p ?_ <;> repeat' (first | exact trivial | refine And.intro ?_ ?_ | with_reducible rfl | (refine pIEq ?_; (first | omega | (simp only [lenS] at *; omega) | grind)) | (refine bufMap ?_) | (refine bufNil ?_) | (refine bufEq ?_) | rfl); all_goals try first | refine pBEq ?_ | refine pIEq ?_)
end Go.Proofs.Ytnogpkaehiapfaa
