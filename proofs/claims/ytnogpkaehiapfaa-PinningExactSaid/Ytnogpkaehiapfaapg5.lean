/- Pinning: first, open, Assign, Meets. -/
import Derived.Test.Ytnogpkaehiapfaapg4
namespace Go.Proofs.Ytnogpkaehiapfaa
set_option linter.unusedSimpArgs false
set_option linter.unusedVariables false
set_option linter.unnecessarySimpa false
open Go.Abs
set_option maxRecDepth 100000
/-- Kept for later: a goal of a walk's step. -/
theorem park_pg5 {P : Prop} (x : P) (_ : x = x) : P := x
/-- One step of a walk. -/
theorem go_pg5 {P : Prop} (h : P := by
  (first | ((first | apply LenA.map | apply NilA.map | apply NilA.mk); intro _) | ((first | apply NW.as | apply ValA.as); with_reducible assumption) | ((first | apply NW.i64 | apply NW.u32 | apply NW.u64 | apply NW.u8 | apply InA.nat | apply InA.map | apply AppA.snoc (f := pI) (a := _) rfl | apply AppA.one (f := pI) (a := _) rfl | apply AppA.snoc (f := pB) (a := _) rfl | apply AppA.one (f := pB) (a := _) rfl | apply AppA.snoc (f := fI) (a := _) rfl | apply AppA.one (f := fI) (a := _) rfl | apply AppA.map | apply AppA.nil | apply CutA.lo | apply CutA.hi); (first | omega | (simp only [lenS] at *; omega) | grind)) | ((first | (apply RemA.as; assumption) | apply RemA.self); (first | omega | (simp only [lenS] at *; omega) | grind)) | (apply ValA.as; assumption) | apply ValA.self | (apply NW.as; assumption) | (apply SzA.map; (intro _; rfl)) | with_reducible apply br_pt | with_reducible apply br_pf | with_reducible apply br_mt | with_reducible apply br_mf | apply Both.mk | ((first | apply br_T | apply br_F | apply br_mT | apply br_mF); assumption) | ((first | apply br_lss | apply br_leq | apply br_gtr | apply br_geq | apply br_dec | apply br_beq | apply br_bne | apply br_beqB | apply br_bneB | apply br_not | apply br_m | apply br_intro) <;> intro h0 <;> first | (exfalso; first | omega | exact tf h0 (by assumption) | exact tf (by assumption) h0 | exact h0 (by assumption) | exact h0 rfl | exact of_decide_eq_false h0 rfl) | skip) | refine ArrA.mk _ rfl rfl ?_ | (apply IdxA.lit; omega; exact rfl) | ((first | apply IdxA.of_nat | (apply IdxA.of_map; (first | omega | (simp only [lenS] at *; omega) | grind))); rotate_left; (first | omega | (simp only [lenS] at *; omega) | grind)) | apply AppC.own | apply CutO.part | apply IsL.set (f := pI) (a := _) rfl | apply IsL.rep (f := pI) (a := _) rfl | apply IsL.set (f := pB) (a := _) rfl | apply IsL.rep (f := pB) (a := _) rfl | apply IsL.set (f := fI) (a := _) rfl | apply IsL.rep (f := fI) (a := _) rfl | apply IsL.lit (f := pI) [] rfl | apply IsL.lit (f := pI) [_] rfl | apply IsL.lit (f := pB) [] rfl | apply IsL.lit (f := pB) [_] rfl | apply IsL.lit (f := fI) [] rfl | apply IsL.lit (f := fI) [_] rfl | (apply And.intro; (first | with_reducible rfl | (show (_ : AV) = _; rfl) | (first | omega | (simp only [lenS] at *; omega) | grind)))) <;> (solve_by_elim (newGoals := .nonDependentOnly) (symm := false) (exfalso := false) (transparency := .reducible) only [rfl, park_pg5])) : P := h
theorem first_call {p : Pin} (hP : VP p) (on mn gn cn : Bool) (os : List (Bool × List Int)) (given ch : List Int) (hg : ∀ g ∈ given, 0 ≤ g ∧ g < p.gs.length)
    (hch : ∀ c ∈ ch, 0 ≤ c ∧ c < os.length) (hos : ∀ x ∈ os, ∀ g ∈ x.2, 0 ≤ g ∧ g < p.gs.length) (hcl : ch.length ≤ 10) :
    ACall Try.prog 44 [.p (probV on os mn (masksG p.gs) gn given (takenN p.gs given)), .p (.list cn (ch.map pI))] [] fun r H =>
      (∃ n, r = .tup [.p (.list n (((srch p.gs (optsC os ch) given).getD []).map pI)), .p (pB (srch p.gs (optsC os ch) given).isSome)]) ∧ H = [] := by
  refine acall_enter Try.func44 rfl rfl tabOK rfl ?_
  have hs := search_call hP on mn gn cn os given (takenN p.gs given) ch given hch hos hcl ch.length false [] (takenN p.gs given) (by simp) (by simpa using hg) (by simp)
  rw [List.append_nil, List.length_nil, List.drop_zero] at hs
  obtain ⟨S, hS⟩ : ∃ S, srch p.gs (optsC os ch) given = S := ⟨_, rfl⟩
  rw [hS] at hs
  rw [hS]
  (conv => whnf); repeat' ((first | apply CondA.plain | refine' go_pg5 | (apply DrawA.quiet (by kernel_rfl) (by kernel_rfl); (conv => whnf); fail_if_success (show False))) <;> (conv => whnf))
  refine CallA.loc [3, 1, 0, 4, 2] [] rfl rfl (hs.mono ?_)
  rintro _ _ ⟨rfl, b, nb, rfl⟩
  rw [List.nil_append]
  cases b
  · (conv => whnf); repeat' ((first | apply CondA.plain | refine' go_pg5 | (apply DrawA.quiet (by kernel_rfl) (by kernel_rfl); (conv => whnf); fail_if_success (show False))) <;> (conv => whnf))
    (refine RetK.frz _ _ _ [2] ?_; refine' RetK.auto (.tup [.p (.list nb ((S.getD []).map pI)), .p (pB S.isSome)]) ([]) rfl rfl rfl rfl _ _ _ <;> repeat' (first | exact trivial | refine And.intro ?_ ?_ | with_reducible rfl | (refine pIEq ?_; (first | omega | (simp only [lenS] at *; omega) | grind)) | (refine bufMap ?_) | (refine bufNil ?_) | (refine bufEq ?_) | rfl))
    exact ⟨nb, rfl⟩
  · (conv => whnf); repeat' ((first | apply CondA.plain | refine' go_pg5 | (apply DrawA.quiet (by kernel_rfl) (by kernel_rfl); (conv => whnf); fail_if_success (show False))) <;> (conv => whnf))
    (refine RetK.frz _ _ _ [5] ?_; refine' RetK.auto (.tup [.p (.list nb ((S.getD []).map pI)), .p (pB S.isSome)]) ([]) rfl rfl rfl rfl _ _ _ <;> repeat' (first | exact trivial | refine And.intro ?_ ?_ | with_reducible rfl | (refine pIEq ?_; (first | omega | (simp only [lenS] at *; omega) | grind)) | (refine bufMap ?_) | (refine bufNil ?_) | (refine bufEq ?_) | rfl))
    exact ⟨nb, rfl⟩
/-- Numbers from one on. -/
def upF (a b : Nat) : List Int := (List.range (b - a)).map fun (i : Nat) => ((a + i : Nat) : Int)
theorem open_call (on mn gn : Bool) (os : List (Bool × List Int)) (ms : List Nat) (given : List Int) (t : Nat) (hl : os.length ≤ 1000) (hg : given.length ≤ 1000) :
    Pure Try.prog 45 [.p (probV on os mn ms gn given t)] (R1 pI (upF given.length os.length)) := by
  refine acall_enter Try.func45 rfl rfl tabOK rfl ?_
  (conv => whnf); repeat' ((first | apply CondA.plain | refine' go_pg5 | (apply DrawA.quiet (by kernel_rfl) (by kernel_rfl); (conv => whnf); fail_if_success (show False))) <;> (conv => whnf))
  refine loop_rule (fun (⟨k, nb, o⟩ : Nat × Bool × List Int) => ⟨[(1, .ptr 0 0), (3, .buf 1), (4, .p (pI ((given.length + k : Nat) : Int)))], [some (.cells [.p (.list on (os.map fI)), .p (.list mn (ms.map pU)), .p (.list gn (given.map pI)), .p (pU t)]), some (AO.buf 3 nb (o.map pI))]⟩) (fun (⟨k, nb, o⟩ : Nat × Bool × List Int) => k ≤ os.length - given.length ∧ o = (List.range k).map (fun (i : Nat) => ((given.length + i : Nat) : Int))) (fun (⟨k, nb, o⟩ : Nat × Bool × List Int) => os.length - given.length - k) (0, true, []) ?_ ?_ ?_; (refine SubA.auto1 (3, 3) rfl rfl rfl rfl rfl ?_ ?_ <;> repeat' (first | exact trivial | refine And.intro ?_ ?_ | with_reducible rfl | (refine pIEq ?_; (first | omega | (simp only [lenS] at *; omega) | grind)) | (refine bufMap ?_) | (refine bufNil ?_) | (refine bufEq ?_) | rfl))
  · exact ⟨Nat.zero_le _, rfl⟩
  rintro ⟨k, nb, o⟩ ⟨hk, ho⟩
  have hol : o.length = k := by rw [ho]; simp
  rcases Nat.lt_or_ge (given.length + k) os.length with hlt | hge
  · (conv => whnf); repeat' ((first | apply CondA.plain | refine' go_pg5 | (apply DrawA.quiet (by kernel_rfl) (by kernel_rfl); (conv => whnf); fail_if_success (show False))) <;> (conv => whnf))
    (refine' ⟨(k + 1, false, o ++ [((given.length + k : Nat) : Int)]), _, _, _⟩; rotate_right; (refine SubA.auto rfl rfl rfl rfl ?_ ?_ <;> repeat' (first | exact trivial | refine And.intro ?_ ?_ | with_reducible rfl | (refine pIEq ?_; (first | omega | (simp only [lenS] at *; omega) | grind)) | (refine bufMap ?_) | (refine bufNil ?_) | (refine bufEq ?_) | rfl)); rotate_right; (first | omega | (simp only []; omega) | (simp; omega) | (first | omega | (simp only [lenS] at *; omega) | grind)))
    exact ⟨by omega, by rw [ho, List.range_succ, List.map_append]; rfl⟩
  · (conv => whnf); repeat' ((first | apply CondA.plain | refine' go_pg5 | (apply DrawA.quiet (by kernel_rfl) (by kernel_rfl); (conv => whnf); fail_if_success (show False))) <;> (conv => whnf))
    have e : o = upF given.length os.length := by rw [ho, upF, show os.length - given.length = k by omega]
    (first | (apply RetK.r1; exact rfl; exact (fun _ => flat_ofB rfl)) | apply RetK.r1n | (apply RetK.r2; exact rfl; exact (fun _ => flat_ofB rfl)) | apply RetK.r2n | (apply RetK.r3; exact rfl; exact (fun _ => flat_ofB rfl)) | apply RetK.r3n) <;> exact e
theorem Grow_call (n : Nat) (hn : n ≤ 1000000) : ACall Try.prog 72 [.p (.list true []), .p (pI n)] [] fun r H => n = 0 ∧ r = .p (.list true []) ∧ H = [] ∨ 0 < n ∧ r = .buf 0 ∧ H = [some (AO.buf 3 false [])] := by
  refine acall_enter Try.func72 rfl rfl tabOK rfl ?_
  rcases Nat.eq_zero_or_pos n with hz | hz
  · subst hz
    (conv => whnf); repeat' ((first | ((refine LenA.mk 0 rfl ?_; intro _)) | apply CondA.plain | refine' go_pg5 | (apply DrawA.quiet (by kernel_rfl) (by kernel_rfl); (conv => whnf); fail_if_success (show False))) <;> (conv => whnf))
    (refine' RetK.auto (.p (.list true [])) ([]) rfl rfl rfl rfl _ _ _ <;> repeat' (first | exact trivial | refine And.intro ?_ ?_ | with_reducible rfl | (refine pIEq ?_; (first | omega | (simp only [lenS] at *; omega) | grind)) | (refine bufMap ?_) | (refine bufNil ?_) | (refine bufEq ?_) | rfl))
    exact .inl ⟨rfl, rfl, rfl⟩
  · (conv => whnf); repeat' ((first | ((refine LenA.mk 0 rfl ?_; intro _)) | (refine CutO.own ?_) | (refine SzA.mk (fun x hx => by cases hx) ?_) | (refine CutA.mk [] (by decide) rfl ?_) | apply CondA.plain | refine' go_pg5 | (apply DrawA.quiet (by kernel_rfl) (by kernel_rfl); (conv => whnf); fail_if_success (show False))) <;> (conv => whnf))
    (refine' RetK.auto (.buf 0) ([some (AO.buf 3 false [])]) rfl rfl rfl rfl _ _ _ <;> repeat' (first | exact trivial | refine And.intro ?_ ?_ | with_reducible rfl | (refine pIEq ?_; (first | omega | (simp only [lenS] at *; omega) | grind)) | (refine bufMap ?_) | (refine bufNil ?_) | (refine bufEq ?_) | rfl))
    exact .inr ⟨hz, rfl, rfl⟩
def catL (ls : List (Bool × List Int)) : List Int := ls.flatMap (·.2)
theorem catL_take {ls : List (Bool × List Int)} {c : Nat} (h : c < ls.length) : catL (ls.take (c + 1)) = catL (ls.take c) ++ ls[c].2 := by
  unfold catL
  rw [List.take_succ_eq_append_getElem h, List.flatMap_append]
  simp only [List.flatMap_cons, List.flatMap_nil, List.append_nil]
theorem catL_le {ls : List (Bool × List Int)} (c : Nat) : (catL (ls.take c)).length ≤ (catL ls).length := by
  have : catL ls = catL (ls.take c) ++ catL (ls.drop c) := by
    unfold catL
    rw [← List.flatMap_append, List.take_append_drop]
  rw [this, List.length_append]; omega
theorem Concat_call (nb : Bool) (ls : List (Bool × List Int)) (h : (catL ls).length ≤ 100000) : Pure Try.prog 46 [.p (.list nb (ls.map fI))] (R1 pI (catL ls)) := by
  refine acall_enter Try.func46 rfl rfl tabOK rfl ?_
  (conv => whnf); repeat' ((first | apply CondA.plain | refine' go_pg5 | (apply DrawA.quiet (by kernel_rfl) (by kernel_rfl); (conv => whnf); fail_if_success (show False))) <;> (conv => whnf))
  refine loop_rule (fun (c : Nat) => ⟨[(0, .p (.list nb (ls.map fI))), (3, .p (pI (catL (ls.take c)).length)), (9, .p (.list nb (ls.map fI))), (10, .p (pI ls.length)), (11, .p (pI c))], []⟩) (fun (c : Nat) => c ≤ ls.length) (fun (c : Nat) => ls.length - c) 0 ?_ ?_ ?_; (refine SubA.auto rfl rfl rfl rfl ?_ ?_ <;> repeat' (first | exact trivial | refine And.intro ?_ ?_ | with_reducible rfl | (refine pIEq ?_; (first | omega | (simp only [lenS] at *; omega) | grind)) | (refine bufMap ?_) | (refine bufNil ?_) | (refine bufEq ?_) | rfl))
  · exact Nat.zero_le _
  rintro c hc
  rcases Nat.lt_or_ge c ls.length with hlt | hge
  · obtain ⟨⟨b, x⟩, hx⟩ : ∃ x, ls[c] = x := ⟨_, rfl⟩
    have hx1 : ls[((c : Nat) : Int).toNat]? = some (b, x) := by rw [Int.toNat_natCast, List.getElem?_eq_getElem hlt, hx]
    have hs := catL_take hlt
    rw [hx] at hs
    have hs : (catL (ls.take (c + 1))).length = (catL (ls.take c)).length + x.length := by rw [hs, List.length_append]
    have hle := catL_le (ls := ls) (c + 1)
    (conv => whnf); repeat' ((first | (apply IdxA.at_ (f := fI) (b, x) (Int.natCast_nonneg c) hx1) | apply CondA.plain | refine' go_pg5 | (apply DrawA.quiet (by kernel_rfl) (by kernel_rfl); (conv => whnf); fail_if_success (show False))) <;> (conv => whnf))
    (refine' ⟨c + 1, _, _, _⟩; rotate_right; (refine SubA.auto rfl rfl rfl rfl ?_ ?_ <;> repeat' (first | exact trivial | refine And.intro ?_ ?_ | with_reducible rfl | (refine pIEq ?_; (first | omega | (simp only [lenS] at *; omega) | grind)) | (refine bufMap ?_) | (refine bufNil ?_) | (refine bufEq ?_) | rfl)); rotate_right; (first | omega | (simp only []; omega) | (simp; omega) | (first | omega | (simp only [lenS] at *; omega) | grind)))
    exact hlt
  obtain rfl : c = ls.length := by omega
  rw [List.take_length]
  obtain ⟨N, hN⟩ : ∃ N, (catL ls).length = N := ⟨_, rfl⟩
  rw [hN]
  rw [hN] at h
  (conv => whnf); repeat' ((first | apply CondA.plain | refine' go_pg5 | (apply DrawA.quiet (by kernel_rfl) (by kernel_rfl); (conv => whnf); fail_if_success (show False))) <;> (conv => whnf))
  refine CallA.loc [] [] rfl rfl ((Grow_call N (by omega)).mono ?_)
  rintro _ _ (⟨hz, rfl, rfl⟩ | ⟨hz, rfl, rfl⟩)
  · (conv => whnf); repeat' ((first | apply CondA.plain | refine' go_pg5 | (apply DrawA.quiet (by kernel_rfl) (by kernel_rfl); (conv => whnf); fail_if_success (show False))) <;> (conv => whnf))
    refine loop_rule (fun (⟨c, nw, o⟩ : Nat × Bool × List Int) => ⟨[(6, .buf 0), (25, .p (.list nb (ls.map fI))), (26, .p (pI ls.length)), (27, .p (pI c))], [some (AO.buf 3 nw (o.map pI))]⟩) (fun (⟨c, nw, o⟩ : Nat × Bool × List Int) => c ≤ ls.length ∧ o = catL (ls.take c)) (fun (⟨c, nw, o⟩ : Nat × Bool × List Int) => ls.length - c) (0, true, []) ?_ ?_ ?_; (refine SubA.auto1 (3, 6) rfl rfl rfl rfl rfl ?_ ?_ <;> repeat' (first | exact trivial | refine And.intro ?_ ?_ | with_reducible rfl | (refine pIEq ?_; (first | omega | (simp only [lenS] at *; omega) | grind)) | (refine bufMap ?_) | (refine bufNil ?_) | (refine bufEq ?_) | rfl))
    · exact ⟨Nat.zero_le _, rfl⟩
    rintro ⟨c, nw, o⟩ ⟨hc2, ho⟩
    have hle := catL_le (ls := ls) c
    rcases Nat.lt_or_ge c ls.length with hlt | hge2
    · obtain ⟨⟨b, x⟩, hx⟩ : ∃ x, ls[c] = x := ⟨_, rfl⟩
      have hx1 : ls[((c : Nat) : Int).toNat]? = some (b, x) := by rw [Int.toNat_natCast, List.getElem?_eq_getElem hlt, hx]
      have hs := catL_take hlt
      rw [hx, ← ho] at hs
      have hle2 := catL_le (ls := ls) (c + 1)
      rw [hs, List.length_append] at hle2
      (conv => whnf); repeat' ((first | (apply IdxA.at_ (f := fI) (b, x) (Int.natCast_nonneg c) hx1) | apply CondA.plain | refine' go_pg5 | (apply DrawA.quiet (by kernel_rfl) (by kernel_rfl); (conv => whnf); fail_if_success (show False))) <;> (conv => whnf))
      (refine' ⟨(c + 1, _, o ++ x), _, _, _⟩; rotate_right; (refine SubA.auto rfl rfl rfl rfl ?_ ?_ <;> repeat' (first | exact trivial | refine And.intro ?_ ?_ | with_reducible rfl | (refine pIEq ?_; (first | omega | (simp only [lenS] at *; omega) | grind)) | (refine bufMap ?_) | (refine bufNil ?_) | (refine bufEq ?_) | rfl)); rotate_right; (first | omega | (simp only []; omega) | (simp; omega) | (first | omega | (simp only [lenS] at *; omega) | grind)))
      exact ⟨by omega, hs.symm⟩
    · rw [List.take_of_length_le hge2] at ho
      (conv => whnf); repeat' ((first | apply CondA.plain | refine' go_pg5 | (apply DrawA.quiet (by kernel_rfl) (by kernel_rfl); (conv => whnf); fail_if_success (show False))) <;> (conv => whnf))
      (first | (apply RetK.r1; exact rfl; exact (fun _ => flat_ofB rfl)) | apply RetK.r1n | (apply RetK.r2; exact rfl; exact (fun _ => flat_ofB rfl)) | apply RetK.r2n | (apply RetK.r3; exact rfl; exact (fun _ => flat_ofB rfl)) | apply RetK.r3n) <;> exact ho
  · (conv => whnf); repeat' ((first | apply CondA.plain | refine' go_pg5 | (apply DrawA.quiet (by kernel_rfl) (by kernel_rfl); (conv => whnf); fail_if_success (show False))) <;> (conv => whnf))
    refine loop_rule (fun (⟨c, nw, o⟩ : Nat × Bool × List Int) => ⟨[(6, .buf 0), (25, .p (.list nb (ls.map fI))), (26, .p (pI ls.length)), (27, .p (pI c))], [some (AO.buf 3 nw (o.map pI))]⟩) (fun (⟨c, nw, o⟩ : Nat × Bool × List Int) => c ≤ ls.length ∧ o = catL (ls.take c)) (fun (⟨c, nw, o⟩ : Nat × Bool × List Int) => ls.length - c) (0, false, []) ?_ ?_ ?_; (refine SubA.auto rfl rfl rfl rfl ?_ ?_ <;> repeat' (first | exact trivial | refine And.intro ?_ ?_ | with_reducible rfl | (refine pIEq ?_; (first | omega | (simp only [lenS] at *; omega) | grind)) | (refine bufMap ?_) | (refine bufNil ?_) | (refine bufEq ?_) | rfl))
    · exact ⟨Nat.zero_le _, rfl⟩
    rintro ⟨c, nw, o⟩ ⟨hc2, ho⟩
    have hle := catL_le (ls := ls) c
    rcases Nat.lt_or_ge c ls.length with hlt | hge2
    · obtain ⟨⟨b, x⟩, hx⟩ : ∃ x, ls[c] = x := ⟨_, rfl⟩
      have hx1 : ls[((c : Nat) : Int).toNat]? = some (b, x) := by rw [Int.toNat_natCast, List.getElem?_eq_getElem hlt, hx]
      have hs := catL_take hlt
      rw [hx, ← ho] at hs
      have hle2 := catL_le (ls := ls) (c + 1)
      rw [hs, List.length_append] at hle2
      (conv => whnf); repeat' ((first | (apply IdxA.at_ (f := fI) (b, x) (Int.natCast_nonneg c) hx1) | apply CondA.plain | refine' go_pg5 | (apply DrawA.quiet (by kernel_rfl) (by kernel_rfl); (conv => whnf); fail_if_success (show False))) <;> (conv => whnf))
      (refine' ⟨(c + 1, _, o ++ x), _, _, _⟩; rotate_right; (refine SubA.auto rfl rfl rfl rfl ?_ ?_ <;> repeat' (first | exact trivial | refine And.intro ?_ ?_ | with_reducible rfl | (refine pIEq ?_; (first | omega | (simp only [lenS] at *; omega) | grind)) | (refine bufMap ?_) | (refine bufNil ?_) | (refine bufEq ?_) | rfl)); rotate_right; (first | omega | (simp only []; omega) | (simp; omega) | (first | omega | (simp only [lenS] at *; omega) | grind)))
      exact ⟨by omega, hs.symm⟩
    · rw [List.take_of_length_le hge2] at ho
      (conv => whnf); repeat' ((first | apply CondA.plain | refine' go_pg5 | (apply DrawA.quiet (by kernel_rfl) (by kernel_rfl); (conv => whnf); fail_if_success (show False))) <;> (conv => whnf))
      (first | (apply RetK.r1; exact rfl; exact (fun _ => flat_ofB rfl)) | apply RetK.r1n | (apply RetK.r2; exact rfl; exact (fun _ => flat_ofB rfl)) | apply RetK.r2n | (apply RetK.r3; exact rfl; exact (fun _ => flat_ofB rfl)) | apply RetK.r3n) <;> exact ho
theorem Meets_call (p : Pin) (nl gn : Bool) (l : List ByteArray) (given : List Int) : ACall Try.prog 19 [.p p.pv, .p (.list nl (l.map pS)), .p (.list gn (given.map pI))] [] fun r H => r = .p (pB (decide (badF p l given = 0 ∧ given.length = l.length))) ∧ H = [] := by
  refine acall_enter Try.func19 rfl rfl tabOK rfl ?_
  (conv => whnf); repeat' ((first | apply CondA.plain | refine' go_pg5 | (apply DrawA.quiet (by kernel_rfl) (by kernel_rfl); (conv => whnf); fail_if_success (show False))) <;> (conv => whnf))
  refine CallA.loc [] [] rfl rfl ((build_call p nl gn l given).mono ?_)
  rintro _ _ ⟨rfl, ⟨he, rfl⟩ | ⟨he, on, os, mn, hos, rfl⟩⟩
  · obtain ⟨E, hE⟩ : ∃ E, badF p l given = E := ⟨_, rfl⟩
    rw [hE] at he
    have e : decide (badF p l given = 0 ∧ given.length = l.length) = false := decide_eq_false (by rw [hE]; exact fun h => he h.1)
    rw [e, hE]
    (conv => whnf); repeat' ((first | apply CondA.plain | refine' go_pg5 | (apply DrawA.quiet (by kernel_rfl) (by kernel_rfl); (conv => whnf); fail_if_success (show False))) <;> (conv => whnf))
    (refine RetK.p ?_ <;> repeat' (first | exact trivial | refine And.intro ?_ ?_ | with_reducible rfl | (refine pIEq ?_; (first | omega | (simp only [lenS] at *; omega) | grind)) | (refine bufMap ?_) | (refine bufNil ?_) | (refine bufEq ?_) | rfl); all_goals try first | refine pBEq ?_ | refine pIEq ?_)
  · rcases Decidable.em (given.length = l.length) with h | h
    · rw [decide_eq_true ⟨he, h⟩]
      (conv => whnf); repeat' ((first | apply CondA.plain | refine' go_pg5 | (apply DrawA.quiet (by kernel_rfl) (by kernel_rfl); (conv => whnf); fail_if_success (show False))) <;> (conv => whnf))
      (refine RetK.p ?_ <;> repeat' (first | exact trivial | refine And.intro ?_ ?_ | with_reducible rfl | (refine pIEq ?_; (first | omega | (simp only [lenS] at *; omega) | grind)) | (refine bufMap ?_) | (refine bufNil ?_) | (refine bufEq ?_) | rfl); all_goals try first | refine pBEq ?_ | refine pIEq ?_)
      exact decide_eq_true (by omega)
    · rw [decide_eq_false fun h2 => h h2.2]
      (conv => whnf); repeat' ((first | apply CondA.plain | refine' go_pg5 | (apply DrawA.quiet (by kernel_rfl) (by kernel_rfl); (conv => whnf); fail_if_success (show False))) <;> (conv => whnf))
      (refine RetK.p ?_ <;> repeat' (first | exact trivial | refine And.intro ?_ ?_ | with_reducible rfl | (refine pIEq ?_; (first | omega | (simp only [lenS] at *; omega) | grind)) | (refine bufMap ?_) | (refine bufNil ?_) | (refine bufEq ?_) | rfl); all_goals try first | refine pBEq ?_ | refine pIEq ?_)
      exact decide_eq_false (by omega)
end Go.Proofs.Ytnogpkaehiapfaa
