/- Pinning: Core. -/
import Derived.Test.Ytnogpkaehiapfaapg6
namespace Go.Proofs.Ytnogpkaehiapfaa
set_option linter.unusedSimpArgs false
set_option linter.unusedVariables false
set_option linter.unnecessarySimpa false
open Go.Abs
set_option maxRecDepth 100000
def keepC (d x : Int) : Bool := decide (x ≠ d)
/-- Behind so many elements: those that stay lie ahead. -/
structure KeptP (p : Int → Bool) (xs zs : List Int) (i j : Nat) : Prop where
  len : zs.length = xs.length
  ij : i < j
  head : zs.take i = (xs.take j).filter p
  tail : zs.drop j = xs.drop j
theorem KeptP.at_ {p : Int → Bool} {xs zs : List Int} {i j : Nat} (h : KeptP p xs zs i j) (hj : j < xs.length) : zs[j]'(by rw [h.len]; exact hj) = xs[j] := by
  have := h.tail
  rw [List.drop_eq_getElem_cons (by rw [h.len]; exact hj), List.drop_eq_getElem_cons hj] at this
  exact (List.cons.inj this).1
theorem KeptP.drop_ {p : Int → Bool} {xs zs : List Int} {i j : Nat} (h : KeptP p xs zs i j) (hj : j < xs.length) (hk : p xs[j] = false) : KeptP p xs zs i (j + 1) := by
  refine ⟨h.len, by have := h.ij; omega, ?_, ?_⟩
  · rw [List.take_succ_eq_append_getElem hj, List.filter_append, h.head]; simp [hk]
  · have := congrArg (List.drop 1) h.tail
    rwa [List.drop_drop, List.drop_drop] at this
theorem KeptP.keep {p : Int → Bool} {xs zs : List Int} {i j : Nat} (h : KeptP p xs zs i j) (hj : j < xs.length) (hk : p xs[j] = true) : KeptP p xs (zs.set i xs[j]) (i + 1) (j + 1) := by
  have hij := h.ij
  have hil : i < zs.length := by rw [h.len]; omega
  refine ⟨by rw [List.length_set, h.len], by omega, ?_, ?_⟩
  · rw [List.take_succ_eq_append_getElem hj, List.filter_append, ← h.head, List.take_succ_eq_append_getElem (by rw [List.length_set]; exact hil), List.take_set_of_le (Nat.le_refl _)]
    simp [hk]
  · have := congrArg (List.drop 1) h.tail
    rw [List.drop_drop, List.drop_drop] at this
    rw [List.drop_set_of_lt (by omega), this]
theorem KeptP.first {p : Int → Bool} {xs : List Int} {c : Nat} (hc : c < xs.length) (h1 : p xs[c] = false) (h2 : ∀ (k : Nat) (h : k < xs.length), k < c → p xs[k] = true) : KeptP p xs xs c (c + 1) := by
  refine ⟨rfl, by omega, ?_, rfl⟩
  rw [List.take_succ_eq_append_getElem hc, List.filter_append, List.filter_eq_self.2]
  · simp [h1]
  intro x hx
  obtain ⟨k, hk, rfl⟩ := List.getElem_of_mem hx
  rw [List.length_take] at hk
  rw [List.getElem_take]
  exact h2 k (by omega) (by omega)
set_option maxHeartbeats 2000000
/-- Kept for later: a goal of a walk's step. -/
theorem park_pgA {P : Prop} (x : P) (_ : x = x) : P := x
/-- One step of a walk. -/
theorem go_pgA {P : Prop} (h : P := by
  (first | ((first | apply LenA.map | apply NilA.map | apply NilA.mk); intro _) | ((first | apply NW.as | apply ValA.as); with_reducible assumption) | ((first | apply NW.i64 | apply NW.u32 | apply NW.u64 | apply NW.u8 | apply InA.nat | apply InA.map | apply AppA.snoc (f := pI) (a := _) rfl | apply AppA.one (f := pI) (a := _) rfl | apply AppA.snoc (f := pB) (a := _) rfl | apply AppA.one (f := pB) (a := _) rfl | apply AppA.map | apply AppA.nil | apply CutA.lo | apply CutA.hi); (first | omega | (simp only [lenS] at *; omega) | grind)) | ((first | (apply RemA.as; assumption) | apply RemA.self); (first | omega | (simp only [lenS] at *; omega) | grind)) | (apply ValA.as; assumption) | apply ValA.self | (apply NW.as; assumption) | (apply SzA.map; (intro _; rfl)) | with_reducible apply br_pt | with_reducible apply br_pf | with_reducible apply br_mt | with_reducible apply br_mf | apply Both.mk | ((first | apply br_T | apply br_F | apply br_mT | apply br_mF); assumption) | ((first | apply br_lss | apply br_leq | apply br_gtr | apply br_geq | apply br_dec | apply br_beq | apply br_bne | apply br_beqB | apply br_bneB | apply br_not | apply br_m | apply br_intro) <;> intro h0 <;> first | (exfalso; first | omega | exact tf h0 (by assumption) | exact tf (by assumption) h0 | exact h0 (by assumption) | exact h0 rfl | exact of_decide_eq_false h0 rfl) | skip) | refine ArrA.mk _ rfl rfl ?_ | (apply IdxA.lit; omega; exact rfl) | ((first | apply IdxA.of_nat | (apply IdxA.of_map; (first | omega | (simp only [lenS] at *; omega) | grind))); rotate_left; (first | omega | (simp only [lenS] at *; omega) | grind)) | apply AppC.own | apply CutO.part | apply IsL.set (f := pI) (a := _) rfl | apply IsL.rep (f := pI) (a := _) rfl | apply IsL.set (f := pB) (a := _) rfl | apply IsL.rep (f := pB) (a := _) rfl | apply IsL.lit (f := pI) [] rfl | apply IsL.lit (f := pB) [] rfl | (apply And.intro; (first | with_reducible rfl | (show (_ : AV) = _; rfl) | (first | omega | (simp only [lenS] at *; omega) | grind)))) <;> (solve_by_elim (newGoals := .nonDependentOnly) (symm := false) (exfalso := false) (transparency := .reducible) only [rfl, park_pgA])) : P := h
theorem DelC1_call (d x : Int) : ACall Try.prog 52 [.p (pI x), .ptr 0 0] [some (.cells [.p (pI d)])] fun r H => r = .p (pB (!keepC d x)) ∧ H = [some (.cells [.p (pI d)])] := by
  refine acall_enter Try.func52 rfl rfl tabOK rfl ?_
  have e : (!keepC d x) = (x == d) := by
    unfold keepC
    rw [Bool.eq_iff_iff]; simp
  rw [e]
  (conv => whnf); repeat' ((first | apply CondA.plain | refine' go_pgA | (apply DrawA.quiet (by kernel_rfl) (by kernel_rfl); (conv => whnf); fail_if_success (show False))) <;> (conv => whnf))
  (refine' RetK.auto (.p (pB (x == d))) ([some (.cells [.p (pI d)])]) rfl rfl rfl rfl _ _ _ <;> repeat' (first | exact trivial | refine And.intro ?_ ?_ | with_reducible rfl | (refine pIEq ?_; (first | omega | (simp only [lenS] at *; omega) | grind)) | (refine bufMap ?_) | (refine bufNil ?_) | (refine bufEq ?_) | rfl))
theorem DelC_index (nl : Bool) (d : Int) (xs : List Int) : ACall Try.prog 73 [.buf 0, .clo (.func 52) [.ptr 1 0]] [some (AO.buf 3 nl (xs.map pI)), some (.cells [.p (pI d)])] fun r H => (∃ v : Int, r = .p (pI v) ∧ (v = -1 ∧ (∀ x ∈ xs, keepC d x = true) ∨ ∃ c : Nat, v = c ∧ ∃ h : c < xs.length, keepC d xs[c] = false ∧ ∀ (k : Nat) (h : k < xs.length), k < c → keepC d xs[k] = true)) ∧ H = [some (AO.buf 3 nl (xs.map pI)), some (.cells [.p (pI d)])] := by
  refine acall_enter Try.func73 rfl rfl tabOK rfl ?_
  (conv => whnf); repeat' ((first | apply CondA.plain | refine' go_pgA | (apply DrawA.quiet (by kernel_rfl) (by kernel_rfl); (conv => whnf); fail_if_success (show False))) <;> (conv => whnf))
  refine loop_rule (fun (c : Nat) => ⟨[(0, .buf 0), (1, .clo (.func 52) [.ptr 1 0]), (7, .p (pI xs.length)), (8, .p (pI c))], [some (AO.buf 3 nl (xs.map pI)), some (.cells [.p (pI d)])]⟩) (fun (c : Nat) => c ≤ xs.length ∧ ∀ (k : Nat) (h : k < xs.length), k < c → keepC d xs[k] = true) (fun (c : Nat) => xs.length - c) 0 ?_ ?_ ?_; (refine SubA.auto rfl rfl rfl rfl ?_ ?_ <;> repeat' (first | exact trivial | refine And.intro ?_ ?_ | with_reducible rfl | (refine pIEq ?_; (first | omega | (simp only [lenS] at *; omega) | grind)) | (refine bufMap ?_) | (refine bufNil ?_) | (refine bufEq ?_) | rfl))
  · exact ⟨by omega, fun k h h2 => by omega⟩
  rintro c ⟨hc, hok⟩
  rcases Nat.lt_or_ge c xs.length with hlt | hge
  · (conv => whnf); repeat' ((first | apply CondA.plain | refine' go_pgA | (apply DrawA.quiet (by kernel_rfl) (by kernel_rfl); (conv => whnf); fail_if_success (show False))) <;> (conv => whnf))
    refine CallA.loc [1] [] rfl rfl ((DelC1_call d xs[c]).mono ?_)
    rintro r H ⟨rfl, rfl⟩
    (conv => whnf); repeat' ((first | apply CondA.plain | refine' go_pgA | (apply DrawA.quiet (by kernel_rfl) (by kernel_rfl); (conv => whnf); fail_if_success (show False))) <;> (conv => whnf))
    · (refine' RetK.auto (.p (pI c)) ([some (AO.buf 3 nl (xs.map pI)), some (.cells [.p (pI d)])]) rfl rfl rfl rfl _ _ _ <;> repeat' (first | exact trivial | refine And.intro ?_ ?_ | with_reducible rfl | (refine pIEq ?_; (first | omega | (simp only [lenS] at *; omega) | grind)) | (refine bufMap ?_) | (refine bufNil ?_) | (refine bufEq ?_) | rfl))
      exact ⟨c, rfl, .inr ⟨c, rfl, hlt, by simpa using h0, hok⟩⟩
    · (refine' ⟨c + 1, _, _, _⟩; rotate_right; (refine SubA.auto rfl rfl rfl rfl ?_ ?_ <;> repeat' (first | exact trivial | refine And.intro ?_ ?_ | with_reducible rfl | (refine pIEq ?_; (first | omega | (simp only [lenS] at *; omega) | grind)) | (refine bufMap ?_) | (refine bufNil ?_) | (refine bufEq ?_) | rfl)); rotate_right; (first | omega | (simp only []; omega) | (simp; omega) | (first | omega | (simp only [lenS] at *; omega) | grind)))
      exact ⟨by omega, all_succ hok fun _ => by simpa using h0⟩
  · have hall : ∀ x ∈ xs, keepC d x = true := by
      intro x hx
      obtain ⟨k, hk, rfl⟩ := List.getElem_of_mem hx
      exact hok k hk (by omega)
    (conv => whnf); repeat' ((first | apply CondA.plain | refine' go_pgA | (apply DrawA.quiet (by kernel_rfl) (by kernel_rfl); (conv => whnf); fail_if_success (show False))) <;> (conv => whnf))
    (refine' RetK.auto (.p (pI (-1))) ([some (AO.buf 3 nl (xs.map pI)), some (.cells [.p (pI d)])]) rfl rfl rfl rfl _ _ _ <;> repeat' (first | exact trivial | refine And.intro ?_ ?_ | with_reducible rfl | (refine pIEq ?_; (first | omega | (simp only [lenS] at *; omega) | grind)) | (refine bufMap ?_) | (refine bufNil ?_) | (refine bufEq ?_) | rfl))
    exact ⟨-1, rfl, .inl ⟨rfl, hall⟩⟩
theorem DelC_call (nl : Bool) (d : Int) (xs : List Int) (hxl : xs.length ≤ 100000) : ACall Try.prog 50 [.buf 0, .clo (.func 52) [.ptr 1 0]] [some (AO.buf 3 nl (xs.map pI)), some (.cells [.p (pI d)])] fun r H => r = .p (.list nl ((xs.filter (keepC d)).map pI)) ∧ H = [none, some (.cells [.p (pI d)])] := by
  refine acall_enter Try.func50 rfl rfl tabOK rfl ?_
  (conv => whnf); repeat' ((first | apply CondA.plain | refine' go_pgA | (apply DrawA.quiet (by kernel_rfl) (by kernel_rfl); (conv => whnf); fail_if_success (show False))) <;> (conv => whnf))
  refine CallA.all ((DelC_index nl d xs).mono ?_)
  rintro _ _ ⟨⟨v, rfl, hv⟩, rfl⟩
  rcases hv with ⟨rfl, hall⟩ | ⟨c, rfl, hc, h1, h2⟩
  · have e : xs.filter (keepC d) = xs := List.filter_eq_self.2 hall
    rw [e]
    (conv => whnf); repeat' ((first | apply CondA.plain | refine' go_pgA | (apply DrawA.quiet (by kernel_rfl) (by kernel_rfl); (conv => whnf); fail_if_success (show False))) <;> (conv => whnf))
    (refine RetK.frz _ _ _ [0] ?_; refine' RetK.auto (.p (.list nl (xs.map pI))) ([none, some (.cells [.p (pI d)])]) rfl rfl rfl rfl _ _ _ <;> repeat' (first | exact trivial | refine And.intro ?_ ?_ | with_reducible rfl | (refine pIEq ?_; (first | omega | (simp only [lenS] at *; omega) | grind)) | (refine bufMap ?_) | (refine bufNil ?_) | (refine bufEq ?_) | rfl))
  · have hK := KeptP.first hc h1 h2
    (conv => whnf); repeat' ((first | apply CondA.plain | refine' go_pgA | (apply DrawA.quiet (by kernel_rfl) (by kernel_rfl); (conv => whnf); fail_if_success (show False))) <;> (conv => whnf))
    refine loop_rule (fun (⟨i, j, zs⟩ : Nat × Nat × List Int) => ⟨[(0, .buf 0), (1, .clo (.func 52) [.ptr 1 0]), (5, .p (pI i)), (6, .p (pI j))], [some (AO.buf 3 nl (zs.map pI)), some (.cells [.p (pI d)])]⟩) (fun (⟨i, j, zs⟩ : Nat × Nat × List Int) => j ≤ xs.length ∧ KeptP (keepC d) xs zs i j) (fun (⟨i, j, zs⟩ : Nat × Nat × List Int) => xs.length - j) (c, c + 1, xs) ?_ ?_ ?_; (refine SubA.auto rfl rfl rfl rfl ?_ ?_ <;> repeat' (first | exact trivial | refine And.intro ?_ ?_ | with_reducible rfl | (refine pIEq ?_; (first | omega | (simp only [lenS] at *; omega) | grind)) | (refine bufMap ?_) | (refine bufNil ?_) | (refine bufEq ?_) | rfl))
    · exact ⟨by omega, hK⟩
    rintro ⟨i, j, zs⟩ ⟨hj, hK⟩
    have hzl := hK.len
    have hij := hK.ij
    rcases Nat.lt_or_ge j xs.length with hlt | hge
    · have hat := hK.at_ hlt
      have hd := hK.drop_ hlt
      have hk := hK.keep hlt
      rw [← hat] at hd hk
      (conv => whnf); repeat' ((first | apply CondA.plain | refine' go_pgA | (apply DrawA.quiet (by kernel_rfl) (by kernel_rfl); (conv => whnf); fail_if_success (show False))) <;> (conv => whnf))
      refine CallA.loc [1] [] rfl rfl ((DelC1_call d zs[j]).mono ?_)
      rintro r H ⟨rfl, rfl⟩
      (conv => whnf); repeat' ((first | apply CondA.plain | refine' go_pgA | (apply DrawA.quiet (by kernel_rfl) (by kernel_rfl); (conv => whnf); fail_if_success (show False))) <;> (conv => whnf))
      · (refine' ⟨(i + 1, j + 1, zs.set i zs[j]), _, _, _⟩; rotate_right; (refine SubA.auto rfl rfl rfl rfl ?_ ?_ <;> repeat' (first | exact trivial | refine And.intro ?_ ?_ | with_reducible rfl | (refine pIEq ?_; (first | omega | (simp only [lenS] at *; omega) | grind)) | (refine bufMap ?_) | (refine bufNil ?_) | (refine bufEq ?_) | rfl)); rotate_right; (first | omega | (simp only []; omega) | (simp; omega) | (first | omega | (simp only [lenS] at *; omega) | grind)))
        exact ⟨by omega, hk (by simpa using h0)⟩
      · (refine' ⟨(i, j + 1, zs), _, _, _⟩; rotate_right; (refine SubA.auto rfl rfl rfl rfl ?_ ?_ <;> repeat' (first | exact trivial | refine And.intro ?_ ?_ | with_reducible rfl | (refine pIEq ?_; (first | omega | (simp only [lenS] at *; omega) | grind)) | (refine bufMap ?_) | (refine bufNil ?_) | (refine bufEq ?_) | rfl)); rotate_right; (first | omega | (simp only []; omega) | (simp; omega) | (first | omega | (simp only [lenS] at *; omega) | grind)))
        exact ⟨by omega, hd (by simpa using h0)⟩
    · have hh := hK.head
      rw [List.take_of_length_le hge] at hh
      rw [← hh]
      have e1 : List.take (i : Int).toNat (List.map pI zs) ++ List.replicate ((none.getD ((List.map pI zs).length : Int)).toNat - (i : Int).toNat) (pz (Value.int .i64 0)) ++ List.drop (none.getD ((List.map pI zs).length : Int)).toNat (List.map pI zs) = (zs.take i ++ List.replicate (zs.length - i) 0).map pI := by
        have e0 : pz (Value.int .i64 0) = pI 0 := rfl
        simp [e0]
      have e2 : (List.take (i : Int).toNat ((zs.take i ++ List.replicate (zs.length - i) 0).map pI)).drop (0 : Int).toNat = (zs.take i).map pI := by
        simp only [Int.toNat_natCast, ← List.map_take]
        rw [List.take_append_of_le_length (by rw [List.length_take]; omega), List.take_take, Nat.min_self]; rfl
      (conv => whnf); repeat' ((first | (refine IsL.mk _ e1 ?_) | apply CondA.plain | refine' go_pgA | (apply DrawA.quiet (by kernel_rfl) (by kernel_rfl); (conv => whnf); fail_if_success (show False))) <;> (conv => whnf))
      refine RetK.subz _ 0 _ _ _ _ _ _ rfl ?_
      dsimp only [Option.getD]
      rw [e2]
      (refine' RetK.auto (.p (.list nl ((zs.take i).map pI))) ([none, some (.cells [.p (pI d)])]) rfl rfl rfl rfl _ _ _ <;> repeat' (first | exact trivial | refine And.intro ?_ ?_ | with_reducible rfl | (refine pIEq ?_; (first | omega | (simp only [lenS] at *; omega) | grind)) | (refine bufMap ?_) | (refine bufNil ?_) | (refine bufEq ?_) | rfl))
def optsI (opts : List (List Int)) (ch : List Int) : List (List Int) := ch.map fun c => opts.getD c.toNat []
theorem optsC_eq (os : List (Bool × List Int)) (ch : List Int) : optsC os ch = optsI (os.map (·.2)) ch := by
  unfold optsC optsI
  refine List.map_congr_left fun c _ => ?_
  rw [List.getD_eq_getElem?_getD, List.getD_eq_getElem?_getD, List.getElem?_map]
  cases os[c.toNat]? <;> rfl
/-- What Core leaves. -/
def coreS (gs : List Grp) (opts : List (List Int)) (left : List Int) (d : Nat) : List Int := if (srch gs (optsI opts (left.filter (keepC d))) []).isSome then left else left.filter (keepC d)
def coreL (gs : List Grp) (opts : List (List Int)) (n : Nat) : List Int := (List.range n).foldl (coreS gs opts) (upF 0 opts.length)
def coreF (p : Pin) (l : List ByteArray) : List Int × Int := if badF p l [] ≠ 0 then ([], badF p l []) else if (srch p.gs (optsL p l) []).isSome then ([], 7) else (coreL p.gs (optsL p l) l.length, 0)
theorem coreL_succ (gs : List Grp) (opts : List (List Int)) (n : Nat) : coreL gs opts (n + 1) = coreS gs opts (coreL gs opts n) n := by
  unfold coreL
  rw [List.range_succ, List.foldl_append]; rfl
theorem coreS_sub {gs : List Grp} {opts : List (List Int)} {left : List Int} {d : Nat} : (∀ c ∈ coreS gs opts left d, c ∈ left) ∧ (coreS gs opts left d).length ≤ left.length := by
  unfold coreS
  split
  · exact ⟨fun c h => h, Nat.le_refl _⟩
  · exact ⟨fun c h => (List.mem_filter.1 h).1, List.length_filter_le _ _⟩
set_option maxHeartbeats 16000000 in
theorem Core_call (p : Pin) (nl : Bool) (l : List ByteArray) : ACall Try.prog 22 [.p p.pv, .p (.list nl (l.map pS))] [] (F2 (coreF p l).1 (coreF p l).2) := by
  refine acall_enter Try.func22 rfl rfl tabOK rfl ?_
  (conv => whnf); repeat' ((first | apply CondA.plain | refine' go_pgA | (apply DrawA.quiet (by kernel_rfl) (by kernel_rfl); (conv => whnf); fail_if_success (show False))) <;> (conv => whnf))
  refine CallA.loc [] [] rfl rfl ((build_call p nl true l []).mono ?_)
  rintro _ _ ⟨rfl, ⟨he, rfl⟩ | ⟨he, on, os, mn, hos, rfl⟩⟩
  · have e : coreF p l = ([], badF p l []) := by rw [coreF, if_pos he]
    rw [e]
    obtain ⟨E, hE⟩ : ∃ E, badF p l [] = E := ⟨_, rfl⟩
    rw [hE] at he ⊢
    (conv => whnf); repeat' ((first | apply CondA.plain | refine' go_pgA | (apply DrawA.quiet (by kernel_rfl) (by kernel_rfl); (conv => whnf); fail_if_success (show False))) <;> (conv => whnf))
    (refine' RetK.auto (.tup [.p (.list true []), .p (pI E)]) ([]) rfl rfl rfl rfl _ _ _ <;> repeat' (first | exact trivial | refine And.intro ?_ ?_ | with_reducible rfl | (refine pIEq ?_; (first | omega | (simp only [lenS] at *; omega) | grind)) | (refine bufMap ?_) | (refine bufNil ?_) | (refine bufEq ?_) | rfl))
    exact ⟨true, rfl⟩
  obtain ⟨hR, hfit⟩ := badF_ok he
  have hP := valid_of hR.1
  have hl10 := hR.2.1
  have hol : os.length = l.length := by
    have := congrArg List.length hos
    simp [optsL] at this
    exact this
  have hfirst := fun cn (ch : List Int) (h1 : ∀ c ∈ ch, 0 ≤ c ∧ c < os.length) h2 => first_call hP on mn true cn os [] ch (fun g hg => by cases hg) h1 (opts_rng hos) h2
  have hf0 := fun cn => hfirst cn (upF 0 os.length) (fun c hc => by have := upF_rng c hc; omega) (by rw [upF_len]; omega)
  rw [optsC_up, List.drop_zero, hos] at hf0
  have hop := open_call on mn true os (masksG p.gs) [] (takenN p.gs []) (by omega) (by simp)
  have e : coreF p l = if (srch p.gs (optsL p l) []).isSome then ([], 7) else (coreL p.gs (optsL p l) l.length, 0) := by rw [coreF, if_neg (by rw [he]; simp)]
  rw [e]
  obtain ⟨S, hS⟩ : ∃ S, srch p.gs (optsL p l) [] = S := ⟨_, rfl⟩
  rw [hS] at hf0 ⊢
  (conv => whnf); repeat' ((first | apply CondA.plain | refine' go_pgA | ((refine CallA.fresh _ hop ?_; rintro _ ⟨n1, rfl⟩))) <;> (conv => whnf))
  refine CallA.loc [] [] rfl rfl ((hf0 _).mono ?_)
  rintro _ _ ⟨⟨n2, rfl⟩, rfl⟩
  cases S with
  | some x =>
    (conv => whnf); repeat' ((first | apply CondA.plain | refine' go_pgA | fail) <;> (conv => whnf))
    (refine' RetK.auto (.tup [.p (.list true []), .p (pI 7)]) ([]) rfl rfl rfl rfl _ _ _ <;> repeat' (first | exact trivial | refine And.intro ?_ ?_ | with_reducible rfl | (refine pIEq ?_; (first | omega | (simp only [lenS] at *; omega) | grind)) | (refine bufMap ?_) | (refine bufNil ?_) | (refine bufEq ?_) | rfl))
    exact ⟨true, rfl⟩
  | none =>
    rw [if_neg (by simp)]
    have hol2 : (optsL p l).length = l.length := by simp [optsL]
    (conv => whnf); repeat' ((first | apply CondA.plain | refine' go_pgA | fail) <;> (conv => whnf))
    refine loop_rule (fun (⟨c, nb, left⟩ : Nat × Bool × List Int) => ⟨[(6, .ptr 1 0), (8, .p (.list nb (left.map pI))), (34, .p (pI l.length)), (35, .p (pI c))], [some (.cells [.p (pI p.n), .p (.list p.nl (p.gs.map Grp.pv))]), some (.cells [.p (.list on (os.map fI)), .p (.list mn ((masksG p.gs).map pU)), .p (.list true []), .p (pU (takenN p.gs []))])]⟩) (fun (⟨c, nb, left⟩ : Nat × Bool × List Int) => c ≤ l.length ∧ left = coreL p.gs (optsL p l) c ∧ (∀ x ∈ left, 0 ≤ x ∧ x < os.length) ∧ left.length ≤ 10) (fun (⟨c, nb, left⟩ : Nat × Bool × List Int) => l.length - c) (0, n1, upF 0 os.length) ?_ ?_ ?_; (refine SubA.auto rfl rfl rfl rfl ?_ ?_ <;> repeat' (first | exact trivial | refine And.intro ?_ ?_ | with_reducible rfl | (refine pIEq ?_; (first | omega | (simp only [lenS] at *; omega) | grind)) | (refine bufMap ?_) | (refine bufNil ?_) | (refine bufEq ?_) | rfl))
    · refine ⟨Nat.zero_le _, ?_, fun x hx => by have := upF_rng x hx; omega, by rw [upF_len]; omega⟩
      show upF 0 os.length = upF 0 (optsL p l).length
      rw [hol2, hol]
    rintro ⟨c, nb, left⟩ ⟨hc, hleft, hrg, hll⟩
    rcases Nat.lt_or_ge c l.length with hlt | hge
    · have hsub := coreS_sub (gs := p.gs) (opts := optsL p l) (left := left) (d := c)
      have hsc := coreL_succ p.gs (optsL p l) c
      rw [← hleft] at hsc
      have hw := fun cn => hfirst cn (left.filter (keepC c)) (fun x hx => hrg x (List.mem_filter.1 hx).1) (Nat.le_trans (List.length_filter_le _ _) hll)
      rw [optsC_eq, hos] at hw
      have hwl : (left.filter (keepC c)).length ≤ 10 := Nat.le_trans (List.length_filter_le _ _) hll
      rw [← hsc] at hsub
      obtain ⟨W, hW⟩ : ∃ W, left.filter (keepC c) = W := ⟨_, rfl⟩
      have hdel := fun nl2 => DelC_call nl2 (c : Int) left (by omega)
      rw [coreS, hW] at hsc
      rw [hW] at hw hwl
      simp only [hW] at hdel
      obtain ⟨S2, hS2⟩ : ∃ S2, srch p.gs (optsI (optsL p l) W) [] = S2 := ⟨_, rfl⟩
      rw [hS2] at hw hsc
      (conv => whnf); repeat' ((first | apply CondA.plain | refine' go_pgA | fail) <;> (conv => whnf))
      refine CallA.loc [] [] rfl rfl ((Clone_call nb left (by omega)).mono ?_)
      rintro _ _ ⟨n3, rfl, rfl⟩
      (conv => whnf); repeat' ((first | apply CondA.plain | refine' go_pgA | fail) <;> (conv => whnf))
      refine CallA.loc [3, 2] [] rfl rfl ((hdel n3).mono ?_)
      rintro _ _ ⟨rfl, rfl⟩
      (conv => whnf); repeat' ((first | apply CondA.plain | refine' go_pgA | fail) <;> (conv => whnf))
      refine CallA.loc [] [] rfl rfl ((hw _).mono ?_)
      rintro _ _ ⟨⟨n4, rfl⟩, rfl⟩
      cases S2 with
      | some x =>
        (conv => whnf); repeat' ((first | apply CondA.plain | refine' go_pgA | fail) <;> (conv => whnf))
        (refine' ⟨(c + 1, nb, left), _, _, _⟩; rotate_right; (refine SubA.auto rfl rfl rfl rfl ?_ ?_ <;> repeat' (first | exact trivial | refine And.intro ?_ ?_ | with_reducible rfl | (refine pIEq ?_; (first | omega | (simp only [lenS] at *; omega) | grind)) | (refine bufMap ?_) | (refine bufNil ?_) | (refine bufEq ?_) | rfl)); rotate_right; (first | omega | (simp only []; omega) | (simp; omega) | (first | omega | (simp only [lenS] at *; omega) | grind)))
        exact ⟨by omega, hsc.symm, hrg, hll⟩
      | none =>
        (conv => whnf); repeat' ((first | apply CondA.plain | refine' go_pgA | fail) <;> (conv => whnf))
        (refine' ⟨(c + 1, n3, W), _, _, _⟩; rotate_right; (refine SubA.auto rfl rfl rfl rfl ?_ ?_ <;> repeat' (first | exact trivial | refine And.intro ?_ ?_ | with_reducible rfl | (refine pIEq ?_; (first | omega | (simp only [lenS] at *; omega) | grind)) | (refine bufMap ?_) | (refine bufNil ?_) | (refine bufEq ?_) | rfl)); rotate_right; (first | omega | (simp only []; omega) | (simp; omega) | (first | omega | (simp only [lenS] at *; omega) | grind)))
        exact ⟨by omega, hsc.symm, fun x hx => hrg x (by rw [← hW] at hx; exact (List.mem_filter.1 hx).1), hwl⟩
    · obtain rfl : c = l.length := by omega
      rw [← hleft]
      (conv => whnf); repeat' ((first | apply CondA.plain | refine' go_pgA | fail) <;> (conv => whnf))
      (refine' RetK.auto (.tup [.p (.list nb (left.map pI)), .p (pI 0)]) ([]) rfl rfl rfl rfl _ _ _ <;> repeat' (first | exact trivial | refine And.intro ?_ ?_ | with_reducible rfl | (refine pIEq ?_; (first | omega | (simp only [lenS] at *; omega) | grind)) | (refine bufMap ?_) | (refine bufNil ?_) | (refine bufEq ?_) | rfl))
      exact ⟨nb, rfl⟩
end Go.Proofs.Ytnogpkaehiapfaa
