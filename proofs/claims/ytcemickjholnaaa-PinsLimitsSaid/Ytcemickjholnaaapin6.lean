/- Pinouts: names of groups, common pins. -/
import Derived.Test.Ytcemickjholnaaapin5
namespace Go.Proofs.Ytcemickjholnaaa
set_option linter.unusedSimpArgs false
set_option linter.unusedVariables false
set_option linter.unnecessarySimpa false
open Go.Abs
set_option maxRecDepth 100000
def nameAt (gs : List Grp) (i : Nat) : ByteArray := (gs.getD i default).name
/-- The first group with a name; -1: none. -/
def FindR (gs : List Grp) (s : ByteArray) (v : Int) : Prop := v = -1 ∧ (∀ i, i < gs.length → nameAt gs i ≠ s) ∨ ∃ c : Nat, v = c ∧ c < gs.length ∧ nameAt gs c = s ∧ ∀ k, k < c → nameAt gs k ≠ s
def FindP (p : Pin) (s : ByteArray) (v : Int) : Prop := if validP p = 0 then FindR p.gs s v else v = -1
theorem FindR.unique {gs : List Grp} {s : ByteArray} {u v : Int} (hu : FindR gs s u) (hv : FindR gs s v) : u = v := by
  rcases hu with ⟨rfl, h1⟩ | ⟨c, rfl, h1, h2, h3⟩ <;> rcases hv with ⟨rfl, g1⟩ | ⟨d, rfl, g1, g2, g3⟩
  · rfl
  · exact absurd g2 (h1 d g1)
  · exact absurd h2 (g1 c h1)
  · rcases Nat.lt_trichotomy c d with h | h | h
    · exact absurd h2 (g3 c h)
    · rw [h]
    · exact absurd g2 (h3 d h)
theorem FindP.unique {p : Pin} {s : ByteArray} {u v : Int} (hu : FindP p s u) (hv : FindP p s v) : u = v := by
  unfold FindP at hu hv
  split at hu
  · rename_i h
    rw [if_pos h] at hv
    exact hu.unique hv
  · rename_i h
    rw [if_neg h] at hv
    rw [hu, hv]
theorem nameAt_eq {gs : List Grp} {i : Nat} (h : i < gs.length) : nameAt gs i = gs[i].name := by rw [nameAt, List.getD_eq_getElem?_getD, List.getElem?_eq_getElem h]; rfl
/-- Kept for later: a goal of a walk's step. -/
theorem park_pin6 {P : Prop} (x : P) (_ : x = x) : P := x
/-- One step of a walk. -/
theorem go_pin6 {P : Prop} (h : P := by
  (first | ((first | apply LenA.map | apply NilA.map | apply NilA.mk); intro _) | ((first | apply NW.as | apply ValA.as); with_reducible assumption) | ((first | apply NW.i64 | apply NW.u32 | apply NW.u64 | apply NW.u8 | apply InA.nat | apply InA.map | apply AppA.snoc (f := pI) (a := _) rfl | apply AppA.one (f := pI) (a := _) rfl | apply AppA.snoc (f := pB) (a := _) rfl | apply AppA.one (f := pB) (a := _) rfl | apply AppA.snoc (f := pS) (a := _) rfl | apply AppA.one (f := pS) (a := _) rfl | apply AppA.map | apply AppA.nil | apply CutA.lo | apply CutA.hi); (first | omega | (simp only [lenS] at *; omega) | grind)) | ((first | (apply RemA.as; assumption) | apply RemA.self); (first | omega | (simp only [lenS] at *; omega) | grind)) | (apply ValA.as; assumption) | apply ValA.self | (apply NW.as; assumption) | (apply SzA.map; (intro _; rfl)) | with_reducible apply br_pt | with_reducible apply br_pf | with_reducible apply br_mt | with_reducible apply br_mf | apply Both.mk | ((first | apply br_T | apply br_F | apply br_mT | apply br_mF); assumption) | ((first | apply br_lss | apply br_leq | apply br_gtr | apply br_geq | apply br_dec | apply br_beq | apply br_bne | apply br_beqB | apply br_bneB | apply br_not | apply br_m | apply br_intro) <;> intro h0 <;> first | (exfalso; first | omega | exact tf h0 (by assumption) | exact tf (by assumption) h0 | exact h0 (by assumption) | exact h0 rfl | exact of_decide_eq_false h0 rfl) | skip) | refine ArrA.mk _ rfl rfl ?_ | (apply IdxA.lit; omega; exact rfl) | ((first | apply IdxA.of_nat | (apply IdxA.of_map; (first | omega | (simp only [lenS] at *; omega) | grind))); rotate_left; (first | omega | (simp only [lenS] at *; omega) | grind)) | apply AppC.own | apply CutO.part | apply IsL.set (f := pI) (a := _) rfl | apply IsL.rep (f := pI) (a := _) rfl | apply IsL.set (f := pB) (a := _) rfl | apply IsL.rep (f := pB) (a := _) rfl | apply IsL.set (f := pS) (a := _) rfl | apply IsL.rep (f := pS) (a := _) rfl | apply IsL.lit (f := pI) [] rfl | apply IsL.lit (f := pI) [_] rfl | apply IsL.lit (f := pB) [] rfl | apply IsL.lit (f := pB) [_] rfl | apply IsL.lit (f := pS) [] rfl | apply IsL.lit (f := pS) [_] rfl | (apply And.intro; (first | with_reducible rfl | (show (_ : AV) = _; rfl) | (first | omega | (simp only [lenS] at *; omega) | grind)))) <;> (solve_by_elim (newGoals := .nonDependentOnly) (symm := false) (exfalso := false) (transparency := .reducible) only [rfl, park_pin6])) : P := h
theorem fd1_call (g : Grp) (s : ByteArray) : ACall Try.prog 37 [.p g.pv, .ptr 0 0] [some (.cells [.p (pS s)])] fun r H => r = .p (pB (g.name.toList == s.toList)) ∧ H = [some (.cells [.p (pS s)])] := by
  refine acall_enter Try.func37 rfl rfl tabOK rfl ?_
  (conv => whnf); repeat' ((first | apply CondA.plain | refine' go_pin6 | (apply DrawA.quiet (by kernel_rfl) (by kernel_rfl); (conv => whnf); fail_if_success (show False))) <;> (conv => whnf))
  (refine' RetK.auto (.p (pB (g.name.toList == s.toList))) ([some (.cells [.p (pS s)])]) rfl rfl rfl rfl _ _ _ <;> repeat' (first | exact trivial | refine And.intro ?_ ?_ | with_reducible rfl | (refine pIEq ?_; (first | omega | (simp only [lenS] at *; omega) | grind)) | (refine bufMap ?_) | (refine bufNil ?_) | (refine bufEq ?_) | rfl))
theorem fd_index (nl : Bool) (gs : List Grp) (s : ByteArray) : ACall Try.prog 36 [.p (.list nl (gs.map Grp.pv)), .clo (.func 37) [.ptr 0 0]] [some (.cells [.p (pS s)])] fun r H => (∃ v : Int, r = .p (pI v) ∧ FindR gs s v) ∧ H = [some (.cells [.p (pS s)])] := by
  refine acall_enter Try.func36 rfl rfl tabOK rfl ?_
  (conv => whnf); repeat' ((first | apply CondA.plain | refine' go_pin6 | (apply DrawA.quiet (by kernel_rfl) (by kernel_rfl); (conv => whnf); fail_if_success (show False))) <;> (conv => whnf))
  refine loop_rule (fun (c : Nat) => ⟨[(0, .p (.list nl (gs.map Grp.pv))), (1, .clo (.func 37) [.ptr 0 0]), (7, .p (pI gs.length)), (8, .p (pI c))], [some (.cells [.p (pS s)])]⟩) (fun (c : Nat) => c ≤ gs.length ∧ ∀ k, k < c → nameAt gs k ≠ s) (fun (c : Nat) => gs.length - c) 0 ?_ ?_ ?_; (refine SubA.auto rfl rfl rfl rfl ?_ ?_ <;> repeat' (first | exact trivial | refine And.intro ?_ ?_ | with_reducible rfl | (refine pIEq ?_; (first | omega | (simp only [lenS] at *; omega) | grind)) | (refine bufMap ?_) | (refine bufNil ?_) | (refine bufEq ?_) | rfl))
  · exact ⟨Nat.zero_le _, fun k hk => by omega⟩
  rintro c ⟨hc, hall⟩
  rcases Nat.lt_or_ge c gs.length with hlt | hge
  · obtain ⟨g, hg⟩ : ∃ g, gs[c] = g := ⟨_, rfl⟩
    have hg1 : gs[((c : Nat) : Int).toNat]? = some g := by rw [Int.toNat_natCast, List.getElem?_eq_getElem hlt, hg]
    have hc0 : (0 : Int) ≤ (c : Nat) := Int.natCast_nonneg c
    have hn : nameAt gs c = g.name := by rw [nameAt_eq hlt, hg]
    have hq := seq_eq g.name s
    (conv => whnf); repeat' ((first | (apply IdxA.at_ (f := Grp.pv) g hc0 hg1) | apply CondA.plain | refine' go_pin6 | (apply DrawA.quiet (by kernel_rfl) (by kernel_rfl); (conv => whnf); fail_if_success (show False))) <;> (conv => whnf))
    refine CallA.loc [0] [] rfl rfl ((fd1_call g s).mono ?_)
    rintro _ _ ⟨rfl, rfl⟩
    rcases Decidable.em (g.name = s) with he | he
    · rw [hq, decide_eq_true he]
      (conv => whnf); repeat' ((first | apply CondA.plain | refine' go_pin6 | (apply DrawA.quiet (by kernel_rfl) (by kernel_rfl); (conv => whnf); fail_if_success (show False))) <;> (conv => whnf))
      (refine' RetK.auto (.p (pI c)) ([some (.cells [.p (pS s)])]) rfl rfl rfl rfl _ _ _ <;> repeat' (first | exact trivial | refine And.intro ?_ ?_ | with_reducible rfl | (refine pIEq ?_; (first | omega | (simp only [lenS] at *; omega) | grind)) | (refine bufMap ?_) | (refine bufNil ?_) | (refine bufEq ?_) | rfl))
      exact ⟨c, rfl, .inr ⟨c, rfl, hlt, hn.trans he, hall⟩⟩
    · rw [hq, decide_eq_false he]
      (conv => whnf); repeat' ((first | apply CondA.plain | refine' go_pin6 | (apply DrawA.quiet (by kernel_rfl) (by kernel_rfl); (conv => whnf); fail_if_success (show False))) <;> (conv => whnf))
      (refine' ⟨c + 1, _, _, _⟩; rotate_right; (refine SubA.auto rfl rfl rfl rfl ?_ ?_ <;> repeat' (first | exact trivial | refine And.intro ?_ ?_ | with_reducible rfl | (refine pIEq ?_; (first | omega | (simp only [lenS] at *; omega) | grind)) | (refine bufMap ?_) | (refine bufNil ?_) | (refine bufEq ?_) | rfl)); rotate_right; (first | omega | (simp only []; omega) | (simp; omega) | (first | omega | (simp only [lenS] at *; omega) | grind)))
      refine ⟨by omega, fun k hk => ?_⟩
      rcases Nat.lt_or_ge k c with h | h
      · exact hall k h
      · obtain rfl : k = c := by omega
        rw [hn]; exact he
  · (conv => whnf); repeat' ((first | apply CondA.plain | refine' go_pin6 | (apply DrawA.quiet (by kernel_rfl) (by kernel_rfl); (conv => whnf); fail_if_success (show False))) <;> (conv => whnf))
    (refine' RetK.auto (.p (pI (-1))) ([some (.cells [.p (pS s)])]) rfl rfl rfl rfl _ _ _ <;> repeat' (first | exact trivial | refine And.intro ?_ ?_ | with_reducible rfl | (refine pIEq ?_; (first | omega | (simp only [lenS] at *; omega) | grind)) | (refine bufMap ?_) | (refine bufNil ?_) | (refine bufEq ?_) | rfl))
    exact ⟨-1, rfl, .inl ⟨rfl, fun i hi => hall i (by omega)⟩⟩
theorem Find_call (p : Pin) (s : ByteArray) : ACall Try.prog 16 [.p p.pv, .p (pS s)] [] fun r H => (∃ v : Int, r = .p (pI v) ∧ FindP p s v) ∧ H = [] := by
  refine acall_enter Try.func16 rfl rfl tabOK rfl ?_
  rcases Decidable.em (validP p = 0) with hv | hv
  rotate_left
  · (conv => whnf); repeat' ((first | apply CondA.plain | refine' go_pin6 | (apply DrawA.quiet (by kernel_rfl) (by kernel_rfl); (conv => whnf); fail_if_success (show False)) | (refine CallA.scalar (pValid_call p) ?_)) <;> (conv => whnf))
    (refine' RetK.auto (.p (pI (-1))) ([]) rfl rfl rfl rfl _ _ _ <;> repeat' (first | exact trivial | refine And.intro ?_ ?_ | with_reducible rfl | (refine pIEq ?_; (first | omega | (simp only [lenS] at *; omega) | grind)) | (refine bufMap ?_) | (refine bufNil ?_) | (refine bufEq ?_) | rfl))
    exact ⟨-1, rfl, by rw [FindP, if_neg hv]⟩
  (conv => whnf); repeat' ((first | apply CondA.plain | refine' go_pin6 | (apply DrawA.quiet (by kernel_rfl) (by kernel_rfl); (conv => whnf); fail_if_success (show False)) | ((refine CallA.scalar (pValid_call p) ?_; rw [hv]))) <;> (conv => whnf))
  refine CallA.loc [1] [] rfl rfl ((fd_index p.nl p.gs s).mono ?_)
  rintro _ _ ⟨⟨v, rfl, hf⟩, rfl⟩
  (conv => whnf); repeat' ((first | apply CondA.plain | refine' go_pin6 | (apply DrawA.quiet (by kernel_rfl) (by kernel_rfl); (conv => whnf); fail_if_success (show False))) <;> (conv => whnf))
  (refine' RetK.auto (.p (pI v)) ([]) rfl rfl rfl rfl _ _ _ <;> repeat' (first | exact trivial | refine And.intro ?_ ?_ | with_reducible rfl | (refine pIEq ?_; (first | omega | (simp only [lenS] at *; omega) | grind)) | (refine bufMap ?_) | (refine bufNil ?_) | (refine bufEq ?_) | rfl))
  exact ⟨v, rfl, by rw [FindP, if_pos hv]; exact hf⟩
theorem rFind_call (p : Pin) (s : ByteArray) : ACall Try.prog 21 [.p p.pv, .p (pS s)] [] fun r H => (∃ v : Int, r = .p (pI v) ∧ FindP p s v) ∧ H = [] := by
  refine acall_enter Try.func21 rfl rfl tabOK rfl ?_
  rcases Decidable.em (validP p = 0) with hv | hv
  rotate_left
  · (conv => whnf); repeat' ((first | apply CondA.plain | refine' go_pin6 | (apply DrawA.quiet (by kernel_rfl) (by kernel_rfl); (conv => whnf); fail_if_success (show False)) | (refine CallA.scalar (rValid_call p) ?_)) <;> (conv => whnf))
    (refine' RetK.auto (.p (pI (-1))) ([]) rfl rfl rfl rfl _ _ _ <;> repeat' (first | exact trivial | refine And.intro ?_ ?_ | with_reducible rfl | (refine pIEq ?_; (first | omega | (simp only [lenS] at *; omega) | grind)) | (refine bufMap ?_) | (refine bufNil ?_) | (refine bufEq ?_) | rfl))
    exact ⟨-1, rfl, by rw [FindP, if_neg hv]⟩
  have h24 := (valid_of hv).len
  (conv => whnf); repeat' ((first | apply CondA.plain | refine' go_pin6 | (apply DrawA.quiet (by kernel_rfl) (by kernel_rfl); (conv => whnf); fail_if_success (show False)) | ((refine CallA.scalar (rValid_call p) ?_; rw [hv]))) <;> (conv => whnf))
  refine loop_rule (fun (c : Nat) => ⟨[(1, .p (pS s)), (2, .ptr 0 0), (5, .p (pI c))], [some (.cells [.p (pI p.n), .p (.list p.nl (p.gs.map Grp.pv))])]⟩) (fun (c : Nat) => c ≤ p.gs.length ∧ ∀ k, k < c → nameAt p.gs k ≠ s) (fun (c : Nat) => p.gs.length - c) 0 ?_ ?_ ?_; (refine SubA.auto rfl rfl rfl rfl ?_ ?_ <;> repeat' (first | exact trivial | refine And.intro ?_ ?_ | with_reducible rfl | (refine pIEq ?_; (first | omega | (simp only [lenS] at *; omega) | grind)) | (refine bufMap ?_) | (refine bufNil ?_) | (refine bufEq ?_) | rfl))
  · exact ⟨Nat.zero_le _, fun k hk => by omega⟩
  rintro c ⟨hc, hall⟩
  rcases Nat.lt_or_ge c p.gs.length with hlt | hge
  · obtain ⟨g, hg⟩ : ∃ g, p.gs[c] = g := ⟨_, rfl⟩
    have hg1 : p.gs[((c : Nat) : Int).toNat]? = some g := by rw [Int.toNat_natCast, List.getElem?_eq_getElem hlt, hg]
    have hc0 : (0 : Int) ≤ (c : Nat) := Int.natCast_nonneg c
    have hn : nameAt p.gs c = g.name := by rw [nameAt_eq hlt, hg]
    have hq := seq_eq g.name s
    rcases Decidable.em (g.name = s) with he | he
    · rw [decide_eq_true he] at hq
      (conv => whnf); repeat' ((first | (apply IdxA.at_ (f := Grp.pv) g hc0 hg1) | apply CondA.plain | refine' go_pin6 | (apply DrawA.quiet (by kernel_rfl) (by kernel_rfl); (conv => whnf); fail_if_success (show False))) <;> (conv => whnf))
      (refine' RetK.auto (.p (pI c)) ([]) rfl rfl rfl rfl _ _ _ <;> repeat' (first | exact trivial | refine And.intro ?_ ?_ | with_reducible rfl | (refine pIEq ?_; (first | omega | (simp only [lenS] at *; omega) | grind)) | (refine bufMap ?_) | (refine bufNil ?_) | (refine bufEq ?_) | rfl))
      exact ⟨c, rfl, by rw [FindP, if_pos hv]; exact .inr ⟨c, rfl, hlt, hn.trans he, hall⟩⟩
    · rw [decide_eq_false he] at hq
      (conv => whnf); repeat' ((first | (apply IdxA.at_ (f := Grp.pv) g hc0 hg1) | apply CondA.plain | refine' go_pin6 | (apply DrawA.quiet (by kernel_rfl) (by kernel_rfl); (conv => whnf); fail_if_success (show False))) <;> (conv => whnf))
      (refine' ⟨c + 1, _, _, _⟩; rotate_right; (refine SubA.auto rfl rfl rfl rfl ?_ ?_ <;> repeat' (first | exact trivial | refine And.intro ?_ ?_ | with_reducible rfl | (refine pIEq ?_; (first | omega | (simp only [lenS] at *; omega) | grind)) | (refine bufMap ?_) | (refine bufNil ?_) | (refine bufEq ?_) | rfl)); rotate_right; (first | omega | (simp only []; omega) | (simp; omega) | (first | omega | (simp only [lenS] at *; omega) | grind)))
      refine ⟨by omega, fun k hk => ?_⟩
      rcases Nat.lt_or_ge k c with h | h
      · exact hall k h
      · obtain rfl : k = c := by omega
        rw [hn]; exact he
  · (conv => whnf); repeat' ((first | apply CondA.plain | refine' go_pin6 | (apply DrawA.quiet (by kernel_rfl) (by kernel_rfl); (conv => whnf); fail_if_success (show False))) <;> (conv => whnf))
    (refine' RetK.auto (.p (pI (-1))) ([]) rfl rfl rfl rfl _ _ _ <;> repeat' (first | exact trivial | refine And.intro ?_ ?_ | with_reducible rfl | (refine pIEq ?_; (first | omega | (simp only [lenS] at *; omega) | grind)) | (refine bufMap ?_) | (refine bufNil ?_) | (refine bufEq ?_) | rfl))
    exact ⟨-1, rfl, by rw [FindP, if_pos hv]; exact .inl ⟨rfl, fun i hi => hall i (by omega)⟩⟩
def findF (p : Pin) (s : ByteArray) : Int := if validP p = 0 then idxS (p.gs.map (·.name)) s else -1
theorem FindP_findF (p : Pin) (s : ByteArray) : FindP p s (findF p s) := by
  unfold FindP findF
  split
  · rename_i hv
    have hl : (p.gs.map (·.name)).length = p.gs.length := List.length_map ..
    have hat : ∀ k, (h : k < (p.gs.map (·.name)).length) → (p.gs.map (·.name))[k] = nameAt p.gs k := fun k h => by
      rw [List.getElem_map, nameAt_eq (by omega)]
    rcases Decidable.em (s ∈ p.gs.map (·.name)) with hm | hm
    · rw [idxS, if_pos hm]
      have hlt := List.idxOf_lt_length_of_mem hm
      refine .inr ⟨_, rfl, by omega, ?_, fun k hk e => ?_⟩
      · rw [← hat _ hlt]; exact List.getElem_idxOf hlt
      · have hkl : k < (p.gs.map (·.name)).length := by omega
        rw [← hat k hkl] at e
        have := List.not_of_lt_findIdx (p := (· == s)) (xs := p.gs.map Grp.name) (i := k) hk
        rw [e, beq_self_eq_true] at this
        cases this
    · rw [idxS, if_neg hm]
      refine .inl ⟨rfl, fun i hi e => hm ?_⟩
      rw [← e, ← hat i (by omega)]
      exact List.getElem_mem _
  · rfl
theorem Find_call' (p : Pin) (s : ByteArray) : ACall Try.prog 16 [.p p.pv, .p (pS s)] [] fun r H => r = .p (pI (findF p s)) ∧ H = [] :=
  (Find_call p s).mono fun r H ⟨⟨v, h1, h2⟩, h3⟩ => ⟨by rw [h1, h2.unique (FindP_findF p s)], h3⟩
theorem rFind_call' (p : Pin) (s : ByteArray) : ACall Try.prog 21 [.p p.pv, .p (pS s)] [] fun r H => r = .p (pI (findF p s)) ∧ H = [] :=
  (rFind_call p s).mono fun r H ⟨⟨v, h1, h2⟩, h3⟩ => ⟨by rw [h1, h2.unique (FindP_findF p s)], h3⟩
/-- The pins that two groups have in common. -/
def comF (a b : List Int) : List Int := a.filter fun x => b.contains x
def commonF (p : Pin) (a b : Int) : List Int := if validP p = 0 ∧ (0 ≤ a ∧ a < p.gs.length) ∧ 0 ≤ b ∧ b < p.gs.length then comF (p.gs.getD a.toNat default).pins (p.gs.getD b.toNat default).pins else []
theorem comF_take {a b : List Int} {c : Nat} (h : c < a.length) : comF (a.take (c + 1)) b = comF (a.take c) b ++ (if b.contains a[c] then [a[c]] else []) := by
  unfold comF
  rw [List.take_succ_eq_append_getElem h, List.filter_append]
  congr 1
  by_cases hq : b.contains a[c] = true
  · rw [if_pos hq, List.filter_cons, if_pos hq]; rfl
  · rw [if_neg hq, List.filter_cons, if_neg hq]; rfl
theorem comF_len (a b : List Int) : (comF a b).length ≤ a.length := List.length_filter_le _ _
set_option maxHeartbeats 4000000 in
theorem Common_call (p : Pin) (a b : Int) : Pure Try.prog 25 [.p p.pv, .p (pI a), .p (pI b)] (R1 pI (commonF p a b)) := by
  refine acall_enter Try.func25 rfl rfl tabOK rfl ?_
  rcases Decidable.em (validP p = 0) with hv | hv
  rotate_left
  · have e : commonF p a b = [] := by rw [commonF, if_neg fun h => hv h.1]
    rw [e]
    (conv => whnf); repeat' ((first | apply CondA.plain | refine' go_pin6 | (apply DrawA.quiet (by kernel_rfl) (by kernel_rfl); (conv => whnf); fail_if_success (show False)) | (refine CallA.scalar (pValid_call p) ?_)) <;> (conv => whnf))
    (first | (apply RetK.r1; exact rfl; exact (fun _ => flat_ofB rfl)) | apply RetK.r1n | (apply RetK.r2; exact rfl; exact (fun _ => flat_ofB rfl)) | apply RetK.r2n | (apply RetK.r3; exact rfl; exact (fun _ => flat_ofB rfl)) | apply RetK.r3n) <;> rfl
  rcases Decidable.em ((0 ≤ a ∧ a < p.gs.length) ∧ 0 ≤ b ∧ b < p.gs.length) with hab | hab
  rotate_left
  · have e : commonF p a b = [] := by rw [commonF, if_neg fun h => hab h.2]
    rw [e]
    (conv => whnf); repeat' ((first | apply CondA.plain | refine' go_pin6 | (apply DrawA.quiet (by kernel_rfl) (by kernel_rfl); (conv => whnf); fail_if_success (show False)) | ((refine CallA.scalar (pValid_call p) ?_; rw [hv]))) <;> (conv => whnf))
    all_goals
      (first | (apply RetK.r1; exact rfl; exact (fun _ => flat_ofB rfl)) | apply RetK.r1n | (apply RetK.r2; exact rfl; exact (fun _ => flat_ofB rfl)) | apply RetK.r2n | (apply RetK.r3; exact rfl; exact (fun _ => flat_ofB rfl)) | apply RetK.r3n) <;> rfl
  have hP := valid_of hv
  rw [commonF, if_pos ⟨hv, hab⟩]
  obtain ⟨⟨ha0, ha1⟩, hb0, hb1⟩ := hab
  obtain ⟨x, rfl⟩ : ∃ x : Nat, a = x := ⟨a.toNat, by omega⟩
  obtain ⟨y, rfl⟩ : ∃ y : Nat, b = y := ⟨b.toNat, by omega⟩
  rw [Int.toNat_natCast, Int.toNat_natCast, gs_getD (by omega), gs_getD (by omega)]
  obtain ⟨g, hg⟩ : ∃ g, p.gs[x]'(by omega) = g := ⟨_, rfl⟩
  obtain ⟨h, hh⟩ : ∃ h, p.gs[y]'(by omega) = h := ⟨_, rfl⟩
  rw [hg, hh]
  have hg1 : p.gs[((x : Nat) : Int).toNat]? = some g := by rw [Int.toNat_natCast, List.getElem?_eq_getElem (by omega), hg]
  have hh1 : p.gs[((y : Nat) : Int).toNat]? = some h := by rw [Int.toNat_natCast, List.getElem?_eq_getElem (by omega), hh]
  have hgo := hP.ok g (by rw [← hg]; exact List.getElem_mem _)
  have hgl := hgo.plen
  have hn := hP.n
  (conv => whnf); repeat' ((first | (apply IdxA.at_ (f := Grp.pv) g ha0 hg1) | apply CondA.plain | refine' go_pin6 | (apply DrawA.quiet (by kernel_rfl) (by kernel_rfl); (conv => whnf); fail_if_success (show False)) | ((refine CallA.scalar (pValid_call p) ?_; rw [hv]))) <;> (conv => whnf))
  refine loop_rule (fun (⟨c, nb, o⟩ : Nat × Bool × List Int) => ⟨[(2, .p (pI y)), (3, .ptr 0 0), (7, .buf 1), (40, .p (.list g.pn (g.pins.map pI))), (41, .p (pI g.pins.length)), (42, .p (pI c))], [some (.cells [.p (pI p.n), .p (.list p.nl (p.gs.map Grp.pv))]), some (AO.buf 3 nb (o.map pI))]⟩) (fun (⟨c, nb, o⟩ : Nat × Bool × List Int) => c ≤ g.pins.length ∧ o = comF (g.pins.take c) h.pins) (fun (⟨c, nb, o⟩ : Nat × Bool × List Int) => g.pins.length - c) (0, true, []) ?_ ?_ ?_; (refine SubA.auto1 (3, 7) rfl rfl rfl rfl rfl ?_ ?_ <;> repeat' (first | exact trivial | refine And.intro ?_ ?_ | with_reducible rfl | (refine pIEq ?_; (first | omega | (simp only [lenS] at *; omega) | grind)) | (refine bufMap ?_) | (refine bufNil ?_) | (refine bufEq ?_) | rfl))
  · exact ⟨Nat.zero_le _, rfl⟩
  rintro ⟨c, nb, o⟩ ⟨hc, ho⟩
  have hol : o.length ≤ c := by rw [ho]; exact Nat.le_trans (comF_len _ _) (by rw [List.length_take]; omega)
  rcases Nat.lt_or_ge c g.pins.length with hlt | hge
  · have hs := comF_take (b := h.pins) hlt
    rw [← ho] at hs
    rcases Bool.eq_false_or_eq_true (h.pins.contains g.pins[c]) with hx | hx
    · rw [hx, if_pos rfl] at hs
      (conv => whnf); repeat' ((first | (apply IdxA.at_ (f := Grp.pv) h hb0 hh1) | apply CondA.plain | refine' go_pin6 | (apply DrawA.quiet (by kernel_rfl) (by kernel_rfl); (conv => whnf); fail_if_success (show False)) | ((refine CallA.scalar (Contains_call _ h.pins g.pins[c]) ?_; rw [hx]))) <;> (conv => whnf))
      (refine' ⟨(c + 1, false, o ++ [g.pins[c]]), _, _, _⟩; rotate_right; (refine SubA.auto rfl rfl rfl rfl ?_ ?_ <;> repeat' (first | exact trivial | refine And.intro ?_ ?_ | with_reducible rfl | (refine pIEq ?_; (first | omega | (simp only [lenS] at *; omega) | grind)) | (refine bufMap ?_) | (refine bufNil ?_) | (refine bufEq ?_) | rfl)); rotate_right; (first | omega | (simp only []; omega) | (simp; omega) | (first | omega | (simp only [lenS] at *; omega) | grind)))
      exact ⟨by omega, hs.symm⟩
    · rw [hx, if_neg (by simp), List.append_nil] at hs
      (conv => whnf); repeat' ((first | (apply IdxA.at_ (f := Grp.pv) h hb0 hh1) | apply CondA.plain | refine' go_pin6 | (apply DrawA.quiet (by kernel_rfl) (by kernel_rfl); (conv => whnf); fail_if_success (show False)) | ((refine CallA.scalar (Contains_call _ h.pins g.pins[c]) ?_; rw [hx]))) <;> (conv => whnf))
      (refine' ⟨(c + 1, nb, o), _, _, _⟩; rotate_right; (refine SubA.auto rfl rfl rfl rfl ?_ ?_ <;> repeat' (first | exact trivial | refine And.intro ?_ ?_ | with_reducible rfl | (refine pIEq ?_; (first | omega | (simp only [lenS] at *; omega) | grind)) | (refine bufMap ?_) | (refine bufNil ?_) | (refine bufEq ?_) | rfl)); rotate_right; (first | omega | (simp only []; omega) | (simp; omega) | (first | omega | (simp only [lenS] at *; omega) | grind)))
      exact ⟨by omega, hs.symm⟩
  · rw [List.take_of_length_le hge] at ho
    rw [← ho]
    (conv => whnf); repeat' ((first | apply CondA.plain | refine' go_pin6 | (apply DrawA.quiet (by kernel_rfl) (by kernel_rfl); (conv => whnf); fail_if_success (show False))) <;> (conv => whnf))
    (first | (apply RetK.r1; exact rfl; exact (fun _ => flat_ofB rfl)) | apply RetK.r1n | (apply RetK.r2; exact rfl; exact (fun _ => flat_ofB rfl)) | apply RetK.r2n | (apply RetK.r3; exact rfl; exact (fun _ => flat_ofB rfl)) | apply RetK.r3n) <;> rfl
end Go.Proofs.Ytcemickjholnaaa
