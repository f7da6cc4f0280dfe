/- Made pinouts that are bent. -/
import Derived.Test.YtnogpkaehiapfaapinI
namespace Go.Proofs.Ytnogpkaehiapfaa
set_option linter.unusedSimpArgs false
set_option linter.unusedVariables false
set_option linter.unnecessarySimpa false
open Go.Abs
set_option maxRecDepth 100000
def b5SC0 : Sc := (.one 4 (.take 5 (.one 6 (.take 7 (.take 8 .done)))))
def b5SC1 : Sc := (.one 6 (.take 7 (.take 8 .done)))
def b5SC2 : Sc := (.one 1 (.take 7 (.take 8 .done)))
def b5SC3 : Sc := (.take 5 (.two 1 6 b5SC1 b5SC2))
def b5Sc : Sc := (.take 0 (.take 2 (.take 3 (.two 1 4 b5SC0 b5SC3))))
def b8SC0 : Sc := (.one 3 (.take 4 (.one 5 (.one 6 (.one 7 (.take 8 (.one 9 .done)))))))
def b8SC1 : Sc := (.one 5 (.one 6 (.one 7 (.take 8 (.one 9 .done)))))
def b8SC2 : Sc := (.one 6 (.one 7 (.take 8 (.one 9 .done))))
def b8SC3 : Sc := (.one 1 (.one 7 (.take 8 (.one 9 .done))))
def b8SC4 : Sc := (.two 1 6 b8SC2 b8SC3)
def b8SC5 : Sc := (.take 4 (.two 1 5 b8SC1 b8SC4))
def b8Sc : Sc := (.take 0 (.take 2 (.two 1 3 b8SC0 b8SC5)))
def pickL : List Int := [-1, 0, 2, 64, 65]
def nameL : List ByteArray := [⟨#[]⟩, ⟨#[103, 97]⟩, ⟨#[71]⟩, ⟨#[97, 32, 98]⟩]
def funL : List ByteArray := [sUart, ⟨#[]⟩, ⟨#[88]⟩]
def BentK (nl : Bool) (ts : List Int) (r : AV) (H : AH) : Prop := ∃ (q : Pin) (i' : Nat), q.gs.length ≤ 25 ∧ i' ≤ ts.length ∧ r = .p q.pv ∧ H = src nl ts i'
/-- Kept for later: a goal of a walk's step. -/
theorem park_pinJ {P : Prop} (x : P) (_ : x = x) : P := x
/-- One step of a walk. -/
theorem go_pinJ {P : Prop} (h : P := by
  (first | ((first | apply LenA.map | apply NilA.map | apply NilA.mk); intro _) | ((first | apply NW.as | apply ValA.as); with_reducible assumption) | ((first | apply NW.i64 | apply NW.u32 | apply NW.u64 | apply NW.u8 | apply InA.nat | apply InA.map | apply AppA.snoc (f := pI) (a := _) rfl | apply AppA.one (f := pI) (a := _) rfl | apply AppA.snoc (f := pB) (a := _) rfl | apply AppA.one (f := pB) (a := _) rfl | apply AppA.snoc (f := pS) (a := _) rfl | apply AppA.one (f := pS) (a := _) rfl | apply AppA.snoc (f := Grp.pv) (a := _) rfl | apply AppA.one (f := Grp.pv) (a := _) rfl | (apply AppA.snoc (f := Grp.pv) (a := ⟨_, _, _, _, _⟩); dsimp only [Grp.pv]; exact rfl) | (apply AppA.one (f := Grp.pv) (a := ⟨_, _, _, _, _⟩); dsimp only [Grp.pv]; exact rfl) | apply AppA.map | apply AppA.nil | apply CutA.lo | apply CutA.hi); (first | omega | (simp only [lenS] at *; omega) | grind)) | ((first | (apply RemA.as; assumption) | apply RemA.self); (first | omega | (simp only [lenS] at *; omega) | grind)) | (apply ValA.as; assumption) | apply ValA.self | (apply NW.as; assumption) | (apply SzA.map; (intro _; rfl)) | with_reducible apply br_pt | with_reducible apply br_pf | with_reducible apply br_mt | with_reducible apply br_mf | apply Both.mk | ((first | apply br_T | apply br_F | apply br_mT | apply br_mF); assumption) | ((first | apply br_lss | apply br_leq | apply br_gtr | apply br_geq | apply br_dec | apply br_beq | apply br_bne | apply br_beqB | apply br_bneB | apply br_not | apply br_m | apply br_intro) <;> intro h0 <;> first | (exfalso; first | omega | exact tf h0 (by assumption) | exact tf (by assumption) h0 | exact h0 (by assumption) | exact h0 rfl | exact of_decide_eq_false h0 rfl) | skip) | refine ArrA.mk _ rfl rfl ?_ | (apply IdxA.lit; omega; exact rfl) | ((first | apply IdxA.of_nat | (apply IdxA.of_map; (first | omega | (simp only [lenS] at *; omega) | grind))); rotate_left; (first | omega | (simp only [lenS] at *; omega) | grind)) | apply AppC.own | apply CutO.part | apply IsL.set (f := pI) (a := _) rfl | apply IsL.rep (f := pI) (a := _) rfl | apply IsL.set (f := pB) (a := _) rfl | apply IsL.rep (f := pB) (a := _) rfl | apply IsL.set (f := pS) (a := _) rfl | apply IsL.rep (f := pS) (a := _) rfl | apply IsL.set (f := Grp.pv) (a := _) rfl | apply IsL.rep (f := Grp.pv) (a := _) rfl | (apply IsL.set (f := Grp.pv) (a := ⟨_, _, _, _, _⟩); dsimp only [Grp.pv]; exact rfl) | (apply IsL.rep (f := Grp.pv) (a := ⟨_, _, _, _, _⟩); dsimp only [Grp.pv]; exact rfl) | apply IsL.lit (f := pI) [] rfl | apply IsL.lit (f := pI) [_] rfl | apply IsL.lit (f := pB) [] rfl | apply IsL.lit (f := pB) [_] rfl | apply IsL.lit (f := pS) [] rfl | apply IsL.lit (f := pS) [_] rfl | apply IsL.lit (f := Grp.pv) [] rfl | apply IsL.lit (f := Grp.pv) [_] rfl | apply IsL.lit (f := Grp.pv) [] rfl | apply IsL.lit (f := Grp.pv) [⟨_, _, _, _, _⟩] rfl | (apply And.intro; (first | with_reducible rfl | (show (_ : AV) = _; rfl) | (first | omega | (simp only [lenS] at *; omega) | grind)))) <;> (solve_by_elim (newGoals := .nonDependentOnly) (symm := false) (exfalso := false) (transparency := .reducible) only [rfl, park_pinJ])) : P := h
set_option maxHeartbeats 16000000 in
theorem Bent_call (nl : Bool) (ts : List Int) (i : Nat) (h : i ≤ ts.length) (p : Pin) (hP : VP p) :
    ACall Try.prog 26 [.ptr 0 0, .p p.pv] (src nl ts i) (BentK nl ts) := by
  refine acall_enter Try.func26 rfl rfl tabOK rfl ?_
  have hp := hP.len
  rcases Nat.eq_zero_or_pos p.gs.length with hz | hz
  · have e : p.gs = [] := List.eq_nil_of_length_eq_zero hz
    (conv => whnf); repeat' ((first | (refine IsL.lit (f := pI) pickL rfl ?_) | apply CondA.plain | refine' go_pinJ | (apply DrawA.quiet (by kernel_rfl) (by kernel_rfl); (conv => whnf); fail_if_success (show False))) <;> (conv => whnf))
    refine CallA.loc [0] [4] rfl rfl ((Pick_call nl false ts i h pickL (by decide) (by decide)).mono ?_)
    rintro _ _ ⟨v, i2, hv, hi2, rfl, rfl⟩
    (conv => whnf); repeat' ((first | apply CondA.plain | refine' go_pinJ | (apply DrawA.quiet (by kernel_rfl) (by kernel_rfl); (conv => whnf); fail_if_success (show False))) <;> (conv => whnf))
    (refine RetK.frz _ _ _ [3] ?_; refine' RetK.auto (.p (⟨v, (p.gs.map Grp.pv).isEmpty && true, p.gs⟩ : Pin).pv) (src nl ts i2) rfl rfl rfl rfl _ _ _ <;> repeat' (first | exact trivial | refine And.intro ?_ ?_ | with_reducible rfl | (refine pIEq ?_; (first | omega | (simp only [lenS] at *; omega) | grind)) | (refine bufMap ?_) | (refine bufNil ?_) | (refine bufEq ?_) | rfl))
    exact ⟨⟨v, (p.gs.map Grp.pv).isEmpty && true, p.gs⟩, i2, by show p.gs.length ≤ 25; omega, hi2, rfl, rfl⟩
  · (conv => whnf); repeat' ((first | apply CondA.plain | refine' go_pinJ | (apply DrawA.quiet (by kernel_rfl) (by kernel_rfl); (conv => whnf); fail_if_success (show False))) <;> (conv => whnf))
    refine CallA.loc [0] [] rfl rfl ((N_call nl ts i h 4 (by omega)).mono ?_)
    rintro _ _ ⟨v, i2, hv0, hv1, hi2, rfl, rfl⟩
    rcases Decidable.em (v = 0) with hv | hv
    · (conv => whnf); repeat' ((first | (refine IsL.lit (f := pI) pickL rfl ?_) | apply CondA.plain | refine' go_pinJ | (apply DrawA.quiet (by kernel_rfl) (by kernel_rfl); (conv => whnf); fail_if_success (show False))) <;> (conv => whnf))
      refine CallA.loc [0] [4] rfl rfl ((Pick_call nl false ts i2 hi2 pickL (by decide) (by decide)).mono ?_)
      rintro _ _ ⟨v, i3, hv, hi3, rfl, rfl⟩
      (conv => whnf); repeat' ((first | apply CondA.plain | refine' go_pinJ | (apply DrawA.quiet (by kernel_rfl) (by kernel_rfl); (conv => whnf); fail_if_success (show False))) <;> (conv => whnf))
      (refine RetK.frz _ _ _ [3] ?_; refine' RetK.auto (.p (⟨v, (p.gs.map Grp.pv).isEmpty && true, p.gs⟩ : Pin).pv) (src nl ts i3) rfl rfl rfl rfl _ _ _ <;> repeat' (first | exact trivial | refine And.intro ?_ ?_ | with_reducible rfl | (refine pIEq ?_; (first | omega | (simp only [lenS] at *; omega) | grind)) | (refine bufMap ?_) | (refine bufNil ?_) | (refine bufEq ?_) | rfl))
      exact ⟨⟨v, (p.gs.map Grp.pv).isEmpty && true, p.gs⟩, i3, by show p.gs.length ≤ 25; omega, hi3, rfl, rfl⟩
    · (conv => whnf); repeat' ((first | apply CondA.plain | refine' go_pinJ | fail) <;> (conv => whnf))
      refine DrawA.meet (fun (⟨z, nb, i⟩ : Nat × Bool × Nat) => ⟨[(0, .ptr 0 0), (3, .ptr 1 0), (4, .ptr 2 0), (5, .bptr 3 z 0)], src nl ts i ++ [some (.cells [.p (pI p.n), .buf 3]), some (.cells [.p (pI 0), .p (.list true [])]), some (AO.buf 43 nb (p.gs.map Grp.pv))]⟩) (fun (⟨z, nb, i⟩ : Nat × Bool × Nat) => z < p.gs.length ∧ i ≤ ts.length) (DrawB.orders b5Sc (by kernel_rfl) (by kernel_rfl) (by kernel_rfl) ?_) ?_
      · (conv => whnf); repeat' ((first | apply CondA.plain | refine' go_pinJ | fail) <;> (conv => whnf))
        all_goals
          refine CallA.loc [0] [] rfl rfl ((N_call nl ts i2 hi2 _ (by omega)).mono ?_)
          rintro _ _ ⟨z, i3, hz0, hz1, hi3, rfl, rfl⟩
          obtain ⟨z, rfl⟩ : ∃ y : Nat, z = y := ⟨z.toNat, by omega⟩
          have hzl : z < p.gs.length := by omega
          (conv => whnf); repeat' ((first | apply CondA.plain | refine' go_pinJ | fail) <;> (conv => whnf))
          (refine' ⟨(z, (p.gs.map Grp.pv).isEmpty && true, i3), _, _⟩; rotate_right; (refine SubA.auto rfl rfl rfl rfl ?_ ?_ <;> repeat' (first | exact trivial | refine And.intro ?_ ?_ | with_reducible rfl | (refine pIEq ?_; (first | omega | (simp only [lenS] at *; omega) | grind)) | (refine bufMap ?_) | (refine bufNil ?_) | (refine bufEq ?_) | rfl)); rotate_right; (first | omega | (simp only []; omega) | (simp; omega) | (first | omega | (simp only [lenS] at *; omega) | grind)))
          all_goals exact ⟨hzl, hi3⟩
      clear h hi2 hv hv0 hv1
      rintro ⟨z, nb, i⟩ ⟨hzl, hi⟩
      obtain ⟨g, hg⟩ : ∃ g, p.gs[z] = g := ⟨_, rfl⟩
      have hg1 : p.gs[((z : Nat) : Int).toNat]? = some g := by rw [Int.toNat_natCast, List.getElem?_eq_getElem hzl, hg]
      (conv => whnf); repeat' ((first | apply CondA.plain | refine' go_pinJ | fail) <;> (conv => whnf))
      refine CallA.loc [0] [] rfl rfl ((N_call nl ts i hi 6 (by omega)).mono ?_)
      rintro _ _ ⟨v, i3, hv0, hv1, hi3, rfl, rfl⟩
      have hgo := hP.ok g (by rw [← hg]; exact List.getElem_mem _)
      have hgl := hgo.plen
      have hgf := hgo.f8
      have hn := hP.n
      rcases (show v = 0 ∨ v = 1 ∨ v = 2 ∨ v = 3 ∨ v = 4 ∨ v = 5 by omega) with rfl | rfl | rfl | rfl | rfl | rfl
      · (conv => whnf); repeat' ((first | (refine IsL.lit (f := pS) nameL rfl ?_) | apply CondA.plain | refine' go_pinJ | fail) <;> (conv => whnf))
        refine CallA.loc [0] [4] rfl rfl ((Text_call nl false ts i3 hi3 nameL (by decide) (by decide)).mono ?_)
        rintro _ _ ⟨s, i4, hs, hi4, rfl, rfl⟩
        (conv => whnf); repeat' ((first | (apply IdxA.at_ (f := Grp.pv) g (Int.natCast_nonneg z) hg1) | (refine IsL.set (f := Grp.pv) (a := (⟨s, g.pn, g.pins, g.fn, g.funs⟩ : Grp)) rfl ?_) | apply CondA.plain | refine' go_pinJ | fail) <;> (conv => whnf))
        (refine RetK.frz _ _ _ [3] ?_; refine' RetK.auto (.p (⟨p.n, nb, p.gs.set z (⟨s, g.pn, g.pins, g.fn, g.funs⟩ : Grp)⟩ : Pin).pv) (src nl ts i4) rfl rfl rfl rfl _ _ _ <;> repeat' (first | exact trivial | refine And.intro ?_ ?_ | with_reducible rfl | (refine pIEq ?_; (first | omega | (simp only [lenS] at *; omega) | grind)) | (refine bufMap ?_) | (refine bufNil ?_) | (refine bufEq ?_) | rfl))
        exact ⟨⟨p.n, nb, p.gs.set z (⟨s, g.pn, g.pins, g.fn, g.funs⟩ : Grp)⟩, i4, by show (p.gs.set z _).length ≤ 25; rw [List.length_set]; omega, hi4, rfl, rfl⟩
      · (conv => whnf); repeat' ((first | (apply IdxA.at_ (f := Grp.pv) g (Int.natCast_nonneg z) hg1) | apply CondA.plain | refine' go_pinJ | fail) <;> (conv => whnf))
        refine CallA.loc [0] [] rfl rfl ((N_call nl ts i3 hi3 10 (by omega)).mono ?_)
        rintro _ _ ⟨y, i4, _, _, hi4, rfl, rfl⟩
        (conv => whnf); repeat' ((first | (apply IdxA.at_ (f := Grp.pv) g (Int.natCast_nonneg z) hg1) | (refine IsL.set (f := Grp.pv) (a := (⟨g.name, false, g.pins ++ [y], g.fn, g.funs⟩ : Grp)) rfl ?_) | apply CondA.plain | refine' go_pinJ | fail) <;> (conv => whnf))
        (refine RetK.frz _ _ _ [3] ?_; refine' RetK.auto (.p (⟨p.n, nb, p.gs.set z (⟨g.name, false, g.pins ++ [y], g.fn, g.funs⟩ : Grp)⟩ : Pin).pv) (src nl ts i4) rfl rfl rfl rfl _ _ _ <;> repeat' (first | exact trivial | refine And.intro ?_ ?_ | with_reducible rfl | (refine pIEq ?_; (first | omega | (simp only [lenS] at *; omega) | grind)) | (refine bufMap ?_) | (refine bufNil ?_) | (refine bufEq ?_) | rfl))
        exact ⟨⟨p.n, nb, p.gs.set z (⟨g.name, false, g.pins ++ [y], g.fn, g.funs⟩ : Grp)⟩, i4, by show (p.gs.set z _).length ≤ 25; rw [List.length_set]; omega, hi4, rfl, rfl⟩
      · (conv => whnf); repeat' ((first | (apply IdxA.at_ (f := Grp.pv) g (Int.natCast_nonneg z) hg1) | (refine IsL.set (f := Grp.pv) (a := (⟨g.name, true, [], g.fn, g.funs⟩ : Grp)) rfl ?_) | apply CondA.plain | refine' go_pinJ | fail) <;> (conv => whnf))
        (refine RetK.frz _ _ _ [3] ?_; refine' RetK.auto (.p (⟨p.n, nb, p.gs.set z (⟨g.name, true, [], g.fn, g.funs⟩ : Grp)⟩ : Pin).pv) (src nl ts i3) rfl rfl rfl rfl _ _ _ <;> repeat' (first | exact trivial | refine And.intro ?_ ?_ | with_reducible rfl | (refine pIEq ?_; (first | omega | (simp only [lenS] at *; omega) | grind)) | (refine bufMap ?_) | (refine bufNil ?_) | (refine bufEq ?_) | rfl))
        exact ⟨⟨p.n, nb, p.gs.set z (⟨g.name, true, [], g.fn, g.funs⟩ : Grp)⟩, i3, by show (p.gs.set z _).length ≤ 25; rw [List.length_set]; omega, hi3, rfl, rfl⟩
      · (conv => whnf); repeat' ((first | (refine IsL.lit (f := pS) funL rfl ?_) | (apply IdxA.at_ (f := Grp.pv) g (Int.natCast_nonneg z) hg1) | apply CondA.plain | refine' go_pinJ | fail) <;> (conv => whnf))
        refine CallA.loc [0] [5] rfl rfl ((Text_call nl false ts i3 hi3 funL (by decide) (by decide)).mono ?_)
        rintro _ _ ⟨s, i4, hs, hi4, rfl, rfl⟩
        (conv => whnf); repeat' ((first | (apply IdxA.at_ (f := Grp.pv) g (Int.natCast_nonneg z) hg1) | (refine IsL.set (f := Grp.pv) (a := (⟨g.name, g.pn, g.pins, false, g.funs ++ [s]⟩ : Grp)) rfl ?_) | apply CondA.plain | refine' go_pinJ | fail) <;> (conv => whnf))
        (refine RetK.frz _ _ _ [3] ?_; refine' RetK.auto (.p (⟨p.n, nb, p.gs.set z (⟨g.name, g.pn, g.pins, false, g.funs ++ [s]⟩ : Grp)⟩ : Pin).pv) (src nl ts i4) rfl rfl rfl rfl _ _ _ <;> repeat' (first | exact trivial | refine And.intro ?_ ?_ | with_reducible rfl | (refine pIEq ?_; (first | omega | (simp only [lenS] at *; omega) | grind)) | (refine bufMap ?_) | (refine bufNil ?_) | (refine bufEq ?_) | rfl))
        exact ⟨⟨p.n, nb, p.gs.set z (⟨g.name, g.pn, g.pins, false, g.funs ++ [s]⟩ : Grp)⟩, i4, by show (p.gs.set z _).length ≤ 25; rw [List.length_set]; omega, hi4, rfl, rfl⟩
      · (conv => whnf); repeat' ((first | (apply IdxA.at_ (f := Grp.pv) g (Int.natCast_nonneg z) hg1) | (refine IsL.set (f := Grp.pv) (a := (⟨g.name, g.pn, g.pins, true, []⟩ : Grp)) rfl ?_) | apply CondA.plain | refine' go_pinJ | fail) <;> (conv => whnf))
        (refine RetK.frz _ _ _ [3] ?_; refine' RetK.auto (.p (⟨p.n, nb, p.gs.set z (⟨g.name, g.pn, g.pins, true, []⟩ : Grp)⟩ : Pin).pv) (src nl ts i3) rfl rfl rfl rfl _ _ _ <;> repeat' (first | exact trivial | refine And.intro ?_ ?_ | with_reducible rfl | (refine pIEq ?_; (first | omega | (simp only [lenS] at *; omega) | grind)) | (refine bufMap ?_) | (refine bufNil ?_) | (refine bufEq ?_) | rfl))
        exact ⟨⟨p.n, nb, p.gs.set z (⟨g.name, g.pn, g.pins, true, []⟩ : Grp)⟩, i3, by show (p.gs.set z _).length ≤ 25; rw [List.length_set]; omega, hi3, rfl, rfl⟩
      · (conv => whnf); repeat' ((first | apply CondA.plain | refine' go_pinJ | fail) <;> (conv => whnf))
        refine loop_rule (fun (⟨k, nb, gs⟩ : Nat × Bool × List Grp) => ⟨[(3, .ptr 1 0), (4, .ptr 2 0)], src nl ts i3 ++ [some (.cells [.p (pI p.n), .buf 3]), some (.cells [.p (pI 0), .p (.list true [])]), some (AO.buf 43 nb (gs.map Grp.pv))]⟩) (fun (⟨k, nb, gs⟩ : Nat × Bool × List Grp) => 0 < gs.length ∧ gs.length + k = 25) (fun (⟨k, nb, gs⟩ : Nat × Bool × List Grp) => k) (25 - p.gs.length, nb, p.gs) ?_ ?_ ?_; (refine SubA.auto rfl rfl rfl rfl ?_ ?_ <;> repeat' (first | exact trivial | refine And.intro ?_ ?_ | with_reducible rfl | (refine pIEq ?_; (first | omega | (simp only [lenS] at *; omega) | grind)) | (refine bufMap ?_) | (refine bufNil ?_) | (refine bufEq ?_) | rfl))
        · exact ⟨hz, by show p.gs.length + (25 - p.gs.length) = 25; omega⟩
        rintro ⟨k, nb, gs⟩ ⟨hg0, hgk⟩
        rcases Nat.eq_zero_or_pos k with hk | hk
        · (conv => whnf); repeat' ((first | apply CondA.plain | refine' go_pinJ | fail) <;> (conv => whnf))
          (refine RetK.frz _ _ _ [3] ?_; refine' RetK.auto (.p (⟨p.n, nb, gs⟩ : Pin).pv) (src nl ts i3) rfl rfl rfl rfl _ _ _ <;> repeat' (first | exact trivial | refine And.intro ?_ ?_ | with_reducible rfl | (refine pIEq ?_; (first | omega | (simp only [lenS] at *; omega) | grind)) | (refine bufMap ?_) | (refine bufNil ?_) | (refine bufEq ?_) | rfl))
          exact ⟨⟨p.n, nb, gs⟩, i3, by show gs.length ≤ 25; omega, hi3, rfl, rfl⟩
        · obtain ⟨f, hf⟩ : ∃ f, gs[0] = f := ⟨_, rfl⟩
          have hf1 : gs[(0 : Int).toNat]? = some f := by
            show gs[0]? = _
            rw [List.getElem?_eq_getElem hg0, hf]
          obtain ⟨gn, gpn, gps, gfn, gfs⟩ := f
          (conv => whnf); repeat' ((first | (apply IdxA.at_ (f := Grp.pv) ⟨gn, gpn, gps, gfn, gfs⟩ (Int.le_refl 0) hf1) | apply CondA.plain | refine' go_pinJ | (apply DrawA.orders b8Sc (by kernel_rfl) (by kernel_rfl) (by kernel_rfl))) <;> (conv => whnf))
          all_goals
            (refine' ⟨(k - 1, false, gs ++ [⟨gn, gpn, gps, gfn, gfs⟩]), _, _, _⟩; rotate_right; (refine SubA.auto rfl rfl rfl rfl ?_ ?_ <;> repeat' (first | exact trivial | refine And.intro ?_ ?_ | with_reducible rfl | (refine pIEq ?_; (first | omega | (simp only [lenS] at *; omega) | grind)) | (refine bufMap ?_) | (refine bufNil ?_) | (refine bufEq ?_) | rfl)); rotate_right; (first | omega | (simp only []; omega) | (simp; omega) | (first | omega | (simp only [lenS] at *; omega) | grind)))
            exact ⟨by rw [List.length_append]; omega, by rw [List.length_append]; show gs.length + 1 + (k - 1) = 25; omega⟩
end Go.Proofs.Ytnogpkaehiapfaa
