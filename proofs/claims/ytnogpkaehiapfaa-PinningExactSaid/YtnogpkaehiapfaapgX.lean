/- PinningExact. -/
import Derived.Test.YtnogpkaehiapfaapgO
import Derived.Test.YtnogpkaehiapfaapgP
import Derived.Test.YtnogpkaehiapfaapgS
import Derived.Test.YtnogpkaehiapfaapinJ
namespace Go.Proofs.Ytnogpkaehiapfaa
set_option linter.unusedSimpArgs false
set_option linter.unusedVariables false
set_option linter.unnecessarySimpa false
open Go.Abs
set_option maxRecDepth 100000
def fSL (k : Bool × List ByteArray) : PV := .list k.1 (k.2.map pS)
theorem pins_cells (ps : List Pin) : ∀ z ∈ ps.map Pin.pv, z.cells.length = 2 := by
  intro z hz
  obtain ⟨y, _, rfl⟩ := List.mem_map.1 hz
  rfl
/-- Kept for later: a goal of a walk's step. -/
theorem park_pgX {P : Prop} (x : P) (_ : x = x) : P := x
/-- One step of a walk. -/
theorem go_pgX {P : Prop} (h : P := by
  (first | ((first | apply LenA.map | apply NilA.map | apply NilA.mk); intro _) | ((first | apply NW.as | apply ValA.as); with_reducible assumption) | ((first | apply NW.i64 | apply NW.u32 | apply NW.u64 | apply NW.u8 | apply InA.nat | apply InA.map | apply AppA.snoc (f := pI) (a := _) rfl | apply AppA.one (f := pI) (a := _) rfl | apply AppA.snoc (f := pB) (a := _) rfl | apply AppA.one (f := pB) (a := _) rfl | apply AppA.snoc (f := pS) (a := _) rfl | apply AppA.one (f := pS) (a := _) rfl | apply AppA.map | apply AppA.nil | apply CutA.lo | apply CutA.hi); (first | omega | (simp only [lenS] at *; omega) | grind)) | ((first | (apply RemA.as; assumption) | apply RemA.self); (first | omega | (simp only [lenS] at *; omega) | grind)) | (apply ValA.as; assumption) | apply ValA.self | (apply NW.as; assumption) | (apply SzA.map; (intro _; rfl)) | with_reducible apply br_pt | with_reducible apply br_pf | with_reducible apply br_mt | with_reducible apply br_mf | apply Both.mk | ((first | apply br_T | apply br_F | apply br_mT | apply br_mF); assumption) | ((first | apply br_lss | apply br_leq | apply br_gtr | apply br_geq | apply br_dec | apply br_beq | apply br_bne | apply br_beqB | apply br_bneB | apply br_not | apply br_m | apply br_intro) <;> intro h0 <;> first | (exfalso; first | omega | exact tf h0 (by assumption) | exact tf (by assumption) h0 | exact h0 (by assumption) | exact h0 rfl | exact of_decide_eq_false h0 rfl) | skip) | refine ArrA.mk _ rfl rfl ?_ | (apply IdxA.lit; omega; exact rfl) | ((first | apply IdxA.of_nat | (apply IdxA.of_map; (first | omega | (simp only [lenS] at *; omega) | grind))); rotate_left; (first | omega | (simp only [lenS] at *; omega) | grind)) | apply AppC.own | apply CutO.part | apply IsL.set (f := pI) (a := _) rfl | apply IsL.rep (f := pI) (a := _) rfl | apply IsL.set (f := pB) (a := _) rfl | apply IsL.rep (f := pB) (a := _) rfl | apply IsL.set (f := pS) (a := _) rfl | apply IsL.rep (f := pS) (a := _) rfl | apply IsL.lit (f := pI) [] rfl | apply IsL.lit (f := pB) [] rfl | apply IsL.lit (f := pS) [] rfl | (apply And.intro; (first | with_reducible rfl | (show (_ : AV) = _; rfl) | (first | omega | (simp only [lenS] at *; omega) | grind)))) <;> (solve_by_elim (newGoals := .nonDependentOnly) (symm := false) (exfalso := false) (transparency := .reducible) only [rfl, park_pgX])) : P := h
theorem rOptions_call (p : Pin) (f : ByteArray) : ACall Try.prog 28 [.p p.pv, .p (pS f)] [] fun r H => (∃ n, r = .p (.list n ((offersF p f).map pI))) ∧ H = [] := by
  refine acall_enter Try.func28 rfl rfl tabOK rfl ?_
  (conv => whnf); repeat' ((first | apply CondA.plain | refine' go_pgX | (apply DrawA.quiet (by kernel_rfl) (by kernel_rfl); (conv => whnf); fail_if_success (show False)) | (refine CallA.fresh _ (rOffers_call p f) ?_; rintro _ ⟨nl0, rfl⟩)) <;> (conv => whnf))
  (refine' RetK.auto (.p (.list nl0 ((offersF p f).map pI))) ([]) rfl rfl rfl rfl _ _ _ <;> repeat' (first | exact trivial | refine And.intro ?_ ?_ | with_reducible rfl | (refine pIEq ?_; (first | omega | (simp only [lenS] at *; omega) | grind)) | (refine bufMap ?_) | (refine bufNil ?_) | (refine bufEq ?_) | rfl))
  exact ⟨nl0, rfl⟩
theorem ref_check {p : Pin} {l : List ByteArray} {given : List Int} (h : (refF p l given).2 = 0) : checkF p l given (refF p l given).1 = true := by
  rcases Decidable.em (badF p l given = 0) with hb | hb
  rotate_left
  · rw [refF, if_pos hb] at h
    exact absurd h hb
  obtain ⟨hR, hfit⟩ := badF_ok hb
  have hgl := (fits_iff.1 hfit).len
  have hol := opts_len p l
  have e : refF p l given = if (srch p.gs ((optsL p l).drop given.length) given).isSome then ([], 7) else if (writeF p.gs ((optsL p l).drop given.length) given given.length).length ≤ 4000 then (writeF p.gs ((optsL p l).drop given.length) given given.length, 0) else ([], 3) := by rw [refF, if_neg (by rw [hb]; simp)]
  rw [e] at h ⊢
  cases hS : srch p.gs ((optsL p l).drop given.length) given with
  | some x => rw [hS] at h; cases h
  | none =>
    rw [hS] at h
    have hlt : given.length < (optsL p l).length := by
      refine Nat.lt_of_not_le fun h => ?_
      rw [List.drop_of_length_le h] at hS
      cases hS
    have hrw := read_write (gs := p.gs) (opts := optsL p l) ((optsL p l).length - given.length) given.length l.length given [] (by omega) hS (by omega)
    rw [List.append_nil, hol] at hrw
    have hw0 : (writeF p.gs ((optsL p l).drop given.length) given given.length).length ≠ 0 := by
      rw [List.drop_eq_getElem_cons hlt, writeF]; simp
    obtain ⟨W, hW⟩ : ∃ W, writeF p.gs ((optsL p l).drop given.length) given given.length = W := ⟨_, rfl⟩
    rw [hW] at h hrw hw0 ⊢
    rw [if_neg (by simp)] at h ⊢
    split at h
    · rename_i hle
      rw [if_pos hle]
      unfold checkF
      show (decide (badF p l given = 0) && decide (W.length ≠ 0) && decide (W.length ≤ 4000) && decide (readF p.gs (optsL p l) l.length (hasL l.length given.length) given W = some [])) = true
      rw [hb, hrw, decide_eq_true rfl, decide_eq_true hw0, decide_eq_true hle, decide_eq_true rfl]; rfl
    · cases h
theorem asg_len {p : Pin} {l : List ByteArray} {given : List Int} : (asgF p l given).1.length ≤ 10 := by
  unfold asgF
  split
  · exact Nat.zero_le _
  · rename_i hb
    have hb : badF p l given = 0 := Classical.byContradiction hb
    obtain ⟨hR, hfit⟩ := badF_ok hb
    cases hS : srch p.gs ((optsL p l).drop given.length) given with
    | none => exact Nat.zero_le _
    | some x =>
      have := (fit_all hfit hS).1
      rw [opts_len] at this
      have := hR.2.1
      show (given ++ x).length ≤ 10
      omega
theorem rAssign_to {p : Pin} {l : List ByteArray} {g x : List Int} {e : Int} (h : asgF p l g = (x, e)) (nl gn : Bool) : ACall Try.prog 16 [.p p.pv, .p (.list nl (l.map pS)), .p (.list gn (g.map pI))] [] (F2 x e) := by
  have := rAssign_call p nl gn l g
  rwa [h] at this
theorem Refute_to {p : Pin} {l : List ByteArray} {g x : List Int} {e : Int} (h : refF p l g = (x, e)) (nl gn : Bool) : ACall Try.prog 20 [.p p.pv, .p (.list nl (l.map pS)), .p (.list gn (g.map pI))] [] (F2 x e) := by
  have := Refute_call p nl gn l g
  rwa [h] at this
theorem rRefute_to {p : Pin} {l : List ByteArray} {g x : List Int} {e : Int} (h : refF p l g = (x, e)) (nl gn : Bool) : ACall Try.prog 13 [.p p.pv, .p (.list nl (l.map pS)), .p (.list gn (g.map pI))] [] (F2 x e) := by
  have := rRefute_call p nl gn l g
  rwa [h] at this
theorem Size_to {p : Pin} {l : List ByteArray} {g : List Int} {n e : Int} (h : sizeF p l g = (n, e)) (nl gn : Bool) : ACall Try.prog 21 [.p p.pv, .p (.list nl (l.map pS)), .p (.list gn (g.map pI))] [] fun r H => r = .tup [.p (pI n), .p (pI e)] ∧ H = [] := by
  have := Size_call p nl gn l g
  rwa [h] at this
theorem rSize_to {p : Pin} {l : List ByteArray} {g : List Int} {n e : Int} (h : sizeF p l g = (n, e)) (nl gn : Bool) : ACall Try.prog 30 [.p p.pv, .p (.list nl (l.map pS)), .p (.list gn (g.map pI))] [] fun r H => r = .tup [.p (pI n), .p (pI e)] ∧ H = [] := by
  have := rSize_call p nl gn l g
  rwa [h] at this
theorem Core_to {p : Pin} {l : List ByteArray} {x : List Int} {e : Int} (h : coreF p l = (x, e)) (nl : Bool) : ACall Try.prog 22 [.p p.pv, .p (.list nl (l.map pS))] [] (F2 x e) := by
  have := Core_call p nl l
  rwa [h] at this
theorem rCore_to {p : Pin} {l : List ByteArray} {x : List Int} {e : Int} (h : coreF p l = (x, e)) (nl : Bool) : ACall Try.prog 33 [.p p.pv, .p (.list nl (l.map pS))] [] (F2 x e) := by
  have := rCore_call p nl l
  rwa [h] at this
theorem Most_to {p : Pin} {l : List ByteArray} {x : List Int} {e : Int} (h : mostF p l = (x, e)) (nl : Bool) : ACall Try.prog 23 [.p p.pv, .p (.list nl (l.map pS))] [] (F2 x e) := by
  have := Most_call p nl l
  rwa [h] at this
theorem rMost_to {p : Pin} {l : List ByteArray} {x : List Int} {e : Int} (h : mostF p l = (x, e)) (nl : Bool) : ACall Try.prog 34 [.p p.pv, .p (.list nl (l.map pS))] [] (F2 x e) := by
  have := rMost_call p nl l
  rwa [h] at this
def X5Sc : Sc := (.frz 0 (.take 1 (.frz 2 (.frz 4 (.take 6 (.one 3 (.take 5 .done)))))))
def X9Sc : Sc := (.frz 0 (.take 1 (.frz 3 (.take 4 (.one 2 (.one 5 (.one 6 (.take 7 .done))))))))
def X24Sc : Sc := (.take 0 (.take 1 (.one 2 (.take 3 (.take 4 (.take 5 (.take 6 (.take 7 (.take 8 (.take 9 (.take 10 (.take 11 (.take 12 (.take 13 (.take 14 (.take 15 (.take 16 (.take 17 (.take 18 (.take 19 (.frz 20 (.take 21 (.take 22 (.frz 24 (.take 25 (.take 26 (.one 23 (.one 27 (.take 28 (.take 29 .done))))))))))))))))))))))))))))))
def X28Sc : Sc := (.take 0 (.take 1 (.take 2 (.frz 3 (.take 4 (.take 5 (.take 6 (.one 7 (.take 8 (.take 9 (.take 10 (.frz 11 (.take 12 (.take 13 (.take 14 (.frz 16 (.take 17 (.take 18 (.take 19 (.one 15 (.one 20 (.take 21 (.take 22 (.take 23 (.frz 24 (.take 25 (.take 26 (.take 27 (.frz 29 (.take 30 (.take 31 (.take 32 (.one 28 (.one 33 (.take 34 (.take 35 .done))))))))))))))))))))))))))))))))))))
set_option maxHeartbeats 32000000 in
theorem PinningExact_call (nl no ng np : Bool) (ts : List Int) (raw : Pin) (odd : List ByteArray) (given proof : List Int) (name : ByteArray) :
    ACall Try.prog 8 [.p (.list nl (ts.map pI)), .p raw.pv, .p (.list no (odd.map pS)), .p (.list ng (given.map pI)), .p (.list np (proof.map pI)), .p (pS name)] [] fun r H => r = .p (pB true) := by
  refine acall_enter Try.func8 rfl rfl tabOK rfl ?_
  (conv => whnf); repeat' ((first | apply CondA.plain | refine' go_pgX | (apply DrawA.quiet (by kernel_rfl) (by kernel_rfl); (conv => whnf); fail_if_success (show False)) | (refine CallA.scalar (sane23_call) ?_)) <;> (conv => whnf))
  iterate 5
    · (refine RetK.p ?_ <;> repeat' (first | exact trivial | refine And.intro ?_ ?_ | with_reducible rfl | (refine pIEq ?_; (first | omega | (simp only [lenS] at *; omega) | grind)) | (refine bufMap ?_) | (refine bufNil ?_) | (refine bufEq ?_) | rfl); all_goals try first | refine pBEq ?_ | refine pIEq ?_)
  refine CallA.loc [] [] rfl rfl ((New_call nl ts).mono ?_)
  rintro r H ⟨ts', rfl, rfl⟩
  (conv => whnf); repeat' ((first | apply CondA.plain | refine' go_pgX | (apply DrawA.quiet (by kernel_rfl) (by kernel_rfl); (conv => whnf); fail_if_success (show False))) <;> (conv => whnf))
  refine CallA.loc [1] [] rfl rfl ((Pinout_call nl ts' 0 (Nat.zero_le _)).mono ?_)
  rintro _ _ ⟨p, i, hp, hi, rfl, rfl⟩
  have hv := hp.valid
  (conv => whnf); repeat' ((first | apply CondA.plain | refine' go_pgX | fail) <;> (conv => whnf))
  refine DrawA.retire 14 2 [pI p.n, .list p.nl (p.gs.map Grp.pv)] rfl rfl ?_
  refine DrawA.retire 7 0 [pI raw.n, .list raw.nl (raw.gs.map Grp.pv)] rfl rfl ?_
  apply DrawA.orders X5Sc (by kernel_rfl) (by kernel_rfl) (by kernel_rfl)
  (conv => whnf); repeat' ((first | apply CondA.plain | refine' go_pgX | fail) <;> (conv => whnf))
  refine CallA.loc [1] [] rfl rfl ((Bent_call nl ts' i hi p hv).mono ?_)
  rintro _ _ ⟨q, i2, hq, hi2, rfl, rfl⟩
  obtain ⟨ps, hps⟩ : ∃ ps : List Pin, ps = [p, q, raw] := ⟨_, rfl⟩
  have hpl : ps.length = 3 := by rw [hps]; rfl
  have hpc := pins_cells ps
  (conv => whnf); repeat' ((first | apply CondA.plain | refine' go_pgX | fail) <;> (conv => whnf))
  refine loop_rule (fun (⟨c, i⟩ : Nat × Nat) => ⟨[(2, .p (.list no (odd.map pS))), (3, .p (.list ng (given.map pI))), (4, .p (.list np (proof.map pI))), (5, .p (pS name)), (13, .ptr 0 0), (77, .p (.agg (flat (ps.map Pin.pv)))), (78, .p (pI c))], src nl ts' i⟩) (fun (⟨c, i⟩ : Nat × Nat) => c ≤ 3 ∧ i ≤ ts'.length) (fun (⟨c, i⟩ : Nat × Nat) => 3 - c) (0, i2) ?_ ?_ ?_; (refine SubA.auto rfl rfl rfl rfl ?_ ?_ <;> repeat' (first | exact trivial | refine And.intro ?_ ?_ | with_reducible rfl | (refine pIEq ?_; (first | omega | (simp only [lenS] at *; omega) | grind)) | (refine bufMap ?_) | (refine bufNil ?_) | (refine bufEq ?_) | rfl))
  · rw [hps]; rfl
  · exact ⟨Nat.zero_le _, hi2⟩
  clear hi hi2 hps hq hp hv
  rintro ⟨c, i⟩ ⟨hc, hi⟩
  rcases Nat.lt_or_ge c 3 with hlt | hge
  rotate_left
  · (conv => whnf); repeat' ((first | apply CondA.plain | refine' go_pgX | (refine CallA.scalar (sane23_call) ?_)) <;> (conv => whnf))
    (refine RetK.p ?_ <;> repeat' (first | exact trivial | refine And.intro ?_ ?_ | with_reducible rfl | (refine pIEq ?_; (first | omega | (simp only [lenS] at *; omega) | grind)) | (refine bufMap ?_) | (refine bufNil ?_) | (refine bufEq ?_) | rfl); all_goals try first | refine pBEq ?_ | refine pIEq ?_)
  obtain ⟨x, hx⟩ : ∃ x, ps[c]? = some x := ⟨_, List.getElem?_eq_getElem (by omega)⟩
  have hx2 : (ps.map Pin.pv)[(c : Int).toNat]? = some x.pv := by rw [Int.toNat_natCast, List.getElem?_map, hx]; rfl
  rcases Nat.lt_or_ge 12 x.gs.length with hbig | hsm
  · (conv => whnf); repeat' ((first | (apply ArrA.flat x.pv hpc hx2) | apply CondA.plain | refine' go_pgX | fail) <;> (conv => whnf))
    (refine' ⟨(c + 1, i), _, _, _⟩; rotate_right; (refine SubA.auto rfl rfl rfl rfl ?_ ?_ <;> repeat' (first | exact trivial | refine And.intro ?_ ?_ | with_reducible rfl | (refine pIEq ?_; (first | omega | (simp only [lenS] at *; omega) | grind)) | (refine bufMap ?_) | (refine bufNil ?_) | (refine bufEq ?_) | rfl)); rotate_right; (first | omega | (simp only []; omega) | (simp; omega) | (first | omega | (simp only [lenS] at *; omega) | grind)))
    exact ⟨by omega, hi⟩
  (conv => whnf); repeat' ((first | (apply ArrA.flat x.pv hpc hx2) | apply CondA.plain | refine' go_pgX | fail) <;> (conv => whnf))
  refine DrawA.retire 16 1 [pI x.n, .list x.nl (x.gs.map Grp.pv)] rfl rfl ?_
  apply DrawA.orders X9Sc (by kernel_rfl) (by kernel_rfl) (by kernel_rfl)
  (conv => whnf); repeat' ((first | apply CondA.plain | refine' go_pgX | ((refine CallA.loc [] [] rfl rfl ((Options_call x name).mono ?_); rintro _ _ ⟨⟨n1, rfl⟩, rfl⟩)) | ((refine CallA.loc [] [] rfl rfl ((rOptions_call x name).mono ?_); rintro _ _ ⟨⟨n2, rfl⟩, rfl⟩)) | ((refine CallA.scalar (Ints_call _ _ _ _) ?_; rw [decide_eq_true rfl]))) <;> (conv => whnf))
  refine CallA.loc [0] [] rfl rfl ((Demands_call nl ts' i hi 5 (by omega)).mono ?_)
  rintro _ _ ⟨dl, nb, i3, hdl, hdw, hi3, rfl, rfl⟩
  obtain ⟨lz, hlz⟩ : ∃ lz : List (Bool × List ByteArray), lz = [(nb, dl), (no, odd)] := ⟨_, rfl⟩
  have hlzl : lz.length = 2 := by rw [hlz]; rfl
  (conv => whnf); repeat' ((first | apply CondA.plain | refine' go_pgX | fail) <;> (conv => whnf))
  refine loop_rule (fun (⟨d, i⟩ : Nat × Nat) => ⟨[(2, .p (.list no (odd.map pS))), (3, .p (.list ng (given.map pI))), (4, .p (.list np (proof.map pI))), (5, .p (pS name)), (13, .ptr 0 0), (77, .p (.agg (flat (ps.map Pin.pv)))), (78, .p (pI c)), (16, .rptr [pI x.n, .list x.nl (x.gs.map Grp.pv)]), (96, .p (.agg (lz.map fSL))), (97, .p (pI d))], src nl ts' i⟩) (fun (⟨d, i⟩ : Nat × Nat) => d ≤ 2 ∧ i ≤ ts'.length) (fun (⟨d, i⟩ : Nat × Nat) => 2 - d) (0, i3) ?_ ?_ ?_; (refine SubA.auto rfl rfl rfl rfl ?_ ?_ <;> repeat' (first | exact trivial | refine And.intro ?_ ?_ | with_reducible rfl | (refine pIEq ?_; (first | omega | (simp only [lenS] at *; omega) | grind)) | (refine bufMap ?_) | (refine bufNil ?_) | (refine bufEq ?_) | rfl))
  · rw [hlz]; rfl
  · exact ⟨Nat.zero_le _, hi3⟩
  clear hi hi3 hlz hdl hdw
  rintro ⟨d, i⟩ ⟨hd, hi⟩
  rcases Nat.lt_or_ge d 2 with hdlt | hdge
  rotate_left
  · (conv => whnf); repeat' ((first | apply CondA.plain | refine' go_pgX | fail) <;> (conv => whnf))
    (refine' ⟨(c + 1, i), _, _, _⟩; rotate_right; (refine SubA.auto rfl rfl rfl rfl ?_ ?_ <;> repeat' (first | exact trivial | refine And.intro ?_ ?_ | with_reducible rfl | (refine pIEq ?_; (first | omega | (simp only [lenS] at *; omega) | grind)) | (refine bufMap ?_) | (refine bufNil ?_) | (refine bufEq ?_) | rfl)); rotate_right; (first | omega | (simp only []; omega) | (simp; omega) | (first | omega | (simp only [lenS] at *; omega) | grind)))
    exact ⟨by omega, hi⟩
  obtain ⟨⟨lb, l⟩, hl⟩ : ∃ x, lz[d]? = some x := ⟨_, List.getElem?_eq_getElem (by omega)⟩
  have hl2 : lz[(d : Int).toNat]? = some (lb, l) := by rw [Int.toNat_natCast, hl]
  have hral := asg_len (p := x) (l := l) (given := [])
  have hra := rAssign_call x lb true l []
  obtain ⟨⟨av, ae⟩, hav⟩ : ∃ a, asgF x l [] = a := ⟨_, rfl⟩
  rw [hav] at hra hral
  have hra : ACall Try.prog 16 [.p x.pv, .p (.list lb (l.map pS)), .p (.list true [])] [] (F2 av ae) := hra
  have hral : av.length ≤ 10 := hral
  (conv => whnf); repeat' ((first | (apply IdxA.at_ (f := fSL) (lb, l) (Int.natCast_nonneg d) hl2) | apply CondA.plain | refine' go_pgX | fail) <;> (conv => whnf))
  refine CallA.loc [] [] rfl rfl (hra.mono ?_)
  rintro _ _ ⟨⟨n3, rfl⟩, rfl⟩
  (conv => whnf); repeat' ((first | apply CondA.plain | refine' go_pgX | fail) <;> (conv => whnf))
  refine CallA.loc [0] [] rfl rfl ((N_call nl ts' i hi _ (by omega)).mono ?_)
  rintro _ _ ⟨v, i4, hv0, hv1, hi4, rfl, rfl⟩
  obtain ⟨v, rfl⟩ : ∃ z : Nat, v = z := ⟨v.toNat, by omega⟩
  have hvl : v ≤ av.length := by omega
  have htk : List.take ((v : Nat) : Int).toNat (av.map pI) = (av.take v).map pI := by rw [Int.toNat_natCast, List.map_take]
  obtain ⟨gz, hgz⟩ : ∃ gz : List (Bool × List Int), gz = [(true, []), (ng, given), (n3, av.take v)] := ⟨_, rfl⟩
  have hgzl : gz.length = 3 := by rw [hgz]; rfl
  (conv => whnf); repeat' ((first | (refine CutA.mk ((av.take v).map pI) (by omega) htk ?_) | apply CondA.plain | refine' go_pgX | fail) <;> (conv => whnf))
  refine loop_rule (fun (e : Nat) => ⟨[(2, .p (.list no (odd.map pS))), (3, .p (.list ng (given.map pI))), (4, .p (.list np (proof.map pI))), (5, .p (pS name)), (13, .ptr 0 0), (77, .p (.agg (flat (ps.map Pin.pv)))), (78, .p (pI c)), (16, .rptr [pI x.n, .list x.nl (x.gs.map Grp.pv)]), (18, .p (.list lb (l.map pS))), (96, .p (.agg (lz.map fSL))), (97, .p (pI d)), (114, .p (.agg (gz.map fI))), (115, .p (pI e))], src nl ts' i4⟩) (fun (e : Nat) => e ≤ 3) (fun (e : Nat) => 3 - e) 0 ?_ ?_ ?_; (refine SubA.auto rfl rfl rfl rfl ?_ ?_ <;> repeat' (first | exact trivial | refine And.intro ?_ ?_ | with_reducible rfl | (refine pIEq ?_; (first | omega | (simp only [lenS] at *; omega) | grind)) | (refine bufMap ?_) | (refine bufNil ?_) | (refine bufEq ?_) | rfl))
  · rw [hgz]; rfl
  · exact Nat.zero_le _
  clear hgz htk hra hral hav
  rintro e he
  rcases Nat.lt_or_ge e 3 with helt | hege
  · obtain ⟨⟨gb, g⟩, hg⟩ : ∃ x, gz[e]? = some x := ⟨_, List.getElem?_eq_getElem (by omega)⟩
    have hg2 : gz[(e : Int).toNat]? = some (gb, g) := by rw [Int.toNat_natCast, hg]
    obtain ⟨⟨u, ue⟩, hu⟩ : ∃ a, asgF x l g = a := ⟨_, rfl⟩
    obtain ⟨⟨sn, si⟩, hs⟩ : ∃ a, sizeF x l g = a := ⟨_, rfl⟩
    obtain ⟨⟨q, h⟩, hr⟩ : ∃ a, refF x l g = a := ⟨_, rfl⟩
    obtain ⟨M, hM⟩ : ∃ M, decide (badF x l g = 0 ∧ g.length = l.length) = M := ⟨_, rfl⟩
    obtain ⟨c1, hc1⟩ : ∃ b, checkF x l g q = b := ⟨_, rfl⟩
    obtain ⟨c2, hc2⟩ : ∃ b, checkF x l g proof = b := ⟨_, rfl⟩
    have hrc : h = 0 → c1 = true := fun h0 => by
      have := ref_check (p := x) (l := l) (given := g)
      rw [hr] at this
      rw [← hc1]
      exact this h0
    have k1 := Assign_to hu lb gb
    have k2 := rAssign_to hu lb gb
    have k3 := Size_to hs lb gb
    have k4 := rSize_to hs lb gb
    have k5 := Refute_to hr lb gb
    have k6 := rRefute_to hr lb gb
    have k7 := Meets_call x lb gb l g
    have k8 := rMeets_call x lb gb l g
    have k9 := fun n => Check_call x lb gb n l g q
    have k10 := fun n => rCheck_call x lb gb n l g q
    have k11 := Check_call x lb gb np l g proof
    have k12 := rCheck_call x lb gb np l g proof
    rw [hM] at k7 k8
    rw [hc1] at k9 k10
    rw [hc2] at k11 k12
    clear hu hs hr hM hc1 hc2
    (conv => whnf); repeat' ((first | (apply IdxA.at_ (f := fI) (gb, g) (Int.natCast_nonneg e) hg2) | apply CondA.plain | refine' go_pgX | fail) <;> (conv => whnf))
    refine CallA.loc [] [] rfl rfl (k1.mono ?_)
    rintro _ _ ⟨⟨m1, rfl⟩, rfl⟩
    (conv => whnf); repeat' ((first | apply CondA.plain | refine' go_pgX | fail) <;> (conv => whnf))
    refine CallA.loc [] [] rfl rfl (k2.mono ?_)
    rintro _ _ ⟨⟨m2, rfl⟩, rfl⟩
    (conv => whnf); repeat' ((first | apply CondA.plain | refine' go_pgX | fail) <;> (conv => whnf))
    refine CallA.loc [] [] rfl rfl (k3.mono ?_)
    rintro _ _ ⟨rfl, rfl⟩
    (conv => whnf); repeat' ((first | apply CondA.plain | refine' go_pgX | fail) <;> (conv => whnf))
    refine CallA.loc [] [] rfl rfl (k4.mono ?_)
    rintro _ _ ⟨rfl, rfl⟩
    (conv => whnf); repeat' ((first | apply CondA.plain | refine' go_pgX | fail) <;> (conv => whnf))
    refine CallA.loc [] [] rfl rfl (k5.mono ?_)
    rintro _ _ ⟨⟨m5, rfl⟩, rfl⟩
    (conv => whnf); repeat' ((first | apply CondA.plain | refine' go_pgX | fail) <;> (conv => whnf))
    refine CallA.loc [] [] rfl rfl (k6.mono ?_)
    rintro _ _ ⟨⟨m6, rfl⟩, rfl⟩
    clear k1 k2 k3 k4 k5 k6
    (conv => whnf); repeat' ((first | apply CondA.plain | refine' go_pgX | fail) <;> (conv => whnf))
    apply DrawA.orders X24Sc (by kernel_rfl) (by kernel_rfl) (by kernel_rfl)
    (conv => whnf); repeat' ((first | apply CondA.plain | refine' go_pgX | ((refine CallA.scalar (Ints_call _ _ _ _) ?_; rw [decide_eq_true rfl])) | (refine CallA.scalar (k7) ?_) | (refine CallA.scalar (k8) ?_)) <;> (conv => whnf))
    apply DrawA.orders X28Sc (by kernel_rfl) (by kernel_rfl) (by kernel_rfl)
    rcases Decidable.em (h = 0) with hh | hh
    · subst hh
      obtain rfl := hrc rfl
      (conv => whnf); repeat' ((first | apply CondA.plain | refine' go_pgX | (refine CallA.scalar (k9 _) ?_) | (refine CallA.scalar (k10 _) ?_) | (refine CallA.scalar (k11) ?_) | (refine CallA.scalar (k12) ?_)) <;> (conv => whnf))
      (refine' ⟨e + 1, _, _, _⟩; rotate_right; (refine SubA.auto rfl rfl rfl rfl ?_ ?_ <;> repeat' (first | exact trivial | refine And.intro ?_ ?_ | with_reducible rfl | (refine pIEq ?_; (first | omega | (simp only [lenS] at *; omega) | grind)) | (refine bufMap ?_) | (refine bufNil ?_) | (refine bufEq ?_) | rfl)); rotate_right; (first | omega | (simp only []; omega) | (simp; omega) | (first | omega | (simp only [lenS] at *; omega) | grind)))
      exact helt
    · (conv => whnf); repeat' ((first | apply CondA.plain | refine' go_pgX | (refine CallA.scalar (k9 _) ?_) | (refine CallA.scalar (k10 _) ?_) | (refine CallA.scalar (k11) ?_) | (refine CallA.scalar (k12) ?_)) <;> (conv => whnf))
      (refine' ⟨e + 1, _, _, _⟩; rotate_right; (refine SubA.auto rfl rfl rfl rfl ?_ ?_ <;> repeat' (first | exact trivial | refine And.intro ?_ ?_ | with_reducible rfl | (refine pIEq ?_; (first | omega | (simp only [lenS] at *; omega) | grind)) | (refine bufMap ?_) | (refine bufNil ?_) | (refine bufEq ?_) | rfl)); rotate_right; (first | omega | (simp only []; omega) | (simp; omega) | (first | omega | (simp only [lenS] at *; omega) | grind)))
      exact helt
  obtain ⟨⟨m, me⟩, hm⟩ : ∃ a, coreF x l = a := ⟨_, rfl⟩
  obtain ⟨⟨z, ze⟩, hz⟩ : ∃ a, mostF x l = a := ⟨_, rfl⟩
  have k1 := Core_to hm lb
  have k2 := rCore_to hm lb
  have k3 := Most_to hz lb
  have k4 := rMost_to hz lb
  clear hm hz
  (conv => whnf); repeat' ((first | apply CondA.plain | refine' go_pgX | fail) <;> (conv => whnf))
  refine CallA.loc [] [] rfl rfl (k1.mono ?_)
  rintro _ _ ⟨⟨m1, rfl⟩, rfl⟩
  (conv => whnf); repeat' ((first | apply CondA.plain | refine' go_pgX | fail) <;> (conv => whnf))
  refine CallA.loc [] [] rfl rfl (k2.mono ?_)
  rintro _ _ ⟨⟨m2, rfl⟩, rfl⟩
  (conv => whnf); repeat' ((first | apply CondA.plain | refine' go_pgX | fail) <;> (conv => whnf))
  refine CallA.loc [] [] rfl rfl (k3.mono ?_)
  rintro _ _ ⟨⟨m3, rfl⟩, rfl⟩
  (conv => whnf); repeat' ((first | apply CondA.plain | refine' go_pgX | fail) <;> (conv => whnf))
  refine CallA.loc [] [] rfl rfl (k4.mono ?_)
  rintro _ _ ⟨⟨m4, rfl⟩, rfl⟩
  (conv => whnf); repeat' ((first | apply CondA.plain | refine' go_pgX | ((refine CallA.scalar (Ints_call _ _ _ _) ?_; rw [decide_eq_true rfl]))) <;> (conv => whnf))
  (refine' ⟨(d + 1, i4), _, _, _⟩; rotate_right; (refine SubA.auto rfl rfl rfl rfl ?_ ?_ <;> repeat' (first | exact trivial | refine And.intro ?_ ?_ | with_reducible rfl | (refine pIEq ?_; (first | omega | (simp only [lenS] at *; omega) | grind)) | (refine bufMap ?_) | (refine bufNil ?_) | (refine bufEq ?_) | rfl)); rotate_right; (first | omega | (simp only []; omega) | (simp; omega) | (first | omega | (simp only [lenS] at *; omega) | grind)))
  exact ⟨by omega, hi4⟩
end Go.Proofs.Ytnogpkaehiapfaa
