/- Pinning: Check. -/
import Derived.Test.Ytnogpkaehiapfaapg6
namespace Go.Proofs.Ytnogpkaehiapfaa
set_option linter.unusedSimpArgs false
set_option linter.unusedVariables false
set_option linter.unnecessarySimpa false
open Go.Abs
set_option maxRecDepth 100000
/-- A refutation is read: what is left of it. -/
def readF (gs : List Grp) (opts : List (List Int)) : Nat → List Bool → List Int → List Int → Option (List Int)
  | 0, _, _, _ => none
  | _ + 1, _, _, [] => none
  | k + 1, has, us, d :: rest => if 0 ≤ d ∧ d < opts.length ∧ has.getD d.toNat true = false then
      (opts.getD d.toNat []).foldl (fun acc g => acc.bind fun s => if freeG_ gs us g then readF gs opts k (has.set d.toNat true) (us ++ [g]) s else some s) (some rest)
    else none
/-- The boxes that the reading shares. -/
def CK (p : Pin) (on mn gn rn nl : Bool) (os : List (Bool × List Int)) (given : List Int) (t0 : Nat) (l : List ByteArray) (rest : List Int) (has : List Bool) : AH :=
  [some (.cells [.p (.list rn (rest.map pI))]), some (.cells [.p (.list nl (l.map pS))]), some (.cells [.buf 5]), some (.cells [.p (.list on (os.map fI)), .p (.list mn ((masksG p.gs).map pU)), .p (.list gn (given.map pI)), .p (pU t0)]), some (.cells [.clo (.func 43) [.ptr 0 0, .ptr 1 0, .ptr 2 0, .ptr 3 0, .ptr 4 0]]), some (AO.buf 4 false (has.map pB))]
def ReadK (p : Pin) (on mn gn rn nl : Bool) (os : List (Bool × List Int)) (given : List Int) (t0 : Nat) (l : List ByteArray) (has : List Bool) (R : Option (List Int)) (r : AV) (H : AH) : Prop :=
  r = .p (pB R.isSome) ∧ ∃ rest' has', has'.length = has.length ∧ H = CK p on mn gn rn nl os given t0 l rest' has' ∧ ∀ s, R = some s → rest' = s ∧ has' = has
theorem foldl_none {α : Type} (f : List Int → α → Option (List Int)) : ∀ o : List α, o.foldl (fun acc g => acc.bind fun s => f s g) none = none
  | [] => rfl
  | g :: r => by rw [List.foldl_cons]; exact foldl_none f r
theorem has_set {has : List Bool} {d k : Nat} (h : d < has.length) (he : has[d] = false) (hc : has.countP (!·) ≤ k + 1) : (has.set d true).countP (!·) ≤ k := by
  rw [List.countP_set h, he]
  simp
  omega
/-- Kept for later: a goal of a walk's step. -/
theorem park_pg9 {P : Prop} (x : P) (_ : x = x) : P := x
/-- One step of a walk. -/
theorem go_pg9 {P : Prop} (h : P := by
  (first | ((first | apply LenA.map | apply NilA.map | apply NilA.mk); intro _) | ((first | apply NW.as | apply ValA.as); with_reducible assumption) | ((first | apply NW.i64 | apply NW.u32 | apply NW.u64 | apply NW.u8 | apply InA.nat | apply InA.map | apply AppA.snoc (f := pI) (a := _) rfl | apply AppA.one (f := pI) (a := _) rfl | apply AppA.snoc (f := pB) (a := _) rfl | apply AppA.one (f := pB) (a := _) rfl | apply AppA.snoc (f := pU) (a := _) rfl | apply AppA.one (f := pU) (a := _) rfl | apply AppA.snoc (f := fI) (a := _) rfl | apply AppA.one (f := fI) (a := _) rfl | apply AppA.map | apply AppA.nil | apply CutA.lo | apply CutA.hi); (first | omega | (simp only [lenS] at *; omega) | grind)) | ((first | (apply RemA.as; assumption) | apply RemA.self); (first | omega | (simp only [lenS] at *; omega) | grind)) | (apply ValA.as; assumption) | apply ValA.self | (apply NW.as; assumption) | (apply SzA.map; (intro _; rfl)) | with_reducible apply br_pt | with_reducible apply br_pf | with_reducible apply br_mt | with_reducible apply br_mf | apply Both.mk | ((first | apply br_T | apply br_F | apply br_mT | apply br_mF); assumption) | ((first | apply br_lss | apply br_leq | apply br_gtr | apply br_geq | apply br_dec | apply br_beq | apply br_bne | apply br_beqB | apply br_bneB | apply br_not | apply br_m | apply br_intro) <;> intro h0 <;> first | (exfalso; first | omega | exact tf h0 (by assumption) | exact tf (by assumption) h0 | exact h0 (by assumption) | exact h0 rfl | exact of_decide_eq_false h0 rfl) | skip) | refine ArrA.mk _ rfl rfl ?_ | (apply IdxA.lit; omega; exact rfl) | ((first | apply IdxA.of_nat | (apply IdxA.of_map; (first | omega | (simp only [lenS] at *; omega) | grind))); rotate_left; (first | omega | (simp only [lenS] at *; omega) | grind)) | apply AppC.own | apply CutO.part | apply IsL.set (f := pI) (a := _) rfl | apply IsL.rep (f := pI) (a := _) rfl | apply IsL.set (f := pB) (a := _) rfl | apply IsL.rep (f := pB) (a := _) rfl | apply IsL.set (f := pU) (a := _) rfl | apply IsL.rep (f := pU) (a := _) rfl | apply IsL.set (f := fI) (a := _) rfl | apply IsL.rep (f := fI) (a := _) rfl | apply IsL.lit (f := pI) [] rfl | apply IsL.lit (f := pI) [_] rfl | apply IsL.lit (f := pB) [] rfl | apply IsL.lit (f := pB) [_] rfl | apply IsL.lit (f := pU) [] rfl | apply IsL.lit (f := pU) [_] rfl | apply IsL.lit (f := fI) [] rfl | apply IsL.lit (f := fI) [_] rfl | (apply And.intro; (first | with_reducible rfl | (show (_ : AV) = _; rfl) | (first | omega | (simp only [lenS] at *; omega) | grind)))) <;> (solve_by_elim (newGoals := .nonDependentOnly) (symm := false) (exfalso := false) (transparency := .reducible) only [rfl, park_pg9])) : P := h
set_option maxHeartbeats 16000000 in
theorem read_call {p : Pin} (hP : VP p) (on mn gn rn nl : Bool) (os : List (Bool × List Int)) (given : List Int) (t0 : Nat) (l : List ByteArray) (hll : l.length = os.length)
    (hos : ∀ x ∈ os, ∀ g ∈ x.2, 0 ≤ g ∧ g < p.gs.length) (hol : os.length ≤ 10) : ∀ (k : Nat) (has : List Bool) (us rest : List Int) (t : Nat), has.countP (!·) ≤ k → has.length = os.length → (∀ g ∈ us, 0 ≤ g ∧ g < p.gs.length) → t = takenN p.gs us →
    ACall Try.prog 43 [.p (pU t), .ptr 0 0, .ptr 1 0, .ptr 2 0, .ptr 3 0, .ptr 4 0] (CK p on mn gn rn nl os given t0 l rest has) (ReadK p on mn gn rn nl os given t0 l has (readF p.gs (os.map (·.2)) k has us rest)) := by
  intro k
  induction k using Nat.strongRecOn with
  | _ k IH =>
    intro has us rest t hcp hhl hr ht
    refine acall_enter Try.func43 rfl rfl tabOK rfl ?_
    have hol2 : (os.map (·.2)).length = os.length := by simp
    rcases hrest : rest with _ | ⟨d, rest1⟩
    · have e : readF p.gs (os.map (·.2)) k has us [] = none := by cases k <;> rfl
      rw [e]
      (conv => whnf); repeat' ((first | ((refine LenA.mk 0 rfl ?_; intro _)) | apply CondA.plain | refine' go_pg9 | fail) <;> (conv => whnf))
      (refine' RetK.auto (.p (pB false)) (CK p on mn gn rn nl os given t0 l [] has) rfl rfl rfl rfl _ _ _ <;> repeat' (first | exact trivial | refine And.intro ?_ ?_ | with_reducible rfl | (refine pIEq ?_; (first | omega | (simp only [lenS] at *; omega) | grind)) | (refine bufMap ?_) | (refine bufNil ?_) | (refine bufEq ?_) | rfl))
      exact ⟨[], has, rfl, rfl, fun s h => by cases h⟩
    have hd1 : (d :: rest1)[(0 : Int).toNat]? = some d := rfl
    have hcut : List.drop (1 : Int).toNat ((d :: rest1).map pI) = rest1.map pI := rfl
    rcases Decidable.em (0 ≤ d ∧ d < os.length) with hd | hd
    rotate_left
    · have e : readF p.gs (os.map (·.2)) k has us (d :: rest1) = none := by
        cases k with
        | zero => rfl
        | succ k => rw [readF, if_neg (by rw [hol2]; omega)]
      rw [e]
      (conv => whnf); repeat' ((first | (apply IdxA.at_ (f := pI) d (Int.le_refl 0) hd1) | apply CondA.plain | refine' go_pg9 | fail) <;> (conv => whnf))
      all_goals
        (refine' RetK.auto (.p (pB false)) (CK p on mn gn rn nl os given t0 l rest1 has) rfl rfl rfl rfl _ _ _ <;> repeat' (first | exact trivial | refine And.intro ?_ ?_ | with_reducible rfl | (refine pIEq ?_; (first | omega | (simp only [lenS] at *; omega) | grind)) | (refine bufMap ?_) | (refine bufNil ?_) | (refine bufEq ?_) | rfl))
        exact ⟨rest1, has, rfl, rfl, fun s h => by cases h⟩
    obtain ⟨hd0, hdl⟩ := hd
    obtain ⟨D, rfl⟩ : ∃ D : Nat, d = D := ⟨d.toNat, by omega⟩
    have hDl : D < has.length := by omega
    obtain ⟨hb, hhb⟩ : ∃ hb, has[D] = hb := ⟨_, rfl⟩
    have hh1 : has[((D : Nat) : Int).toNat]? = some hb := by rw [Int.toNat_natCast, List.getElem?_eq_getElem hDl, hhb]
    have hgd : has.getD D true = hb := by rw [List.getD_eq_getElem?_getD, List.getElem?_eq_getElem hDl, hhb]; rfl
    cases hb with
    | true =>
      have e : readF p.gs (os.map (·.2)) k has us ((D : Int) :: rest1) = none := by
        cases k with
        | zero => rfl
        | succ k => rw [readF, if_neg (by rw [Int.toNat_natCast, hgd]; simp)]
      rw [e]
      (conv => whnf); repeat' ((first | (apply IdxA.at_ (f := pI) (D : Int) (Int.le_refl 0) hd1) | (apply IdxA.at_ (f := pB) true (Int.natCast_nonneg D) hh1) | apply CondA.plain | refine' go_pg9 | fail) <;> (conv => whnf))
      (refine' RetK.auto (.p (pB false)) (CK p on mn gn rn nl os given t0 l rest1 has) rfl rfl rfl rfl _ _ _ <;> repeat' (first | exact trivial | refine And.intro ?_ ?_ | with_reducible rfl | (refine pIEq ?_; (first | omega | (simp only [lenS] at *; omega) | grind)) | (refine bufMap ?_) | (refine bufNil ?_) | (refine bufEq ?_) | rfl))
      exact ⟨rest1, has, rfl, rfl, fun s h => by cases h⟩
    | false =>
      have hpos : 0 < has.countP (!·) := List.countP_pos_iff.2 ⟨has[D], List.getElem_mem hDl, by rw [hhb]; rfl⟩
      obtain ⟨k, rfl⟩ : ∃ k', k = k' + 1 := ⟨k - 1, by omega⟩
      have hcs := has_set hDl hhb hcp
      obtain ⟨⟨ob, o⟩, ho⟩ : ∃ o, os[D]'(by omega) = o := ⟨_, rfl⟩
      have ho1 : os[((D : Nat) : Int).toNat]? = some (ob, o) := by rw [Int.toNat_natCast, List.getElem?_eq_getElem (by omega), ho]
      have hor := hos (ob, o) (by rw [← ho]; exact List.getElem_mem _)
      have hog : (os.map (·.2)).getD D [] = o := by rw [List.getD_eq_getElem?_getD, List.getElem?_map, List.getElem?_eq_getElem (by omega), ho]; rfl
      have e : readF p.gs (os.map (·.2)) (k + 1) has us ((D : Int) :: rest1) = o.foldl (fun acc g => acc.bind fun s => if freeG_ p.gs us g then readF p.gs (os.map (·.2)) k (has.set D true) (us ++ [g]) s else some s) (some rest1) := by
        rw [readF, if_pos ⟨by omega, by rw [hol2]; omega, by rw [Int.toNat_natCast]; exact hgd⟩, Int.toNat_natCast, hog]
      rw [e]
      obtain ⟨G, hG⟩ : ∃ G : List Int → Int → Option (List Int), G = fun s g => if freeG_ p.gs us g then readF p.gs (os.map (·.2)) k (has.set D true) (us ++ [g]) s else some s := ⟨_, rfl⟩
      have hG2 : (fun (acc : Option (List Int)) g => acc.bind fun s => if freeG_ p.gs us g then readF p.gs (os.map (·.2)) k (has.set D true) (us ++ [g]) s else some s) = fun acc g => acc.bind fun s => G s g := by rw [hG]
      rw [hG2]
      obtain ⟨has1, hh⟩ : ∃ h1, has.set D true = h1 := ⟨_, rfl⟩
      have hh1l : has1.length = has.length := by rw [← hh, List.length_set]
      have hback : has1.set D false = has := by
        rw [← hh, List.set_set, ← hhb, List.set_getElem_self]
      have hDm : D < (has.map pB).length := by rw [List.length_map]; exact hDl
      have hDm1 : D < (has1.map pB).length := by rw [List.length_map]; omega
      rw [hh] at hcs
      have IH2 := fun us2 s t2 => IH k (by omega) has1 us2 s t2 hcs (by omega)
      (conv => whnf); repeat' ((first | (apply IdxA.at_ (f := pI) (D : Int) (Int.le_refl 0) hd1) | (apply IdxA.at_ (f := pB) false (Int.natCast_nonneg D) hh1) | (refine InA.mk D rfl hDm ?_) | (apply IdxA.at_ (f := fI) (ob, o) (Int.natCast_nonneg D) ho1) | apply CondA.plain | refine' go_pg9 | fail) <;> (conv => whnf))
      refine loop_rule (fun (⟨c, s⟩ : Nat × List Int) => ⟨[(0, .p (pU t)), (3, .ptr 2 0), (4, .ptr 3 0), (5, .ptr 4 0), (8, .p (pI D)), (40, .p (fI (ob, o))), (41, .p (pI o.length)), (42, .p (pI c))], CK p on mn gn rn nl os given t0 l s has1⟩) (fun (⟨c, s⟩ : Nat × List Int) => c ≤ o.length ∧ o.foldl (fun acc g => acc.bind fun s => G s g) (some rest1) = (o.drop c).foldl (fun acc g => acc.bind fun s => G s g) (some s)) (fun (⟨c, s⟩ : Nat × List Int) => o.length - c) (0, rest1) ?_ ?_ ?_; (refine SubA.auto rfl rfl rfl rfl ?_ ?_ <;> repeat' (first | exact trivial | refine And.intro ?_ ?_ | with_reducible rfl | (refine pIEq ?_; (first | omega | (simp only [lenS] at *; omega) | grind)) | (refine bufMap ?_) | (refine bufNil ?_) | (refine bufEq ?_) | rfl))
      · exact hh
      · exact ⟨Nat.zero_le _, rfl⟩
      rintro ⟨c, s⟩ ⟨hc, hfs⟩
      rcases Nat.lt_or_ge c o.length with hl2 | hge
      rotate_left
      · rw [List.drop_of_length_le hge, List.foldl_nil] at hfs
        rw [hfs]
        (conv => whnf); repeat' ((first | (refine InA.mk D rfl hDm1 ?_) | apply CondA.plain | refine' go_pg9 | fail) <;> (conv => whnf))
        (refine' RetK.auto (.p (pB true)) (CK p on mn gn rn nl os given t0 l s has) rfl rfl rfl rfl _ _ _ <;> repeat' (first | exact trivial | refine And.intro ?_ ?_ | with_reducible rfl | (refine pIEq ?_; (first | omega | (simp only [lenS] at *; omega) | grind)) | (refine bufMap ?_) | (refine bufNil ?_) | (refine bufEq ?_) | rfl))
        · exact hback
        exact ⟨s, has, rfl, rfl, fun s2 h => by injection h with h; exact ⟨h, rfl⟩⟩
      obtain ⟨g, hg⟩ : ∃ g, o[c] = g := ⟨_, rfl⟩
      have hg1 : o[((c : Nat) : Int).toNat]? = some g := by rw [Int.toNat_natCast, List.getElem?_eq_getElem hl2, hg]
      have hgr := hor g (by show g ∈ o; rw [← hg]; exact List.getElem_mem _)
      obtain ⟨z, rfl⟩ : ∃ z : Nat, g = z := ⟨g.toNat, by omega⟩
      have hzl : z < p.gs.length := by omega
      have hm1 := masksG_at hzl
      have htl := takenN_lt hP hr
      have hmkl := maskN_lt (pins_rng hP hgr.1 hgr.2)
      have hta := taken_and hP hr hgr.1 hgr.2
      rw [← ht] at htl hta
      have hsn := takenN_snoc p.gs us z
      rw [← ht] at hsn
      have hr2 : ∀ y ∈ us ++ [(z : Int)], 0 ≤ y ∧ y < p.gs.length := fun y hy => by
        rcases List.mem_append.1 hy with hy | hy
        · exact hr y hy
        · rw [List.mem_singleton.1 hy]; exact hgr
      obtain ⟨mk, hmk⟩ : ∃ mk, maskN (pinsOf p.gs z) = mk := ⟨_, rfl⟩
      rw [hmk] at hm1 hmkl hta hsn
      have ha := and64u htl hmkl
      have ho2 := or64u htl hmkl
      rw [List.drop_eq_getElem_cons hl2, List.foldl_cons, hg, Option.bind_some] at hfs
      obtain ⟨w, hw⟩ : ∃ w, t &&& mk = w := ⟨_, rfl⟩
      rw [hw] at ha hta
      rcases Decidable.em (w = 0) with hw0 | hw0
      rotate_left
      · rw [decide_eq_false hw0] at hta
        have hGz : G s (z : Int) = some s := by rw [hG]; show (if _ then _ else _) = _; rw [← hta]; rfl
        rw [hGz] at hfs
        (conv => whnf); repeat' ((first | (apply IdxA.at_ (f := pI) (z : Int) (Int.natCast_nonneg c) hg1) | apply CondA.plain | refine' go_pg9 | fail) <;> (conv => whnf))
        apply DrawA.tail 17 (by kernel_rfl) (by kernel_rfl)
        (conv => whnf); repeat' ((first | (apply IdxA.at_ (f := pU) mk (Int.natCast_nonneg z) hm1) | apply CondA.plain | refine' go_pg9 | fail) <;> (conv => whnf))
        (refine' ⟨(c + 1, s), _, _, _⟩; rotate_right; (refine SubA.auto rfl rfl rfl rfl ?_ ?_ <;> repeat' (first | exact trivial | refine And.intro ?_ ?_ | with_reducible rfl | (refine pIEq ?_; (first | omega | (simp only [lenS] at *; omega) | grind)) | (refine bufMap ?_) | (refine bufNil ?_) | (refine bufEq ?_) | rfl)); rotate_right; (first | omega | (simp only []; omega) | (simp; omega) | (first | omega | (simp only [lenS] at *; omega) | grind)))
        exact ⟨by omega, hfs⟩
      subst hw0
      rw [decide_eq_true rfl] at hta
      have hGz : G s (z : Int) = readF p.gs (os.map (·.2)) k has1 (us ++ [(z : Int)]) s := by rw [hG]; show (if _ then _ else _) = _; rw [← hta, if_pos rfl, hh]
      have IH3 := IH2 (us ++ [(z : Int)]) s (t ||| mk) hr2 hsn.symm
      rw [← hGz] at IH3
      (conv => whnf); repeat' ((first | (apply IdxA.at_ (f := pI) (z : Int) (Int.natCast_nonneg c) hg1) | apply CondA.plain | refine' go_pg9 | fail) <;> (conv => whnf))
      apply DrawA.tail 17 (by kernel_rfl) (by kernel_rfl)
      (conv => whnf); repeat' ((first | (apply IdxA.at_ (f := pU) mk (Int.natCast_nonneg z) hm1) | apply CondA.plain | refine' go_pg9 | fail) <;> (conv => whnf))
      refine CallA.loc [0, 1, 2, 3, 4, 5] [] rfl rfl (IH3.mono ?_)
      rintro _ _ ⟨rfl, s', has', hl', rfl, hR⟩
      cases hGv : G s (z : Int) with
      | none =>
        rw [hGv, foldl_none] at hfs
        rw [hfs]
        (conv => whnf); repeat' ((first | apply CondA.plain | refine' go_pg9 | fail) <;> (conv => whnf))
        (refine' RetK.auto (.p (pB false)) (CK p on mn gn rn nl os given t0 l s' has') rfl rfl rfl rfl _ _ _ <;> repeat' (first | exact trivial | refine And.intro ?_ ?_ | with_reducible rfl | (refine pIEq ?_; (first | omega | (simp only [lenS] at *; omega) | grind)) | (refine bufMap ?_) | (refine bufNil ?_) | (refine bufEq ?_) | rfl))
        exact ⟨s', has', by omega, rfl, fun s2 h => by cases h⟩
      | some x =>
        obtain ⟨rfl, rfl⟩ := hR x hGv
        rw [hGv] at hfs
        (conv => whnf); repeat' ((first | apply CondA.plain | refine' go_pg9 | fail) <;> (conv => whnf))
        (refine' ⟨(c + 1, s'), _, _, _⟩; rotate_right; (refine SubA.auto rfl rfl rfl rfl ?_ ?_ <;> repeat' (first | exact trivial | refine And.intro ?_ ?_ | with_reducible rfl | (refine pIEq ?_; (first | omega | (simp only [lenS] at *; omega) | grind)) | (refine bufMap ?_) | (refine bufNil ?_) | (refine bufEq ?_) | rfl)); rotate_right; (first | omega | (simp only []; omega) | (simp; omega) | (first | omega | (simp only [lenS] at *; omega) | grind)))
        exact ⟨by omega, hfs⟩
/-- What Check answers. -/
def hasL (n k : Nat) : List Bool := List.replicate k true ++ List.replicate (n - k) false
def checkF (p : Pin) (l : List ByteArray) (given proof : List Int) : Bool := decide (badF p l given = 0) && decide (proof.length ≠ 0) && decide (proof.length ≤ 4000) && decide (readF p.gs (optsL p l) l.length (hasL l.length given.length) given proof = some [])
theorem has_next {n c : Nat} (h : c < n) : (hasL n c).set c true = hasL n (c + 1) := by
  unfold hasL
  rw [List.set_append_right _ _ (by simp)]
  have e : n - c = n - (c + 1) + 1 := by omega
  simp only [List.length_replicate, Nat.sub_self]
  rw [e, List.replicate_succ, List.set_cons_zero, List.replicate_succ', List.append_assoc]; rfl
theorem hasL_len {n c : Nat} (h : c ≤ n) : (hasL n c).length = n := by simp [hasL]; omega
theorem hasL_cnt (n c : Nat) : (hasL n c).countP (!·) ≤ n := by
  unfold hasL
  rw [List.countP_append, List.countP_replicate, List.countP_replicate, if_neg (by simp), if_pos (by simp)]
  omega
set_option maxHeartbeats 8000000 in
theorem Check_call (p : Pin) (nl gn rn : Bool) (l : List ByteArray) (given proof : List Int) : ACall Try.prog 15 [.p p.pv, .p (.list nl (l.map pS)), .p (.list gn (given.map pI)), .p (.list rn (proof.map pI))] [] fun r H => r = .p (pB (checkF p l given proof)) ∧ H = [] := by
  refine acall_enter Try.func15 rfl rfl tabOK rfl ?_
  (conv => whnf); repeat' ((first | apply CondA.plain | refine' go_pg9 | (apply DrawA.quiet (by kernel_rfl) (by kernel_rfl); (conv => whnf); fail_if_success (show False))) <;> (conv => whnf))
  refine CallA.loc [] [] rfl rfl ((build_call p nl gn l given).mono ?_)
  rintro _ _ ⟨rfl, ⟨he, rfl⟩ | ⟨he, on, os, mn, hos, rfl⟩⟩
  · have e : checkF p l given proof = false := by rw [checkF, decide_eq_false he]; rfl
    rw [e]
    obtain ⟨E, hE⟩ : ∃ E, badF p l given = E := ⟨_, rfl⟩
    rw [hE] at he ⊢
    (conv => whnf); repeat' ((first | apply CondA.plain | refine' go_pg9 | (apply DrawA.quiet (by kernel_rfl) (by kernel_rfl); (conv => whnf); fail_if_success (show False))) <;> (conv => whnf))
    (refine RetK.p ?_ <;> repeat' (first | exact trivial | refine And.intro ?_ ?_ | with_reducible rfl | (refine pIEq ?_; (first | omega | (simp only [lenS] at *; omega) | grind)) | (refine bufMap ?_) | (refine bufNil ?_) | (refine bufEq ?_) | rfl); all_goals try first | refine pBEq ?_ | refine pIEq ?_)
  obtain ⟨hR, hfit⟩ := badF_ok he
  have hP := valid_of hR.1
  have hl10 := hR.2.1
  obtain ⟨hgl, hgr⟩ := fitsB_rng hfit
  have hol : os.length = l.length := by
    have := congrArg List.length hos
    simp [optsL] at this
    exact this
  rcases Decidable.em (proof.length ≠ 0 ∧ proof.length ≤ 4000) with hpf | hpf
  rotate_left
  · have e : checkF p l given proof = false := by
      unfold checkF
      rcases Decidable.em (proof.length = 0) with h | h
      · rw [h]; simp
      · rw [decide_eq_false (show ¬ proof.length ≤ 4000 by omega)]; simp
    rw [e]
    (conv => whnf); repeat' ((first | apply CondA.plain | refine' go_pg9 | fail) <;> (conv => whnf))
    all_goals (refine RetK.p ?_ <;> repeat' (first | exact trivial | refine And.intro ?_ ?_ | with_reducible rfl | (refine pIEq ?_; (first | omega | (simp only [lenS] at *; omega) | grind)) | (refine bufMap ?_) | (refine bufNil ?_) | (refine bufEq ?_) | rfl); all_goals try first | refine pBEq ?_ | refine pIEq ?_)
  have e : checkF p l given proof = decide (readF p.gs (optsL p l) l.length (hasL l.length given.length) given proof = some []) := by
    rw [checkF, decide_eq_true he, decide_eq_true hpf.1, decide_eq_true hpf.2]; rfl
  rw [e]
  obtain ⟨hpf0, hpf1⟩ := hpf
  (conv => whnf); repeat' ((first | apply CondA.plain | refine' go_pg9 | fail) <;> (conv => whnf))
  refine loop_rule (fun (⟨c, has⟩ : Nat × List Bool) => ⟨[(3, .p (.list rn (proof.map pI))), (5, .ptr 1 0), (9, .ptr 2 0), (11, .ptr 4 0), (38, .p (pI given.length)), (39, .p (pI c))], [some (.cells [.p (pI p.n), .p (.list p.nl (p.gs.map Grp.pv))]), some (.cells [.p (.list nl (l.map pS))]), some (.cells [.p (.list on (os.map fI)), .p (.list mn ((masksG p.gs).map pU)), .p (.list gn (given.map pI)), .p (pU (takenN p.gs given))]), some (AO.buf 4 false (has.map pB)), some (.cells [.buf 3])]⟩) (fun (⟨c, has⟩ : Nat × List Bool) => c ≤ given.length ∧ has = hasL l.length c) (fun (⟨c, has⟩ : Nat × List Bool) => given.length - c) (0, hasL l.length 0) ?_ ?_ ?_; (refine SubA.auto rfl rfl rfl rfl ?_ ?_ <;> repeat' (first | exact trivial | refine And.intro ?_ ?_ | with_reducible rfl | (refine pIEq ?_; (first | omega | (simp only [lenS] at *; omega) | grind)) | (refine bufMap ?_) | (refine bufNil ?_) | (refine bufEq ?_) | rfl))
  · exact ⟨Nat.zero_le _, rfl⟩
  rintro ⟨c, has⟩ ⟨hc, hh⟩
  have hhl : has.length = l.length := by rw [hh]; exact hasL_len (by omega)
  rcases Nat.lt_or_ge c given.length with hlt | hge
  · have hn := has_next (n := l.length) (c := c) (by omega)
    rw [← hh] at hn
    have hcm : c < (has.map pB).length := by rw [List.length_map]; omega
    (conv => whnf); repeat' ((first | (refine InA.mk c rfl hcm ?_) | apply CondA.plain | refine' go_pg9 | fail) <;> (conv => whnf))
    (refine' ⟨(c + 1, has.set c true), _, _, _⟩; rotate_right; (refine SubA.auto rfl rfl rfl rfl ?_ ?_ <;> repeat' (first | exact trivial | refine And.intro ?_ ?_ | with_reducible rfl | (refine pIEq ?_; (first | omega | (simp only [lenS] at *; omega) | grind)) | (refine bufMap ?_) | (refine bufNil ?_) | (refine bufEq ?_) | rfl)); rotate_right; (first | omega | (simp only []; omega) | (simp; omega) | (first | omega | (simp only [lenS] at *; omega) | grind)))
    exact ⟨by omega, hn⟩
  obtain rfl : c = given.length := by omega
  have hrd := read_call hP on mn gn rn nl os given (takenN p.gs given) l hol.symm (opts_rng hos) (by omega) l.length has given proof (takenN p.gs given) (by rw [hh]; exact hasL_cnt _ _) (by omega) hgr rfl
  rw [hos, hh] at hrd
  obtain ⟨R, hRR⟩ : ∃ R, readF p.gs (optsL p l) l.length (hasL l.length given.length) given proof = R := ⟨_, rfl⟩
  rw [hRR] at hrd ⊢
  rw [hh]
  (conv => whnf); repeat' ((first | apply CondA.plain | refine' go_pg9 | fail) <;> (conv => whnf))
  refine CallA.loc [5, 1, 4, 2, 6, 3] [] rfl rfl (hrd.mono ?_)
  rintro _ _ ⟨rfl, s', has', hl', rfl, hR2⟩
  cases R with
  | none =>
    rw [decide_eq_false (by simp)]
    (conv => whnf); repeat' ((first | apply CondA.plain | refine' go_pg9 | fail) <;> (conv => whnf))
    (refine RetK.p ?_ <;> repeat' (first | exact trivial | refine And.intro ?_ ?_ | with_reducible rfl | (refine pIEq ?_; (first | omega | (simp only [lenS] at *; omega) | grind)) | (refine bufMap ?_) | (refine bufNil ?_) | (refine bufEq ?_) | rfl); all_goals try first | refine pBEq ?_ | refine pIEq ?_)
  | some x =>
    obtain ⟨rfl, _⟩ := hR2 x rfl
    rcases hx : s' with _ | ⟨y, ys⟩
    · rw [decide_eq_true rfl]
      (conv => whnf); repeat' ((first | ((refine LenA.mk 0 rfl ?_; intro _)) | apply CondA.plain | refine' go_pg9 | fail) <;> (conv => whnf))
      (refine RetK.p ?_ <;> repeat' (first | exact trivial | refine And.intro ?_ ?_ | with_reducible rfl | (refine pIEq ?_; (first | omega | (simp only [lenS] at *; omega) | grind)) | (refine bufMap ?_) | (refine bufNil ?_) | (refine bufEq ?_) | rfl); all_goals try first | refine pBEq ?_ | refine pIEq ?_)
    · rw [decide_eq_false (by simp)]
      (conv => whnf); repeat' ((first | apply CondA.plain | refine' go_pg9 | fail) <;> (conv => whnf))
      (refine RetK.p ?_ <;> repeat' (first | exact trivial | refine And.intro ?_ ?_ | with_reducible rfl | (refine pIEq ?_; (first | omega | (simp only [lenS] at *; omega) | grind)) | (refine bufMap ?_) | (refine bufNil ?_) | (refine bufEq ?_) | rfl); all_goals try first | refine pBEq ?_ | refine pIEq ?_)
end Go.Proofs.Ytnogpkaehiapfaa
