/- Pinouts: owners of pins. -/
import Derived.Test.Ytcemickjholnaaapin6
namespace Go.Proofs.Ytcemickjholnaaa
set_option linter.unusedSimpArgs false
set_option linter.unusedVariables false
set_option linter.unnecessarySimpa false
open Go.Abs
set_option maxRecDepth 100000
structure Us where
  g : Int
  f : Int
  deriving DecidableEq
instance : Inhabited Us := ⟨⟨0, 0⟩⟩
def Us.pv (u : Us) : PV := .agg [.v (.int .i64 u.g), .v (.int .i64 u.f)]
/-- The pins get an owner, if they have none. -/
def setOwn (v : Int) : List Int → List Int → Option (List Int)
  | [], o => some o
  | x :: r, o => if o.getD x.toNat (-1) ≠ -1 then none else setOwn v r (o.set x.toNat v)
def badU (gs : List Grp) (u : Us) : Prop := u.g < 0 ∨ (gs.length : Int) ≤ u.g ∨ u.f < 0 ∨ ((gs.getD u.g.toNat default).funs.length : Int) ≤ u.f
instance (gs : List Grp) (u : Us) : Decidable (badU gs u) := by unfold badU; infer_instance
def ownG (gs : List Grp) : List Us → List Int → List Int → List Int × Int
  | [], _, o => (o, 0)
  | u :: r, seen, o => if badU gs u then ([], 2) else if u.g ∈ seen then ([], 5) else match setOwn u.g (gs.getD u.g.toNat default).pins o with
    | none => ([], 40)
    | some o' => ownG gs r (seen ++ [u.g]) o'
def ownersF (p : Pin) (us : List Us) : List Int × Int := if validP p = 0 then ownG p.gs us [] (List.replicate p.n.toNat (-1)) else ([], 1)
def z64 : List Int := List.replicate 64 0
theorem z64_len : (z64.map pI).length = 64 := by simp [z64]
theorem cellS_int {xs : List Int} {off : Nat} {k : List PV → Prop} (n : Nat) (v : Int) (hn : off = n) (h : n < xs.length) (hk : k ((xs.set n v).map pI)) : CellS (xs.map pI) off (pI v) k := .mk n _ hn (by rwa [List.length_map]) (by rw [List.map_set]) hk
theorem cellX_int {xs : List Int} {off : Nat} {k : PV → Prop} (n : Nat) (v : Int) (hn : off = n) (h : xs[n]? = some v) (hk : k (pI v)) : CellX (xs.map pI) off k := .mk n _ hn (by rw [List.getElem?_map, h]; rfl) hk
/-- What the table holds. -/
structure Tab (p : Pin) (T o : List Int) : Prop where
  eq : T = o ++ List.replicate (64 - p.n.toNat) (-1)
  len : o.length = p.n.toNat
  ge : ∀ x ∈ o, -1 ≤ x
theorem Tab.tlen {p : Pin} {T o : List Int} (h : Tab p T o) (hn : 0 ≤ p.n ∧ p.n ≤ 64) : T.length = 64 := by
  rw [h.eq, List.length_append, h.len, List.length_replicate]; omega
theorem Tab.at_ {p : Pin} {T o : List Int} (h : Tab p T o) {k : Nat} (hk : (k : Int) < p.n) : T[k]? = some (o.getD k (-1)) ∧ -1 ≤ o.getD k (-1) := by
  have hl := h.len
  have hk2 : k < o.length := by omega
  have e : o.getD k (-1) = o[k] := by rw [List.getD_eq_getElem?_getD, List.getElem?_eq_getElem hk2]; rfl
  rw [e, h.eq, List.getElem?_append_left hk2, List.getElem?_eq_getElem hk2]
  exact ⟨rfl, h.ge _ (List.getElem_mem _)⟩
theorem Tab.set {p : Pin} {T o : List Int} (h : Tab p T o) {k : Nat} (hk : (k : Int) < p.n) {v : Int} (hv : 0 ≤ v) : Tab p (T.set k v) (o.set k v) := by
  have hl := h.len
  refine ⟨by rw [h.eq, List.set_append_left _ _ (by omega)], by rw [List.length_set, hl], fun x hx => ?_⟩
  rcases List.mem_or_eq_of_mem_set hx with hx | rfl
  · exact h.ge x hx
  · omega
theorem Tab.init {p : Pin} (hn : 0 ≤ p.n ∧ p.n ≤ 64) : Tab p (List.replicate 64 (-1)) (List.replicate p.n.toNat (-1)) := by
  refine ⟨?_, by simp, fun x hx => by rw [List.eq_of_mem_replicate hx]; exact Int.le_refl _⟩
  rw [List.replicate_append_replicate]; congr 1; omega
theorem fill_next {c : Nat} (h : c < 64) : (List.replicate c (-1 : Int) ++ List.replicate (64 - c) 0).set c (-1) = List.replicate (c + 1) (-1) ++ List.replicate (64 - (c + 1)) 0 := by
  rw [List.set_append_right _ _ (by simp)]
  have e : 64 - c = 64 - (c + 1) + 1 := by omega
  simp only [List.length_replicate, Nat.sub_self]
  rw [e, List.replicate_succ, List.set_cons_zero, List.replicate_succ', List.append_assoc]; rfl
/-- The groups that are used. -/
def Used (b : List Bool) (n : Nat) (seen : List Int) : Prop := b.length = n ∧ ∀ i, i < n → b[i]? = some (decide ((i : Int) ∈ seen))
theorem Used.next {b : List Bool} {n : Nat} {seen : List Int} (h : Used b n seen) {k : Nat} (hk : k < n) : Used (b.set k true) n (seen ++ [(k : Int)]) := by
  refine ⟨by rw [List.length_set]; exact h.1, fun i hi => ?_⟩
  rcases Decidable.em (k = i) with e | e
  · subst e
    rw [List.getElem?_set_self (by rw [h.1]; exact hk), decide_eq_true (List.mem_append_right _ (List.mem_singleton.2 rfl))]
  · rw [List.getElem?_set_ne e, h.2 i hi]
    congr 1
    refine decide_eq_decide.2 ⟨fun hm => List.mem_append_left _ hm, fun hm => ?_⟩
    rcases List.mem_append.1 hm with hm | hm
    · exact hm
    · have := List.mem_singleton.1 hm; omega
/-- The table and the error. -/
def OwnK (p : Pin) (us : List Us) (r : AV) (H : AH) : Prop := ∃ T : List Int, T.length = 64 ∧ r = .tup [.p (.agg (T.map pI)), .p (pI (ownersF p us).2)] ∧ H = [] ∧ ((ownersF p us).2 = 0 → T.take p.n.toNat = (ownersF p us).1 ∧ (ownersF p us).1.length = p.n.toNat)
/-- Kept for later: a goal of a walk's step. -/
theorem park_pin7 {P : Prop} (x : P) (_ : x = x) : P := x
/-- One step of a walk. -/
theorem go_pin7 {P : Prop} (h : P := by
  (first | ((first | apply LenA.map | apply NilA.map | apply NilA.mk); intro _) | ((first | apply NW.as | apply ValA.as); with_reducible assumption) | ((first | apply NW.i64 | apply NW.u32 | apply NW.u64 | apply NW.u8 | apply InA.nat | apply InA.map | apply AppA.snoc (f := pI) (a := _) rfl | apply AppA.one (f := pI) (a := _) rfl | apply AppA.snoc (f := pB) (a := _) rfl | apply AppA.one (f := pB) (a := _) rfl | apply AppA.snoc (f := pS) (a := _) rfl | apply AppA.one (f := pS) (a := _) rfl | apply AppA.snoc (f := Us.pv) (a := _) rfl | apply AppA.one (f := Us.pv) (a := _) rfl | (apply AppA.snoc (f := Us.pv) (a := ⟨_, _⟩); dsimp only [Us.pv]; exact rfl) | (apply AppA.one (f := Us.pv) (a := ⟨_, _⟩); dsimp only [Us.pv]; exact rfl) | apply AppA.map | apply AppA.nil | apply CutA.lo | apply CutA.hi); (first | omega | (simp only [lenS] at *; omega) | grind)) | ((first | (apply RemA.as; assumption) | apply RemA.self); (first | omega | (simp only [lenS] at *; omega) | grind)) | (apply ValA.as; assumption) | apply ValA.self | (apply NW.as; assumption) | (apply SzA.map; (intro _; rfl)) | with_reducible apply br_pt | with_reducible apply br_pf | with_reducible apply br_mt | with_reducible apply br_mf | apply Both.mk | ((first | apply br_T | apply br_F | apply br_mT | apply br_mF); assumption) | ((first | apply br_lss | apply br_leq | apply br_gtr | apply br_geq | apply br_dec | apply br_beq | apply br_bne | apply br_beqB | apply br_bneB | apply br_not | apply br_m | apply br_intro) <;> intro h0 <;> first | (exfalso; first | omega | exact tf h0 (by assumption) | exact tf (by assumption) h0 | exact h0 (by assumption) | exact h0 rfl | exact of_decide_eq_false h0 rfl) | skip) | refine ArrA.mk _ rfl rfl ?_ | (apply IdxA.lit; omega; exact rfl) | ((first | apply IdxA.of_nat | (apply IdxA.of_map; (first | omega | (simp only [lenS] at *; omega) | grind))); rotate_left; (first | omega | (simp only [lenS] at *; omega) | grind)) | apply AppC.own | apply CutO.part | apply IsL.set (f := pI) (a := _) rfl | apply IsL.rep (f := pI) (a := _) rfl | apply IsL.set (f := pB) (a := _) rfl | apply IsL.rep (f := pB) (a := _) rfl | apply IsL.set (f := pS) (a := _) rfl | apply IsL.rep (f := pS) (a := _) rfl | apply IsL.set (f := Us.pv) (a := _) rfl | apply IsL.rep (f := Us.pv) (a := _) rfl | (apply IsL.set (f := Us.pv) (a := ⟨_, _⟩); dsimp only [Us.pv]; exact rfl) | (apply IsL.rep (f := Us.pv) (a := ⟨_, _⟩); dsimp only [Us.pv]; exact rfl) | apply IsL.lit (f := pI) [] rfl | apply IsL.lit (f := pI) [_] rfl | apply IsL.lit (f := pB) [] rfl | apply IsL.lit (f := pB) [_] rfl | apply IsL.lit (f := pS) [] rfl | apply IsL.lit (f := pS) [_] rfl | apply IsL.lit (f := Us.pv) [] rfl | apply IsL.lit (f := Us.pv) [_] rfl | apply IsL.lit (f := Us.pv) [] rfl | apply IsL.lit (f := Us.pv) [⟨_, _⟩] rfl | (apply And.intro; (first | with_reducible rfl | (show (_ : AV) = _; rfl) | (first | omega | (simp only [lenS] at *; omega) | grind)))) <;> (solve_by_elim (newGoals := .nonDependentOnly) (symm := false) (exfalso := false) (transparency := .reducible) only [rfl, park_pin7])) : P := h
set_option maxHeartbeats 8000000 in
theorem owners_call (p : Pin) (nu : Bool) (us : List Us) : ACall Try.prog 44 [.p p.pv, .p (.list nu (us.map Us.pv))] [] (OwnK p us) := by
  refine acall_enter Try.func44 rfl rfl tabOK rfl ?_
  have hz := z64_len
  (conv => whnf); repeat' ((first | apply CondA.plain | refine' go_pin7 | (apply DrawA.quiet (by kernel_rfl) (by kernel_rfl); (conv => whnf); fail_if_success (show False))) <;> (conv => whnf))
  refine loop_rule (fun (⟨c, T⟩ : Nat × List Int) => ⟨[(1, .p (.list nu (us.map Us.pv))), (2, .ptr 0 0), (4, .ptr 1 0), (6, .ptr 2 0), (13, .p (pI c))], [some (.cells [.p (pI p.n), .p (.list p.nl (p.gs.map Grp.pv))]), some (.arr (z64.map pI)), some (.arr (T.map pI))]⟩) (fun (⟨c, T⟩ : Nat × List Int) => c ≤ 64 ∧ T = List.replicate c (-1) ++ List.replicate (64 - c) 0) (fun (⟨c, T⟩ : Nat × List Int) => 64 - c) (0, z64) ?_ ?_ ?_; (refine SubA.auto rfl rfl rfl rfl ?_ ?_ <;> repeat' (first | exact trivial | refine And.intro ?_ ?_ | with_reducible rfl | (refine pIEq ?_; (first | omega | (simp only [lenS] at *; omega) | grind)) | (refine bufMap ?_) | (refine bufNil ?_) | (refine bufEq ?_) | rfl))
  · exact ⟨Nat.zero_le _, rfl⟩
  rintro ⟨c, T⟩ ⟨hc, hT⟩
  have hTl : T.length = 64 := by rw [hT]; simp; omega
  have hTm : (T.map pI).length = 64 := by rw [List.length_map, hTl]
  rcases Nat.lt_or_ge c 64 with hlt | hge
  · have hf := fill_next hlt
    rw [← hT] at hf
    (conv => whnf); repeat' ((first | (refine cellS_int c (-1) (show 0 + ((c : Nat) : Int).toNat * 1 = c by omega) (by omega) ?_) | apply CondA.plain | refine' go_pin7 | (apply DrawA.quiet (by kernel_rfl) (by kernel_rfl); (conv => whnf); fail_if_success (show False))) <;> (conv => whnf))
    (refine' ⟨(c + 1, T.set c (-1)), _, _, _⟩; rotate_right; (refine SubA.auto rfl rfl rfl rfl ?_ ?_ <;> repeat' (first | exact trivial | refine And.intro ?_ ?_ | with_reducible rfl | (refine pIEq ?_; (first | omega | (simp only [lenS] at *; omega) | grind)) | (refine bufMap ?_) | (refine bufNil ?_) | (refine bufEq ?_) | rfl)); rotate_right; (first | omega | (simp only []; omega) | (simp; omega) | (first | omega | (simp only [lenS] at *; omega) | grind)))
    exact ⟨by omega, hf⟩
  obtain rfl : c = 64 := by omega
  have hT : T = List.replicate 64 (-1) := by rw [hT]; rfl
  rcases Decidable.em (validP p = 0) with hv | hv
  rotate_left
  · have e : ownersF p us = ([], 1) := by rw [ownersF, if_neg hv]
    (conv => whnf); repeat' ((first | (refine WholeA.mk hTm ?_) | (refine WholeA.mk hz ?_) | apply CondA.plain | refine' go_pin7 | (apply DrawA.quiet (by kernel_rfl) (by kernel_rfl); (conv => whnf); fail_if_success (show False)) | (refine CallA.scalar (pValid_call p) ?_)) <;> (conv => whnf))
    (refine' RetK.auto (.tup [.p (.agg (T.map pI)), .p (pI 1)]) ([]) rfl rfl rfl rfl _ _ _ <;> repeat' (first | exact trivial | refine And.intro ?_ ?_ | with_reducible rfl | (refine pIEq ?_; (first | omega | (simp only [lenS] at *; omega) | grind)) | (refine bufMap ?_) | (refine bufNil ?_) | (refine bufEq ?_) | rfl))
    exact ⟨T, hTl, by rw [e], rfl, fun h => by rw [e] at h; cases h⟩
  have hP := valid_of hv
  have hn := hP.n
  have h24 := hP.len
  have eO : ownersF p us = ownG p.gs us [] (List.replicate p.n.toNat (-1)) := by rw [ownersF, if_pos hv]
  have hI := Tab.init hn
  rw [← hT] at hI
  (conv => whnf); repeat' ((first | apply CondA.plain | refine' go_pin7 | (apply DrawA.quiet (by kernel_rfl) (by kernel_rfl); (conv => whnf); fail_if_success (show False)) | ((refine CallA.scalar (pValid_call p) ?_; rw [hv]))) <;> (conv => whnf))
  have hb0 : Used (List.replicate p.gs.length false) p.gs.length [] := ⟨by simp, fun i hi => by simp [List.getElem?_replicate, hi]⟩
  refine loop_rule (fun (⟨c, T, o, b, seen⟩ : Nat × List Int × List Int × List Bool × List Int) => ⟨[(2, .ptr 0 0), (4, .ptr 1 0), (6, .ptr 2 0), (8, .buf 3), (27, .p (.list nu (us.map Us.pv))), (28, .p (pI us.length)), (29, .p (pI c))], [some (.cells [.p (pI p.n), .p (.list p.nl (p.gs.map Grp.pv))]), some (.arr (z64.map pI)), some (.arr (T.map pI)), some (AO.buf 4 false (b.map pB))]⟩) (fun (⟨c, T, o, b, seen⟩ : Nat × List Int × List Int × List Bool × List Int) => c ≤ us.length ∧ Tab p T o ∧ Used b p.gs.length seen ∧ ownersF p us = ownG p.gs (us.drop c) seen o) (fun (⟨c, T, o, b, seen⟩ : Nat × List Int × List Int × List Bool × List Int) => us.length - c) (0, T, List.replicate p.n.toNat (-1), List.replicate p.gs.length false, []) ?_ ?_ ?_; (refine SubA.auto rfl rfl rfl rfl ?_ ?_ <;> repeat' (first | exact trivial | refine And.intro ?_ ?_ | with_reducible rfl | (refine pIEq ?_; (first | omega | (simp only [lenS] at *; omega) | grind)) | (refine bufMap ?_) | (refine bufNil ?_) | (refine bufEq ?_) | rfl))
  · exact ⟨Nat.zero_le _, hI, hb0, eO⟩
  clear hI hb0 eO hT
  rintro ⟨c, T, o, b, seen⟩ ⟨hc, hTab, hU, hO⟩
  have hTl := hTab.tlen hn
  have hTm : (T.map pI).length = 64 := by rw [List.length_map, hTl]
  have hbl := hU.1
  rcases Nat.lt_or_ge c us.length with hlt | hge
  rotate_left
  · rw [List.drop_eq_nil_of_le hge, ownG] at hO
    have h2 : (ownersF p us).2 = 0 := by rw [hO]
    have htk : T.take p.n.toNat = o := by
      have hol := hTab.len
      rw [hTab.eq, ← hol, List.take_left]
    (conv => whnf); repeat' ((first | (refine WholeA.mk hTm ?_) | (refine WholeA.mk hz ?_) | apply CondA.plain | refine' go_pin7 | (apply DrawA.quiet (by kernel_rfl) (by kernel_rfl); (conv => whnf); fail_if_success (show False))) <;> (conv => whnf))
    (refine' RetK.auto (.tup [.p (.agg (T.map pI)), .p (pI 0)]) ([]) rfl rfl rfl rfl _ _ _ <;> repeat' (first | exact trivial | refine And.intro ?_ ?_ | with_reducible rfl | (refine pIEq ?_; (first | omega | (simp only [lenS] at *; omega) | grind)) | (refine bufMap ?_) | (refine bufNil ?_) | (refine bufEq ?_) | rfl))
    exact ⟨T, hTl, by rw [h2], rfl, fun _ => by rw [hO]; exact ⟨htk, hTab.len⟩⟩
  rw [List.drop_eq_getElem_cons hlt] at hO
  obtain ⟨u, hu⟩ : ∃ u, us[c] = u := ⟨_, rfl⟩
  have hu1 : us[((c : Nat) : Int).toNat]? = some u := by rw [Int.toNat_natCast, List.getElem?_eq_getElem hlt, hu]
  have hc0 : (0 : Int) ≤ (c : Nat) := Int.natCast_nonneg c
  rw [hu, ownG] at hO
  rcases Decidable.em (0 ≤ u.g ∧ u.g < p.gs.length) with hg | hg
  rotate_left
  · rw [if_pos (show badU p.gs u by unfold badU; omega)] at hO
    (conv => whnf); repeat' ((first | (apply IdxA.at_ (f := Us.pv) u hc0 hu1) | (refine WholeA.mk hTm ?_) | (refine WholeA.mk hz ?_) | apply CondA.plain | refine' go_pin7 | (apply DrawA.quiet (by kernel_rfl) (by kernel_rfl); (conv => whnf); fail_if_success (show False))) <;> (conv => whnf))
    all_goals
      (refine' RetK.auto (.tup [.p (.agg (T.map pI)), .p (pI 2)]) ([]) rfl rfl rfl rfl _ _ _ <;> repeat' (first | exact trivial | refine And.intro ?_ ?_ | with_reducible rfl | (refine pIEq ?_; (first | omega | (simp only [lenS] at *; omega) | grind)) | (refine bufMap ?_) | (refine bufNil ?_) | (refine bufEq ?_) | rfl))
      exact ⟨T, hTl, by rw [hO], rfl, fun h => by rw [hO] at h; cases h⟩
  obtain ⟨hg0, hg1⟩ := hg
  obtain ⟨k, hk⟩ : ∃ k : Nat, u.g = k := ⟨u.g.toNat, by omega⟩
  have hkl : k < p.gs.length := by omega
  obtain ⟨g, hgk⟩ : ∃ g, p.gs[k] = g := ⟨_, rfl⟩
  have hgd : p.gs.getD u.g.toNat default = g := by rw [hk, Int.toNat_natCast, gs_getD hkl, hgk]
  have hgi : p.gs[u.g.toNat]? = some g := by rw [hk, Int.toNat_natCast, List.getElem?_eq_getElem hkl, hgk]
  have hgo := hP.ok g (by rw [← hgk]; exact List.getElem_mem _)
  rw [hgd] at hO
  have hbu : badU p.gs u ↔ ¬ (0 ≤ u.f ∧ u.f < g.funs.length) := by
    unfold badU
    rw [hgd]; omega
  rcases Decidable.em (0 ≤ u.f ∧ u.f < g.funs.length) with hf | hf
  rotate_left
  · rw [if_pos (hbu.2 hf)] at hO
    (conv => whnf); repeat' ((first | (apply IdxA.at_ (f := Us.pv) u hc0 hu1) | (apply IdxA.at_ (f := Grp.pv) g hg0 hgi) | (refine WholeA.mk hTm ?_) | (refine WholeA.mk hz ?_) | apply CondA.plain | refine' go_pin7 | (apply DrawA.quiet (by kernel_rfl) (by kernel_rfl); (conv => whnf); fail_if_success (show False))) <;> (conv => whnf))
    all_goals
      (refine' RetK.auto (.tup [.p (.agg (T.map pI)), .p (pI 2)]) ([]) rfl rfl rfl rfl _ _ _ <;> repeat' (first | exact trivial | refine And.intro ?_ ?_ | with_reducible rfl | (refine pIEq ?_; (first | omega | (simp only [lenS] at *; omega) | grind)) | (refine bufMap ?_) | (refine bufNil ?_) | (refine bufEq ?_) | rfl))
      exact ⟨T, hTl, by rw [hO], rfl, fun h => by rw [hO] at h; cases h⟩
  obtain ⟨hf0, hf1⟩ := hf
  rw [if_neg (fun h => hbu.1 h ⟨hf0, hf1⟩)] at hO
  have hbk : b[((k : Nat) : Int).toNat]? = some (decide (u.g ∈ seen)) := by
    have := hU.2 k hkl
    rw [hk, Int.toNat_natCast]; exact this
  have hkb : k < (b.map pB).length := by rw [List.length_map]; omega
  rcases Decidable.em (u.g ∈ seen) with hs | hs
  · rw [if_pos hs] at hO
    rw [decide_eq_true hs] at hbk
    (conv => whnf); repeat' ((first | (apply IdxA.at_ (f := Us.pv) u hc0 hu1) | (apply IdxA.at_ (f := Grp.pv) g hg0 hgi) | (refine InA.mk k hk hkb ?_) | (apply IdxA.at_ (f := pB) true (Int.natCast_nonneg k) hbk) | (refine WholeA.mk hTm ?_) | (refine WholeA.mk hz ?_) | apply CondA.plain | refine' go_pin7 | (apply DrawA.quiet (by kernel_rfl) (by kernel_rfl); (conv => whnf); fail_if_success (show False))) <;> (conv => whnf))
    (refine' RetK.auto (.tup [.p (.agg (T.map pI)), .p (pI 5)]) ([]) rfl rfl rfl rfl _ _ _ <;> repeat' (first | exact trivial | refine And.intro ?_ ?_ | with_reducible rfl | (refine pIEq ?_; (first | omega | (simp only [lenS] at *; omega) | grind)) | (refine bufMap ?_) | (refine bufNil ?_) | (refine bufEq ?_) | rfl))
    exact ⟨T, hTl, by rw [hO], rfl, fun h => by rw [hO] at h; cases h⟩
  rw [if_neg hs] at hO
  rw [decide_eq_false hs] at hbk
  have hU2 := hU.next hkl
  rw [← hk] at hU2
  (conv => whnf); repeat' ((first | (apply IdxA.at_ (f := Us.pv) u hc0 hu1) | (apply IdxA.at_ (f := Grp.pv) g hg0 hgi) | (refine InA.mk k hk hkb ?_) | (apply IdxA.at_ (f := pB) false (Int.natCast_nonneg k) hbk) | apply CondA.plain | refine' go_pin7 | (apply DrawA.quiet (by kernel_rfl) (by kernel_rfl); (conv => whnf); fail_if_success (show False))) <;> (conv => whnf))
  refine loop_rule (fun (⟨d, T2, o2⟩ : Nat × List Int × List Int) => ⟨[(2, .ptr 0 0), (4, .ptr 1 0), (6, .ptr 2 0), (8, .buf 3), (10, .ptr 4 0), (27, .p (.list nu (us.map Us.pv))), (28, .p (pI us.length)), (29, .p (pI c)), (79, .p (.list g.pn (g.pins.map pI))), (80, .p (pI g.pins.length)), (81, .p (pI d))], [some (.cells [.p (pI p.n), .p (.list p.nl (p.gs.map Grp.pv))]), some (.arr (z64.map pI)), some (.arr (T2.map pI)), some (AO.buf 4 false ((b.set k true).map pB)), some (.cells [.p (pI u.g), .p (pI u.f)])]⟩) (fun (⟨d, T2, o2⟩ : Nat × List Int × List Int) => d ≤ g.pins.length ∧ Tab p T2 o2 ∧ setOwn u.g g.pins o = setOwn u.g (g.pins.drop d) o2) (fun (⟨d, T2, o2⟩ : Nat × List Int × List Int) => g.pins.length - d) (0, T, o) ?_ ?_ ?_; (refine SubA.auto rfl rfl rfl rfl ?_ ?_ <;> repeat' (first | exact trivial | refine And.intro ?_ ?_ | with_reducible rfl | (refine pIEq ?_; (first | omega | (simp only [lenS] at *; omega) | grind)) | (refine bufMap ?_) | (refine bufNil ?_) | (refine bufEq ?_) | rfl))
  · exact ⟨Nat.zero_le _, hTab, rfl⟩
  clear hTab hTl hTm
  rintro ⟨d, T2, o2⟩ ⟨hd, hTab, hS⟩
  have hTl := hTab.tlen hn
  have hTm : (T2.map pI).length = 64 := by rw [List.length_map, hTl]
  rcases Nat.lt_or_ge d g.pins.length with hdl | hdg
  · obtain ⟨x, hx⟩ : ∃ x, g.pins[d] = x := ⟨_, rfl⟩
    have hxd : g.pins[((d : Nat) : Int).toNat]? = some x := by rw [Int.toNat_natCast, List.getElem?_eq_getElem hdl, hx]
    have hd0 : (0 : Int) ≤ (d : Nat) := Int.natCast_nonneg d
    have hxr := hgo.rng x (by rw [← hx]; exact List.getElem_mem _)
    rw [List.drop_eq_getElem_cons hdl, hx, setOwn] at hS
    obtain ⟨k2, hk2⟩ : ∃ k2 : Nat, x = k2 := ⟨x.toNat, by omega⟩
    have hkt : x.toNat = k2 := by omega
    obtain ⟨hx1, hx2⟩ := hTab.at_ (k := k2) (by omega)
    rw [hkt] at hS
    obtain ⟨v, hv2⟩ : ∃ v, o2.getD k2 (-1) = v := ⟨_, rfl⟩
    rw [hv2] at hx1 hx2 hS
    rcases Decidable.em (v = -1) with hvm | hvm
    · rw [if_neg (by simpa using hvm)] at hS
      have hT3 := hTab.set (k := k2) (by omega) (v := u.g) hg0
      (conv => whnf); repeat' ((first | (apply IdxA.at_ (f := pI) x hd0 hxd) | (refine cellX_int k2 v (show 0 + x.toNat * 1 = k2 by omega) hx1 ?_) | (refine cellS_int k2 u.g (show 0 + x.toNat * 1 = k2 by omega) (by omega) ?_) | apply CondA.plain | refine' go_pin7 | (apply DrawA.quiet (by kernel_rfl) (by kernel_rfl); (conv => whnf); fail_if_success (show False))) <;> (conv => whnf))
      (refine' ⟨(d + 1, T2.set k2 u.g, o2.set k2 u.g), _, _, _⟩; rotate_right; (refine SubA.auto rfl rfl rfl rfl ?_ ?_ <;> repeat' (first | exact trivial | refine And.intro ?_ ?_ | with_reducible rfl | (refine pIEq ?_; (first | omega | (simp only [lenS] at *; omega) | grind)) | (refine bufMap ?_) | (refine bufNil ?_) | (refine bufEq ?_) | rfl)); rotate_right; (first | omega | (simp only []; omega) | (simp; omega) | (first | omega | (simp only [lenS] at *; omega) | grind)))
      exact ⟨by omega, hT3, hS⟩
    · rw [if_pos (by simpa using hvm)] at hS
      rw [hS] at hO
      (conv => whnf); repeat' ((first | (apply IdxA.at_ (f := pI) x hd0 hxd) | (refine cellX_int k2 v (show 0 + x.toNat * 1 = k2 by omega) hx1 ?_) | (refine WholeA.mk hTm ?_) | (refine WholeA.mk hz ?_) | apply CondA.plain | refine' go_pin7 | (apply DrawA.quiet (by kernel_rfl) (by kernel_rfl); (conv => whnf); fail_if_success (show False))) <;> (conv => whnf))
      (refine' RetK.auto (.tup [.p (.agg (T2.map pI)), .p (pI 40)]) ([]) rfl rfl rfl rfl _ _ _ <;> repeat' (first | exact trivial | refine And.intro ?_ ?_ | with_reducible rfl | (refine pIEq ?_; (first | omega | (simp only [lenS] at *; omega) | grind)) | (refine bufMap ?_) | (refine bufNil ?_) | (refine bufEq ?_) | rfl))
      exact ⟨T2, hTl, by rw [hO], rfl, fun h => by rw [hO] at h; cases h⟩
  · rw [List.drop_eq_nil_of_le hdg, setOwn] at hS
    rw [hS] at hO
    (conv => whnf); repeat' ((first | apply CondA.plain | refine' go_pin7 | (apply DrawA.quiet (by kernel_rfl) (by kernel_rfl); (conv => whnf); fail_if_success (show False))) <;> (conv => whnf))
    (refine' ⟨(c + 1, T2, o2, b.set k true, seen ++ [u.g]), _, _, _⟩; rotate_right; (refine SubA.auto rfl rfl rfl rfl ?_ ?_ <;> repeat' (first | exact trivial | refine And.intro ?_ ?_ | with_reducible rfl | (refine pIEq ?_; (first | omega | (simp only [lenS] at *; omega) | grind)) | (refine bufMap ?_) | (refine bufNil ?_) | (refine bufEq ?_) | rfl)); rotate_right; (first | omega | (simp only []; omega) | (simp; omega) | (first | omega | (simp only [lenS] at *; omega) | grind)))
    exact ⟨by omega, hTab, hU2, hO⟩
end Go.Proofs.Ytcemickjholnaaa
