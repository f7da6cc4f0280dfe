/- Pinning: a problem is built. -/
import Derived.Test.Ytnogpkaehiapfaapg2
namespace Go.Proofs.Ytnogpkaehiapfaa
set_option linter.unusedSimpArgs false
set_option linter.unusedVariables false
set_option linter.unnecessarySimpa false
open Go.Abs
set_option maxRecDepth 100000
def pU (n : Nat) : PV := .v (.int .u64 n)
def fI (p : Bool × List Int) : PV := .list p.1 (p.2.map pI)
def zeroV : PV := .agg [.list true [], .list true [], .list true [], pU 0]
def probV (on : Bool) (os : List (Bool × List Int)) (mn : Bool) (ms : List Nat) (gn : Bool) (given : List Int) (t : Nat) : PV := .agg [.list on (os.map fI), .list mn (ms.map pU), .list gn (given.map pI), pU t]
def masksG (gs : List Grp) : List Nat := gs.map fun g => maskN g.pins
/-- Groups are an assignment for the first demands. -/
def fitsB (gs : List Grp) : List (List Int) → List Int → List Int → Bool
  | _, _, [] => true
  | [], _, _ :: _ => false
  | o :: r, us, g :: gr => o.contains g && freeG_ gs us g && fitsB gs r (us ++ [g]) gr
def rightP (p : Pin) (l : List ByteArray) : Prop := validP p = 0 ∧ l.length ≤ 10 ∧ ¬ badL l
instance (p : Pin) (l : List ByteArray) : Decidable (rightP p l) := by unfold rightP; infer_instance
def optsL (p : Pin) (l : List ByteArray) : List (List Int) := l.map (offersF p)
def badF (p : Pin) (l : List ByteArray) (given : List Int) : Int := if rightP p l then (if fitsB p.gs (optsL p l) [] given then 0 else 40) else 1
def BuildK (p : Pin) (l : List ByteArray) (gn : Bool) (given : List Int) (r : AV) (H : AH) : Prop := H = [] ∧ (badF p l given ≠ 0 ∧ r = .tup [.p zeroV, .p (pI (badF p l given))] ∨
  badF p l given = 0 ∧ ∃ on os mn, os.map (·.2) = optsL p l ∧ r = .tup [.p (probV on os mn (masksG p.gs) gn given (takenN p.gs given)), .p (pI 0)])
theorem fitsB_long {gs : List Grp} : ∀ {os : List (List Int)} {us given : List Int}, os.length < given.length → fitsB gs os us given = false
  | _, _, [], h => by simp at h
  | [], _, _ :: _, _ => rfl
  | o :: r, us, g :: gr, h => by
    rw [fitsB, fitsB_long (os := r) (by simp at h; omega), Bool.and_false]
theorem offersF_in {p : Pin} {f : ByteArray} {g : Int} (h : g ∈ offersF p f) : 0 ≤ g ∧ g < p.gs.length := by
  unfold offersF at h
  split at h
  · unfold offG at h
    obtain ⟨i, hi, rfl⟩ := List.mem_map.1 h
    have := List.mem_range.1 (List.mem_filter.1 hi).1
    omega
  · cases h
theorem fitsB_at {gs : List Grp} {os : List (List Int)} {given : List Int} {c : Nat} (h : c < given.length) (h2 : c < os.length) :
    fitsB gs (os.drop c) (given.take c) (given.drop c) = (os[c].contains given[c] && freeG_ gs (given.take c) given[c] && fitsB gs (os.drop (c + 1)) (given.take (c + 1)) (given.drop (c + 1))) := by
  rw [List.drop_eq_getElem_cons h, List.drop_eq_getElem_cons h2, fitsB, List.take_succ_eq_append_getElem h]
theorem masksG_at {gs : List Grp} {g : Nat} (h : g < gs.length) : (masksG gs)[((g : Nat) : Int).toNat]? = some (maskN (pinsOf gs g)) := by
  rw [Int.toNat_natCast, masksG, List.getElem?_map, List.getElem?_eq_getElem h, pinsOf, Int.toNat_natCast, List.getD_eq_getElem?_getD, List.getElem?_eq_getElem h]; rfl
theorem shl_eq {x : Int} (h0 : 0 ≤ x) (h1 : x < 64) : IntKind.u64.wrap (1 * 2 ^ min x.toNat IntKind.u64.bits) = ((2 ^ x.toNat : Nat) : Int) := by
  have hm : min x.toNat IntKind.u64.bits = x.toNat := Nat.min_eq_left (by show x.toNat ≤ 64; omega)
  have hl : 2 ^ x.toNat < 18446744073709551616 := Nat.pow_lt_pow_right (n := 64) (a := 2) (by omega) (by omega)
  rw [hm, Int.one_mul, IntKind.wrap_u64]
  have e : ((2 : Int) ^ x.toNat) = ((2 ^ x.toNat : Nat) : Int) := by rw [Int.natCast_pow]; rfl
  rw [e]; exact Int.emod_eq_of_lt (Int.natCast_nonneg _) (Int.ofNat_lt.2 hl)
def b7SC0 : Sc := (.one 2 (.one 4 (.one 5 (.one 6 (.take 7 (.one 8 .done))))))
def b7SC1 : Sc := (.one 4 (.one 5 (.one 6 (.take 7 (.one 8 .done)))))
def b7SC2 : Sc := (.one 5 (.one 6 (.take 7 (.one 8 .done))))
def b7SC3 : Sc := (.one 1 (.one 6 (.take 7 (.one 8 .done))))
def b7SC4 : Sc := (.two 1 5 b7SC2 b7SC3)
def b7SC5 : Sc := (.two 1 4 b7SC1 b7SC4)
def b7Sc : Sc := (.take 0 (.take 3 (.two 1 2 b7SC0 b7SC5)))
/-- Kept for later: a goal of a walk's step. -/
theorem park_pg3 {P : Prop} (x : P) (_ : x = x) : P := x
/-- One step of a walk. -/
theorem go_pg3 {P : Prop} (h : P := by
  (first | ((first | apply LenA.map | apply NilA.map | apply NilA.mk); intro _) | ((first | apply NW.as | apply ValA.as); with_reducible assumption) | ((first | apply NW.i64 | apply NW.u32 | apply NW.u64 | apply NW.u8 | apply InA.nat | apply InA.map | apply AppA.snoc (f := pI) (a := _) rfl | apply AppA.one (f := pI) (a := _) rfl | apply AppA.snoc (f := pB) (a := _) rfl | apply AppA.one (f := pB) (a := _) rfl | apply AppA.snoc (f := pU) (a := _) rfl | apply AppA.one (f := pU) (a := _) rfl | apply AppA.snoc (f := fI) (a := _) rfl | apply AppA.one (f := fI) (a := _) rfl | apply AppA.map | apply AppA.nil | apply CutA.lo | apply CutA.hi); (first | omega | (simp only [lenS] at *; omega) | grind)) | ((first | (apply RemA.as; assumption) | apply RemA.self); (first | omega | (simp only [lenS] at *; omega) | grind)) | (apply ValA.as; assumption) | apply ValA.self | (apply NW.as; assumption) | (apply SzA.map; (intro _; rfl)) | with_reducible apply br_pt | with_reducible apply br_pf | with_reducible apply br_mt | with_reducible apply br_mf | apply Both.mk | ((first | apply br_T | apply br_F | apply br_mT | apply br_mF); assumption) | ((first | apply br_lss | apply br_leq | apply br_gtr | apply br_geq | apply br_dec | apply br_beq | apply br_bne | apply br_beqB | apply br_bneB | apply br_not | apply br_m | apply br_intro) <;> intro h0 <;> first | (exfalso; first | omega | exact tf h0 (by assumption) | exact tf (by assumption) h0 | exact h0 (by assumption) | exact h0 rfl | exact of_decide_eq_false h0 rfl) | skip) | refine ArrA.mk _ rfl rfl ?_ | (apply IdxA.lit; omega; exact rfl) | ((first | apply IdxA.of_nat | (apply IdxA.of_map; (first | omega | (simp only [lenS] at *; omega) | grind))); rotate_left; (first | omega | (simp only [lenS] at *; omega) | grind)) | apply AppC.own | apply CutO.part | apply IsL.set (f := pI) (a := _) rfl | apply IsL.rep (f := pI) (a := _) rfl | apply IsL.set (f := pB) (a := _) rfl | apply IsL.rep (f := pB) (a := _) rfl | apply IsL.set (f := pU) (a := _) rfl | apply IsL.rep (f := pU) (a := _) rfl | apply IsL.set (f := fI) (a := _) rfl | apply IsL.rep (f := fI) (a := _) rfl | apply IsL.lit (f := pI) [] rfl | apply IsL.lit (f := pI) [_] rfl | apply IsL.lit (f := pB) [] rfl | apply IsL.lit (f := pB) [_] rfl | apply IsL.lit (f := pU) [] rfl | apply IsL.lit (f := pU) [_] rfl | apply IsL.lit (f := fI) [] rfl | apply IsL.lit (f := fI) [_] rfl | (apply And.intro; (first | with_reducible rfl | (show (_ : AV) = _; rfl) | (first | omega | (simp only [lenS] at *; omega) | grind)))) <;> (solve_by_elim (newGoals := .nonDependentOnly) (symm := false) (exfalso := false) (transparency := .reducible) only [rfl, park_pg3])) : P := h
set_option maxHeartbeats 16000000 in
theorem build_call (p : Pin) (nl gn : Bool) (l : List ByteArray) (given : List Int) : ACall Try.prog 42 [.p p.pv, .p (.list nl (l.map pS)), .p (.list gn (given.map pI))] [] (BuildK p l gn given) := by
  refine acall_enterDn 3 Try.func42 rfl rfl tabOK rfl ?_
  rcases Decidable.em (rightP p l) with hR | hR
  rotate_left
  · have e : badF p l given = 1 := by rw [badF, if_neg hR]
    rcases Decidable.em (validP p = 0) with hv | hv
    · rcases Decidable.em (l.length ≤ 10) with hl | hl
      · have hb : badL l := Decidable.byContradiction fun h => hR ⟨hv, hl, h⟩
        (conv => whnf); repeat' ((first | apply CondA.plain | refine' go_pg3 | (apply DrawA.quiet (by kernel_rfl) (by kernel_rfl); (conv => whnf); fail_if_success (show False)) | ((refine CallA.scalar (pValid_call p) ?_; rw [hv])) | ((refine CallA.scalar (bcont_call nl l) ?_; rw [decide_eq_true hb]))) <;> (conv => whnf))
        (refine' RetK.auto (.tup [.p zeroV, .p (pI 1)]) ([]) rfl rfl rfl rfl _ _ _ <;> repeat' (first | exact trivial | refine And.intro ?_ ?_ | with_reducible rfl | (refine pIEq ?_; (first | omega | (simp only [lenS] at *; omega) | grind)) | (refine bufMap ?_) | (refine bufNil ?_) | (refine bufEq ?_) | rfl))
        exact .inl ⟨by rw [e]; decide, by rw [e]⟩
      · (conv => whnf); repeat' ((first | apply CondA.plain | refine' go_pg3 | (apply DrawA.quiet (by kernel_rfl) (by kernel_rfl); (conv => whnf); fail_if_success (show False)) | ((refine CallA.scalar (pValid_call p) ?_; rw [hv])) | (refine CallA.scalar (bcont_call nl l) ?_)) <;> (conv => whnf))
        (refine' RetK.auto (.tup [.p zeroV, .p (pI 1)]) ([]) rfl rfl rfl rfl _ _ _ <;> repeat' (first | exact trivial | refine And.intro ?_ ?_ | with_reducible rfl | (refine pIEq ?_; (first | omega | (simp only [lenS] at *; omega) | grind)) | (refine bufMap ?_) | (refine bufNil ?_) | (refine bufEq ?_) | rfl))
        exact .inl ⟨by rw [e]; decide, by rw [e]⟩
    · (conv => whnf); repeat' ((first | apply CondA.plain | refine' go_pg3 | (apply DrawA.quiet (by kernel_rfl) (by kernel_rfl); (conv => whnf); fail_if_success (show False)) | (refine CallA.scalar (pValid_call p) ?_) | (refine CallA.scalar (bcont_call nl l) ?_)) <;> (conv => whnf))
      (refine' RetK.auto (.tup [.p zeroV, .p (pI 1)]) ([]) rfl rfl rfl rfl _ _ _ <;> repeat' (first | exact trivial | refine And.intro ?_ ?_ | with_reducible rfl | (refine pIEq ?_; (first | omega | (simp only [lenS] at *; omega) | grind)) | (refine bufMap ?_) | (refine bufNil ?_) | (refine bufEq ?_) | rfl))
      exact .inl ⟨by rw [e]; decide, by rw [e]⟩
  obtain ⟨hv, hl10, hnb⟩ := hR
  have hP := valid_of hv
  have hn := hP.n
  have h24 := hP.len
  (conv => whnf); repeat' ((first | apply CondA.plain | refine' go_pg3 | (apply DrawA.quiet (by kernel_rfl) (by kernel_rfl); (conv => whnf); fail_if_success (show False)) | ((refine CallA.scalar (pValid_call p) ?_; rw [hv])) | ((refine CallA.scalar (bcont_call nl l) ?_; rw [decide_eq_false hnb]))) <;> (conv => whnf))
  refine loopD_rule (fun (⟨c, nb, os⟩ : Nat × Bool × List (Bool × List Int)) => ⟨[(1, .p (.list nl (l.map pS))), (2, .p (.list gn (given.map pI))), (3, .ptr 0 0), (6, .ptr 1 0), (8, .ptr 2 0), (31, .p (.list nl (l.map pS))), (32, .p (pI l.length)), (33, .p (pI c))], [some (.cells [.p (pI p.n), .p (.list p.nl (p.gs.map Grp.pv))]), some (.cells [.p (.list true []), .p (.list true []), .p (.list true []), .p (pU 0)]), some (.cells [.buf 3, .p (.list true []), .p (.list true []), .p (pU 0)]), some (AO.buf 22 nb (os.map fI))]⟩)
    (fun _ => []) (fun ⟨c, nb, os⟩ => c ≤ l.length ∧ os.map (·.2) = optsL p (l.take c)) (fun ⟨c, _, _⟩ => l.length - c) (0, true, []) ?_ rfl ?_ ?_ ?_
  · refine SubC.cell _ 2 0 22 _ _ _ _ _ rfl rfl rfl (.sub _ (SubA.of [3] rfl ?_ ?_ rfl rfl)) <;> (repeat' (first | exact trivial | refine And.intro ?_ ?_ | with_reducible rfl | (refine pIEq ?_; (first | omega | (simp only [lenS] at *; omega) | grind)) | (refine bufMap ?_) | (refine bufNil ?_) | (refine bufEq ?_) | rfl))
  · exact ⟨Nat.zero_le _, rfl⟩
  · rintro ⟨c, nb, os⟩ _ x hx
    cases hx
  rintro ⟨c, nb, os⟩ ⟨hc, hos⟩
  have hosl : os.length = c := by
    have := congrArg List.length hos
    simp [optsL] at this
    omega
  rcases Nat.lt_or_ge c l.length with hlt | hge
  · obtain ⟨f, hf⟩ : ∃ f, l[c] = f := ⟨_, rfl⟩
    have hf1 : l[((c : Nat) : Int).toNat]? = some f := by rw [Int.toNat_natCast, List.getElem?_eq_getElem hlt, hf]
    (conv => whnf); repeat' ((first | (apply IdxA.at_ (f := pS) f (Int.natCast_nonneg c) hf1) | apply CondA.plain | refine' go_pg3 | fail) <;> (conv => whnf))
    apply DrawA.orders b7Sc (by kernel_rfl) (by kernel_rfl) (by kernel_rfl)
    (conv => whnf); repeat' ((first | (refine IsL.lit (f := fI) [(n1, offersF p f)] rfl ?_) | apply CondA.plain | refine' go_pg3 | ((refine CallA.loc [] [] rfl rfl ((Options_call p f).mono ?_); rintro _ _ ⟨⟨n1, rfl⟩, rfl⟩))) <;> (conv => whnf))
    all_goals
      refine ⟨(c + 1, false, os ++ [(n1, offersF p f)]), ?_, ?_, .sub _ ?_, rfl⟩
      · refine ⟨by omega, ?_⟩
        rw [List.map_append, hos, optsL, optsL, List.take_succ_eq_append_getElem hlt, List.map_append, hf]; rfl
      · show l.length - (c + 1) < l.length - c
        omega
      · (refine SubA.auto rfl rfl rfl rfl ?_ ?_ <;> repeat' (first | exact trivial | refine And.intro ?_ ?_ | with_reducible rfl | (refine pIEq ?_; (first | omega | (simp only [lenS] at *; omega) | grind)) | (refine bufMap ?_) | (refine bufNil ?_) | (refine bufEq ?_) | rfl))
  rw [List.take_of_length_le hge] at hos
  (conv => whnf); repeat' ((first | apply CondA.plain | refine' go_pg3 | fail) <;> (conv => whnf))
  refine loopD_rule (fun (⟨c, nm, ms⟩ : Nat × Bool × List Nat) => ⟨[(1, .p (.list nl (l.map pS))), (2, .p (.list gn (given.map pI))), (6, .ptr 1 0), (8, .ptr 2 0), (47, .p (.list p.nl (p.gs.map Grp.pv))), (48, .p (pI p.gs.length)), (49, .p (pI c))], [some (.cells [.p (pI p.n), .p (.list p.nl (p.gs.map Grp.pv))]), some (.cells [.p (.list true []), .p (.list true []), .p (.list true []), .p (pU 0)]), some (.cells [.buf 3, .buf 4, .p (.list true []), .p (pU 0)]), some (AO.buf 22 nb (os.map fI)), some (AO.buf 68 nm (ms.map pU))]⟩)
    (fun _ => []) (fun ⟨c, nm, ms⟩ => c ≤ p.gs.length ∧ ms = masksG (p.gs.take c)) (fun ⟨c, _, _⟩ => p.gs.length - c) (0, true, []) ?_ rfl ?_ ?_ ?_
  · refine SubC.cell _ 2 1 68 _ _ _ _ _ rfl rfl rfl (.sub _ (SubA.of [3, 4] rfl ?_ ?_ rfl rfl)) <;> (repeat' (first | exact trivial | refine And.intro ?_ ?_ | with_reducible rfl | (refine pIEq ?_; (first | omega | (simp only [lenS] at *; omega) | grind)) | (refine bufMap ?_) | (refine bufNil ?_) | (refine bufEq ?_) | rfl))
  · exact ⟨Nat.zero_le _, rfl⟩
  · rintro ⟨c, nm, ms⟩ _ x hx
    cases hx
  clear hc hosl hge
  rintro ⟨c, nm, ms⟩ ⟨hc, hms⟩
  have hmsl : ms.length = c := by rw [hms]; simp [masksG]; omega
  rcases Nat.lt_or_ge c p.gs.length with hlt | hge
  · obtain ⟨g, hg⟩ : ∃ g, p.gs[c] = g := ⟨_, rfl⟩
    have hg1 : p.gs[((c : Nat) : Int).toNat]? = some g := by rw [Int.toNat_natCast, List.getElem?_eq_getElem hlt, hg]
    have hgo := hP.ok g (by rw [← hg]; exact List.getElem_mem _)
    have hpr : ∀ x ∈ g.pins, 0 ≤ x ∧ x < 64 := fun x hx => by have := hgo.rng x hx; omega
    (conv => whnf); repeat' ((first | (apply IdxA.at_ (f := Grp.pv) g (Int.natCast_nonneg c) hg1) | apply CondA.plain | refine' go_pg3 | fail) <;> (conv => whnf))
    refine loopD_rule (fun (⟨d, m⟩ : Nat × Nat) => ⟨[(1, .p (.list nl (l.map pS))), (2, .p (.list gn (given.map pI))), (6, .ptr 1 0), (8, .ptr 2 0), (13, .p (pU m)), (47, .p (.list p.nl (p.gs.map Grp.pv))), (48, .p (pI p.gs.length)), (49, .p (pI c)), (54, .p (.list g.pn (g.pins.map pI))), (55, .p (pI g.pins.length)), (56, .p (pI d))], [some (.cells [.p (pI p.n), .p (.list p.nl (p.gs.map Grp.pv))]), some (.cells [.p (.list true []), .p (.list true []), .p (.list true []), .p (pU 0)]), some (.cells [.buf 3, .buf 4, .p (.list true []), .p (pU 0)]), some (AO.buf 22 nb (os.map fI)), some (AO.buf 68 nm (ms.map pU))]⟩)
      (fun _ => []) (fun ⟨d, m⟩ => d ≤ g.pins.length ∧ m = maskN (g.pins.take d)) (fun ⟨d, _⟩ => g.pins.length - d) (0, 0) ?_ rfl ?_ ?_ ?_
    · refine .sub _ (SubA.of [3, 4] rfl ?_ ?_ rfl rfl) <;> (repeat' (first | exact trivial | refine And.intro ?_ ?_ | with_reducible rfl | (refine pIEq ?_; (first | omega | (simp only [lenS] at *; omega) | grind)) | (refine bufMap ?_) | (refine bufNil ?_) | (refine bufEq ?_) | rfl))
    · exact ⟨Nat.zero_le _, rfl⟩
    · rintro ⟨d, m⟩ _ x hx
      cases hx
    rintro ⟨d, m⟩ ⟨hd, hm⟩
    rcases Nat.lt_or_ge d g.pins.length with hdl | hdg
    · obtain ⟨x, hx⟩ : ∃ x, g.pins[d] = x := ⟨_, rfl⟩
      have hx1 : g.pins[((d : Nat) : Int).toNat]? = some x := by rw [Int.toNat_natCast, List.getElem?_eq_getElem hdl, hx]
      have hxr := hpr x (by rw [← hx]; exact List.getElem_mem _)
      have hsh := shl_eq hxr.1 hxr.2
      have hml : m < 18446744073709551616 := by rw [hm]; exact maskN_lt fun y hy => hpr y (List.mem_of_mem_take hy)
      have hpl : 2 ^ x.toNat < 18446744073709551616 := Nat.pow_lt_pow_right (n := 64) (a := 2) (by omega) (by omega)
      have hor := or64u hml hpl
      have hnx : m ||| 2 ^ x.toNat = maskN (g.pins.take (d + 1)) := by rw [List.take_succ_eq_append_getElem hdl, hx, maskN_snoc, hm]
      generalize 2 ^ x.toNat = y at hsh hor hnx
      (conv => whnf); repeat' ((first | (apply IdxA.at_ (f := pI) x (Int.natCast_nonneg d) hx1) | apply CondA.plain | refine' go_pg3 | ((refine NW.mk _ hsh ?_))) <;> (conv => whnf))
      refine ⟨(d + 1, m ||| y), ⟨by omega, hnx⟩, ?_, .sub _ ?_, rfl⟩
      · show g.pins.length - (d + 1) < g.pins.length - d
        omega
      · (refine SubA.auto rfl rfl rfl rfl ?_ ?_ <;> repeat' (first | exact trivial | refine And.intro ?_ ?_ | with_reducible rfl | (refine pIEq ?_; (first | omega | (simp only [lenS] at *; omega) | grind)) | (refine bufMap ?_) | (refine bufNil ?_) | (refine bufEq ?_) | rfl))
    · rw [List.take_of_length_le hdg] at hm
      (conv => whnf); repeat' ((first | apply CondA.plain | refine' go_pg3 | fail) <;> (conv => whnf))
      refine ⟨(c + 1, false, ms ++ [m]), ⟨by omega, ?_⟩, ?_, .sub _ ?_, rfl⟩
      · rw [hms, hm, masksG, masksG, List.take_succ_eq_append_getElem hlt, List.map_append, hg]; rfl
      · show p.gs.length - (c + 1) < p.gs.length - c
        omega
      · (refine SubA.auto rfl rfl rfl rfl ?_ ?_ <;> repeat' (first | exact trivial | refine And.intro ?_ ?_ | with_reducible rfl | (refine pIEq ?_; (first | omega | (simp only [lenS] at *; omega) | grind)) | (refine bufMap ?_) | (refine bufNil ?_) | (refine bufEq ?_) | rfl))
  rw [List.take_of_length_le hge] at hms
  have hbase : badF p l given = if fitsB p.gs (optsL p l) [] given then 0 else 40 := by rw [badF, if_pos ⟨hv, hl10, hnb⟩]
  have hol : (optsL p l).length = l.length := by simp [optsL]
  have hosl2 : os.length = l.length := by
    have := congrArg List.length hos
    simp [optsL] at this
    exact this
  rcases Nat.lt_or_ge l.length given.length with hlg | hlg
  · have e : badF p l given = 40 := by rw [hbase, fitsB_long (by omega)]; rfl
    (conv => whnf); repeat' ((first | apply CondA.plain | refine' go_pg3 | fail) <;> (conv => whnf))
    refine .nil _ ?_
    conv => whnf
    (refine' RetK.auto (.tup [.p zeroV, .p (pI 40)]) ([]) rfl rfl rfl rfl _ _ _ <;> repeat' (first | exact trivial | refine And.intro ?_ ?_ | with_reducible rfl | (refine pIEq ?_; (first | omega | (simp only [lenS] at *; omega) | grind)) | (refine bufMap ?_) | (refine bufNil ?_) | (refine bufEq ?_) | rfl))
    exact .inl ⟨by rw [e]; decide, by rw [e]⟩
  (conv => whnf); repeat' ((first | apply CondA.plain | refine' go_pg3 | fail) <;> (conv => whnf))
  refine loopD_rule (fun (⟨c, t⟩ : Nat × Nat) => ⟨[(2, .p (.list gn (given.map pI))), (6, .ptr 1 0), (8, .ptr 2 0), (78, .p (.list gn (given.map pI))), (79, .p (pI given.length)), (80, .p (pI c))], [some (.cells [.p (pI p.n), .p (.list p.nl (p.gs.map Grp.pv))]), some (.cells [.p (.list true []), .p (.list true []), .p (.list true []), .p (pU 0)]), some (.cells [.buf 3, .buf 4, .p (.list true []), .p (pU t)]), some (AO.buf 22 nb (os.map fI)), some (AO.buf 68 nm (ms.map pU))]⟩)
    (fun _ => []) (fun ⟨c, t⟩ => c ≤ given.length ∧ t = takenN p.gs (given.take c) ∧ (∀ g ∈ given.take c, 0 ≤ g ∧ g < p.gs.length) ∧ fitsB p.gs (optsL p l) [] given = fitsB p.gs ((optsL p l).drop c) (given.take c) (given.drop c)) (fun ⟨c, _⟩ => given.length - c) (0, 0) ?_ rfl ?_ ?_ ?_
  · refine .sub _ (SubA.of [3, 4] rfl ?_ ?_ rfl rfl) <;> (repeat' (first | exact trivial | refine And.intro ?_ ?_ | with_reducible rfl | (refine pIEq ?_; (first | omega | (simp only [lenS] at *; omega) | grind)) | (refine bufMap ?_) | (refine bufNil ?_) | (refine bufEq ?_) | rfl))
  · exact ⟨Nat.zero_le _, rfl, fun g hg => (by cases hg), rfl⟩
  · rintro ⟨c, t⟩ _ x hx
    cases hx
  clear hc hmsl hge
  rintro ⟨c, t⟩ ⟨hc, ht, hrg, hfit⟩
  rcases Nat.lt_or_ge c given.length with hlt | hge
  · rw [fitsB_at hlt (by omega)] at hfit
    obtain ⟨g, hg⟩ : ∃ g, given[c] = g := ⟨_, rfl⟩
    have hg1 : given[((c : Nat) : Int).toNat]? = some g := by rw [Int.toNat_natCast, List.getElem?_eq_getElem hlt, hg]
    obtain ⟨⟨ob, o⟩, ho⟩ : ∃ o, os[c]'(by omega) = o := ⟨_, rfl⟩
    have ho1 : os[((c : Nat) : Int).toNat]? = some (ob, o) := by rw [Int.toNat_natCast, List.getElem?_eq_getElem (by omega), ho]
    have hoo : (optsL p l)[c]'(by omega) = o := by
      have h1 : (os.map (·.2))[c]? = some o := by rw [List.getElem?_map, List.getElem?_eq_getElem (by omega), ho]; rfl
      rw [hos, List.getElem?_eq_getElem (by omega)] at h1
      injection h1
    rw [hoo, hg] at hfit
    cases hcon : o.contains g with
    | false =>
      have e : badF p l given = 40 := by rw [hbase, hfit, hcon]; rfl
      (conv => whnf); repeat' ((first | (apply IdxA.at_ (f := pI) g (Int.natCast_nonneg c) hg1) | (apply IdxA.at_ (f := fI) (ob, o) (Int.natCast_nonneg c) ho1) | apply CondA.plain | refine' go_pg3 | fail) <;> (conv => whnf))
      apply DrawA.quiet (by kernel_rfl) (by kernel_rfl)
      (conv => whnf); repeat' ((first | (apply IdxA.at_ (f := fI) (ob, o) (Int.natCast_nonneg c) ho1) | apply CondA.plain | refine' go_pg3 | ((refine CallQ.mk' (Contains_call ob o g) ?_; rw [hcon]))) <;> (conv => whnf))
      refine .nil _ ?_
      conv => whnf
      (refine' RetK.auto (.tup [.p zeroV, .p (pI 40)]) ([]) rfl rfl rfl rfl _ _ _ <;> repeat' (first | exact trivial | refine And.intro ?_ ?_ | with_reducible rfl | (refine pIEq ?_; (first | omega | (simp only [lenS] at *; omega) | grind)) | (refine bufMap ?_) | (refine bufNil ?_) | (refine bufEq ?_) | rfl))
      exact .inl ⟨by rw [e]; decide, by rw [e]⟩
    | true =>
      have hgi : g ∈ o := List.contains_iff_mem.1 hcon
      have hgr := offersF_in (p := p) (f := l[c]'(by omega)) (g := g) (by
        have : (optsL p l)[c]'(by omega) = offersF p (l[c]'(by omega)) := by simp [optsL]
        rw [← this, hoo]; exact hgi)
      obtain ⟨z, rfl⟩ : ∃ z : Nat, g = z := ⟨g.toNat, by omega⟩
      have hzl : z < p.gs.length := by omega
      have hm1 := masksG_at hzl
      rw [← hms] at hm1
      have htl := takenN_lt hP hrg
      have hmkl := maskN_lt (pins_rng hP hgr.1 hgr.2)
      have hta := taken_and hP hrg hgr.1 hgr.2
      rw [← ht] at htl hta
      have hsn := takenN_snoc p.gs (given.take c) z
      rw [← ht] at hsn
      have hrg2 : ∀ g ∈ given.take (c + 1), 0 ≤ g ∧ g < p.gs.length := fun y hy => by
        rw [List.take_succ_eq_append_getElem hlt, hg] at hy
        rcases List.mem_append.1 hy with hy | hy
        · exact hrg y hy
        · rw [List.mem_singleton.1 hy]; exact hgr
      obtain ⟨mk, hmk⟩ : ∃ mk, maskN (pinsOf p.gs z) = mk := ⟨_, rfl⟩
      rw [hmk] at hm1 hmkl hta hsn
      have ha := and64u htl hmkl
      have hor := or64u htl hmkl
      rw [hcon, Bool.true_and, ← hta] at hfit
      obtain ⟨w, hw⟩ : ∃ w, t &&& mk = w := ⟨_, rfl⟩
      rw [hw] at ha hfit
      rcases Decidable.em (w = 0) with hw0 | hw0
      · subst hw0
        rw [decide_eq_true rfl, Bool.true_and] at hfit
        (conv => whnf); repeat' ((first | (apply IdxA.at_ (f := pI) (z : Int) (Int.natCast_nonneg c) hg1) | apply CondA.plain | refine' go_pg3 | fail) <;> (conv => whnf))
        apply DrawA.quiet (by kernel_rfl) (by kernel_rfl)
        (conv => whnf); repeat' ((first | (apply IdxA.at_ (f := fI) (ob, o) (Int.natCast_nonneg c) ho1) | (apply IdxA.at_ (f := pU) mk (Int.natCast_nonneg z) hm1) | apply CondA.plain | refine' go_pg3 | ((refine CallQ.mk' (Contains_call ob o (z : Int)) ?_; rw [hcon]))) <;> (conv => whnf))
        apply DrawA.tail 9 (by kernel_rfl) (by kernel_rfl)
        (conv => whnf); repeat' ((first | (apply IdxA.at_ (f := pU) mk (Int.natCast_nonneg z) hm1) | apply CondA.plain | refine' go_pg3 | fail) <;> (conv => whnf))
        refine ⟨(c + 1, t ||| mk), ⟨by omega, ?_, hrg2, hfit⟩, ?_, .sub _ ?_, rfl⟩
        · rw [List.take_succ_eq_append_getElem hlt, hg, hsn]
        · show given.length - (c + 1) < given.length - c
          omega
        · (refine SubA.auto rfl rfl rfl rfl ?_ ?_ <;> repeat' (first | exact trivial | refine And.intro ?_ ?_ | with_reducible rfl | (refine pIEq ?_; (first | omega | (simp only [lenS] at *; omega) | grind)) | (refine bufMap ?_) | (refine bufNil ?_) | (refine bufEq ?_) | rfl))
      · rw [decide_eq_false hw0, Bool.false_and] at hfit
        have e : badF p l given = 40 := by rw [hbase, hfit]; rfl
        (conv => whnf); repeat' ((first | (apply IdxA.at_ (f := pI) (z : Int) (Int.natCast_nonneg c) hg1) | apply CondA.plain | refine' go_pg3 | fail) <;> (conv => whnf))
        apply DrawA.quiet (by kernel_rfl) (by kernel_rfl)
        (conv => whnf); repeat' ((first | (apply IdxA.at_ (f := fI) (ob, o) (Int.natCast_nonneg c) ho1) | (apply IdxA.at_ (f := pU) mk (Int.natCast_nonneg z) hm1) | apply CondA.plain | refine' go_pg3 | ((refine CallQ.mk' (Contains_call ob o (z : Int)) ?_; rw [hcon]))) <;> (conv => whnf))
        refine .nil _ ?_
        conv => whnf
        (refine' RetK.auto (.tup [.p zeroV, .p (pI 40)]) ([]) rfl rfl rfl rfl _ _ _ <;> repeat' (first | exact trivial | refine And.intro ?_ ?_ | with_reducible rfl | (refine pIEq ?_; (first | omega | (simp only [lenS] at *; omega) | grind)) | (refine bufMap ?_) | (refine bufNil ?_) | (refine bufEq ?_) | rfl))
        exact .inl ⟨by rw [e]; decide, by rw [e]⟩
  rw [List.drop_of_length_le hge] at hfit
  have e : badF p l given = 0 := by rw [hbase, hfit, fitsB]; rfl
  rw [List.take_of_length_le hge] at ht
  subst ht hms
  (conv => whnf); repeat' ((first | apply CondA.plain | refine' go_pg3 | fail) <;> (conv => whnf))
  refine .nil _ ?_
  conv => whnf
  (refine RetK.frz _ _ _ [3, 4] ?_; refine' RetK.auto (.tup [.p (probV nb os nm (masksG p.gs) gn given (takenN p.gs given)), .p (pI 0)]) ([]) rfl rfl rfl rfl _ _ _ <;> repeat' (first | exact trivial | refine And.intro ?_ ?_ | with_reducible rfl | (refine pIEq ?_; (first | omega | (simp only [lenS] at *; omega) | grind)) | (refine bufMap ?_) | (refine bufNil ?_) | (refine bufEq ?_) | rfl))
  exact .inr ⟨e, nb, os, nm, hos, rfl⟩
end Go.Proofs.Ytnogpkaehiapfaa
