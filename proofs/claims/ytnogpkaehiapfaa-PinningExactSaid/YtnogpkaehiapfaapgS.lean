/- Pinning: the reference's Most. -/
import Derived.Test.YtnogpkaehiapfaapgR
namespace Go.Proofs.Ytnogpkaehiapfaa
set_option linter.unusedSimpArgs false
set_option linter.unusedVariables false
set_option linter.unnecessarySimpa false
open Go.Abs
set_option maxRecDepth 100000
theorem lexLt_nil_r (a : List Int) : lexLt a [] = false := by cases a <;> rfl
/-- Kept for later: a goal of a walk's step. -/
theorem park_pgS {P : Prop} (x : P) (_ : x = x) : P := x
/-- One step of a walk. -/
theorem go_pgS {P : Prop} (h : P := by
  (first | ((first | apply LenA.map | apply NilA.map | apply NilA.mk); intro _) | ((first | apply NW.as | apply ValA.as); with_reducible assumption) | ((first | apply NW.i64 | apply NW.u32 | apply NW.u64 | apply NW.u8 | apply InA.nat | apply InA.map | apply AppA.snoc (f := pI) (a := _) rfl | apply AppA.one (f := pI) (a := _) rfl | apply AppA.snoc (f := pB) (a := _) rfl | apply AppA.one (f := pB) (a := _) rfl | apply AppA.snoc (f := pS) (a := _) rfl | apply AppA.one (f := pS) (a := _) rfl | apply AppA.map | apply AppA.nil | apply CutA.lo | apply CutA.hi); (first | omega | (simp only [lenS] at *; omega) | grind)) | ((first | (apply RemA.as; assumption) | apply RemA.self); (first | omega | (simp only [lenS] at *; omega) | grind)) | (apply ValA.as; assumption) | apply ValA.self | (apply NW.as; assumption) | (apply SzA.map; (intro _; rfl)) | with_reducible apply br_pt | with_reducible apply br_pf | with_reducible apply br_mt | with_reducible apply br_mf | apply Both.mk | ((first | apply br_T | apply br_F | apply br_mT | apply br_mF); assumption) | ((first | apply br_lss | apply br_leq | apply br_gtr | apply br_geq | apply br_dec | apply br_beq | apply br_bne | apply br_beqB | apply br_bneB | apply br_not | apply br_m | apply br_intro) <;> intro h0 <;> first | (exfalso; first | omega | exact tf h0 (by assumption) | exact tf (by assumption) h0 | exact h0 (by assumption) | exact h0 rfl | exact of_decide_eq_false h0 rfl) | skip) | refine ArrA.mk _ rfl rfl ?_ | (apply IdxA.lit; omega; exact rfl) | ((first | apply IdxA.of_nat | (apply IdxA.of_map; (first | omega | (simp only [lenS] at *; omega) | grind))); rotate_left; (first | omega | (simp only [lenS] at *; omega) | grind)) | apply AppC.own | apply CutO.part | apply IsL.set (f := pI) (a := _) rfl | apply IsL.rep (f := pI) (a := _) rfl | apply IsL.set (f := pB) (a := _) rfl | apply IsL.rep (f := pB) (a := _) rfl | apply IsL.set (f := pS) (a := _) rfl | apply IsL.rep (f := pS) (a := _) rfl | apply IsL.lit (f := pI) [] rfl | apply IsL.lit (f := pI) [_] rfl | apply IsL.lit (f := pB) [] rfl | apply IsL.lit (f := pB) [_] rfl | apply IsL.lit (f := pS) [] rfl | apply IsL.lit (f := pS) [_] rfl | (apply And.intro; (first | with_reducible rfl | (show (_ : AV) = _; rfl) | (first | omega | (simp only [lenS] at *; omega) | grind)))) <;> (solve_by_elim (newGoals := .nonDependentOnly) (symm := false) (exfalso := false) (transparency := .reducible) only [rfl, park_pgS])) : P := h
theorem rless_call (na nb : Bool) (a b : List Int) (hl : a.length = b.length) : ACall Try.prog 63 [.p (.list na (a.map pI)), .p (.list nb (b.map pI))] [] fun r H => r = .p (pB (lexLt a b)) ∧ H = [] := by
  refine acall_enter Try.func63 rfl rfl tabOK rfl ?_
  (conv => whnf); repeat' ((first | apply CondA.plain | refine' go_pgS | (apply DrawA.quiet (by kernel_rfl) (by kernel_rfl); (conv => whnf); fail_if_success (show False))) <;> (conv => whnf))
  refine loop_rule (fun (c : Nat) => ⟨[(0, .p (.list na (a.map pI))), (1, .p (.list nb (b.map pI))), (5, .p (pI c))], []⟩) (fun (c : Nat) => c ≤ a.length ∧ lexLt a b = lexLt (a.drop c) (b.drop c)) (fun (c : Nat) => a.length - c) 0 ?_ ?_ ?_; (refine SubA.auto rfl rfl rfl rfl ?_ ?_ <;> repeat' (first | exact trivial | refine And.intro ?_ ?_ | with_reducible rfl | (refine pIEq ?_; (first | omega | (simp only [lenS] at *; omega) | grind)) | (refine bufMap ?_) | (refine bufNil ?_) | (refine bufEq ?_) | rfl))
  · exact ⟨Nat.zero_le _, rfl⟩
  rintro c ⟨hc, hs⟩
  rcases Nat.lt_or_ge c a.length with hlt | hge
  rotate_left
  · rw [List.drop_of_length_le hge] at hs
    have hs : lexLt a b = false := hs
    rw [hs]
    (conv => whnf); repeat' ((first | apply CondA.plain | refine' go_pgS | (apply DrawA.quiet (by kernel_rfl) (by kernel_rfl); (conv => whnf); fail_if_success (show False))) <;> (conv => whnf))
    (refine RetK.p ?_ <;> repeat' (first | exact trivial | refine And.intro ?_ ?_ | with_reducible rfl | (refine pIEq ?_; (first | omega | (simp only [lenS] at *; omega) | grind)) | (refine bufMap ?_) | (refine bufNil ?_) | (refine bufEq ?_) | rfl); all_goals try first | refine pBEq ?_ | refine pIEq ?_)
  obtain ⟨x, hx⟩ : ∃ x, a[c] = x := ⟨_, rfl⟩
  obtain ⟨y, hy⟩ : ∃ y, b[c]'(by omega) = y := ⟨_, rfl⟩
  have hx1 : a[((c : Nat) : Int).toNat]? = some x := by rw [Int.toNat_natCast, List.getElem?_eq_getElem hlt, hx]
  have hy1 : b[((c : Nat) : Int).toNat]? = some y := by rw [Int.toNat_natCast, List.getElem?_eq_getElem (by omega), hy]
  have hc0 := Int.natCast_nonneg c
  rw [List.drop_eq_getElem_cons hlt, List.drop_eq_getElem_cons (show c < b.length by omega), hx, hy, lexLt] at hs
  rcases Decidable.em (x = y) with he | he
  · subst he
    rw [decide_eq_false (Int.lt_irrefl x), decide_eq_true rfl, Bool.false_or, Bool.true_and] at hs
    (conv => whnf); repeat' ((first | (apply IdxA.at_ (f := pI) x hc0 hx1) | (apply IdxA.at_ (f := pI) x hc0 hy1) | apply CondA.plain | refine' go_pgS | (apply DrawA.quiet (by kernel_rfl) (by kernel_rfl); (conv => whnf); fail_if_success (show False))) <;> (conv => whnf))
    (refine' ⟨c + 1, _, _, _⟩; rotate_right; (refine SubA.auto rfl rfl rfl rfl ?_ ?_ <;> repeat' (first | exact trivial | refine And.intro ?_ ?_ | with_reducible rfl | (refine pIEq ?_; (first | omega | (simp only [lenS] at *; omega) | grind)) | (refine bufMap ?_) | (refine bufNil ?_) | (refine bufEq ?_) | rfl)); rotate_right; (first | omega | (simp only []; omega) | (simp; omega) | (first | omega | (simp only [lenS] at *; omega) | grind)))
    exact ⟨by omega, hs⟩
  · rw [decide_eq_false he, Bool.false_and, Bool.or_false] at hs
    rw [hs]
    (conv => whnf); repeat' ((first | (apply IdxA.at_ (f := pI) x hc0 hx1) | (apply IdxA.at_ (f := pI) y hc0 hy1) | apply CondA.plain | refine' go_pgS | (apply DrawA.quiet (by kernel_rfl) (by kernel_rfl); (conv => whnf); fail_if_success (show False))) <;> (conv => whnf))
    (refine RetK.p ?_ <;> repeat' (first | exact trivial | refine And.intro ?_ ?_ | with_reducible rfl | (refine pIEq ?_; (first | omega | (simp only [lenS] at *; omega) | grind)) | (refine bufMap ?_) | (refine bufNil ?_) | (refine bufEq ?_) | rfl); all_goals try first | refine pBEq ?_ | refine pIEq ?_)
theorem lex_irrefl : ∀ a : List Int, lexLt a a = false
  | [] => rfl
  | x :: r => by rw [lexLt, decide_eq_false (Int.lt_irrefl x), lex_irrefl r, Bool.and_false]; rfl
theorem lex_trans : ∀ {a b c : List Int}, lexLt a b = true → lexLt b c = true → lexLt a c = true
  | [], _, _, h, _ => by cases h
  | _ :: _, [], _, h, _ => by cases h
  | _ :: _, _ :: _, [], _, h => by rw [lexLt_nil_r] at h; cases h
  | x :: r, y :: s, z :: t, h1, h2 => by
    simp only [lexLt, Bool.or_eq_true, Bool.and_eq_true, decide_eq_true_eq] at h1 h2 ⊢
    rcases h1 with h1 | ⟨rfl, h1⟩
    · rcases h2 with h2 | ⟨rfl, h2⟩
      · exact .inl (by omega)
      · exact .inl h1
    · rcases h2 with h2 | ⟨rfl, h2⟩
      · exact .inl h2
      · exact .inr ⟨rfl, lex_trans h1 h2⟩
/-- The list of some bits. -/
def bitsL (b n : Nat) : List Int := ((List.range n).filter fun i => b.testBit i).map fun (i : Nat) => (i : Int)
def bitsB (b n : Nat) : List Bool := (List.range n).map fun i => b.testBit i
theorem bits_true (b n : Nat) : trueN (bitsB b n) n = bitsL b n := by
  unfold trueN bitsL
  congr 1
  refine List.filter_congr fun i hi => ?_
  have := List.mem_range.1 hi
  rw [bitsB, List.getD_eq_getElem?_getD, List.getElem?_map, List.getElem?_range this]; rfl
theorem bitsL_succ (b c : Nat) : bitsL b (c + 1) = bitsL b c ++ (if b.testBit c then [(c : Int)] else []) := by
  unfold bitsL
  rw [List.range_succ, List.filter_append, List.map_append]
  congr 1
  rw [List.filter_cons]
  split <;> rfl
theorem bitsL_asc (b n : Nat) : AscF 0 n (bitsL b n) := by rw [← bits_true]; exact trueN_asc _ _
theorem bitsL_mem {b n : Nat} {x : Int} : x ∈ bitsL b n ↔ 0 ≤ x ∧ x < n ∧ b.testBit x.toNat = true := by
  unfold bitsL
  constructor
  · intro h
    obtain ⟨i, hi, rfl⟩ := List.mem_map.1 h
    have hi := List.mem_filter.1 hi
    have := List.mem_range.1 hi.1
    exact ⟨by omega, by omega, by rw [Int.toNat_natCast]; exact hi.2⟩
  · rintro ⟨h0, h1, h2⟩
    exact List.mem_map.2 ⟨x.toNat, List.mem_filter.2 ⟨List.mem_range.2 (by omega), h2⟩, by omega⟩
theorem bits_all {n : Nat} {x : List Int} (h : AscF 0 n x) : ∃ b, b < 2 ^ n ∧ bitsL b n = x := by
  refine ⟨maskN x, ?_, ?_⟩
  · have key : ∀ (l : List Int) (t : Nat), (∀ y ∈ l, 0 ≤ y ∧ y < n) → t < 2 ^ n → l.foldl (fun t (x : Int) => t ||| 2 ^ x.toNat) t < 2 ^ n := by
      intro l
      induction l with
      | nil => intro t _ ht; exact ht
      | cons x r ih =>
        intro t hl ht
        rw [List.foldl_cons]
        refine ih _ (fun y hy => hl y (List.mem_cons_of_mem _ hy)) (Nat.or_lt_two_pow ht ?_)
        have := hl x List.mem_cons_self
        exact Nat.pow_lt_pow_right (by omega) (by omega)
    exact key x 0 (fun y hy => by have := h.rng y hy; omega) (Nat.two_pow_pos n)
  · refine asc_eq (bitsL_asc _ _).pw h.pw fun y => ?_
    rw [bitsL_mem]
    constructor
    · rintro ⟨h0, h1, h2⟩
      rw [mask_bit fun z hz => by have := h.rng z hz; omega] at h2
      have := of_decide_eq_true h2
      rwa [Int.toNat_of_nonneg h0] at this
    · intro hy
      have := h.rng y hy
      refine ⟨by omega, by omega, ?_⟩
      rw [mask_bit fun z hz => by have := h.rng z hz; omega]
      exact decide_eq_true (by rw [Int.toNat_of_nonneg (by omega)]; exact hy)
theorem bit_eq {b c : Nat} (hb : b ≤ 1024) (hc : c < 10) : ((((BitVec.ofInt IntKind.i64.bits ((b : Int).fdiv (2 ^ min ((c : Nat) : Int).toNat IntKind.i64.bits)) &&& BitVec.ofInt IntKind.i64.bits 1).toNat : Nat) : Int) == 1) = b.testBit c := by
  have h1 : min ((c : Nat) : Int).toNat IntKind.i64.bits = c := Nat.min_eq_left (by show c ≤ 64; omega)
  have h2 : (b : Int).fdiv (2 ^ c) = ((b / 2 ^ c : Nat) : Int) := by
    rw [Int.fdiv_eq_ediv_of_nonneg _ (Int.le_of_lt (Int.pow_pos (by omega)))]
    have : ((2 : Int) ^ c) = ((2 ^ c : Nat) : Int) := by rw [Int.natCast_pow]; rfl
    rw [this]; rfl
  rw [h1, h2]
  have h3 : b / 2 ^ c ≤ 1024 := Nat.le_trans (Nat.div_le_self _ _) hb
  obtain ⟨q, hq⟩ : ∃ q, b / 2 ^ c = q := ⟨_, rfl⟩
  rw [Nat.testBit_eq_decide_div_mod_eq, hq]
  rw [hq] at h3
  have h4 : (BitVec.ofInt IntKind.i64.bits ((q : Nat) : Int) &&& BitVec.ofInt IntKind.i64.bits 1).toNat = q % 2 := by
    show (BitVec.ofInt 64 ((q : Nat) : Int) &&& BitVec.ofInt 64 ((1 : Nat) : Int)).toNat = _
    rw [BitVec.ofInt_natCast, BitVec.ofInt_natCast, BitVec.toNat_and, BitVec.toNat_ofNat, BitVec.toNat_ofNat, Nat.mod_eq_of_lt (by omega), Nat.mod_eq_of_lt (by omega), Nat.and_one_is_mod]
  rw [h4, Bool.eq_iff_iff]
  simp
  omega
theorem bit_next {b c : Nat} {inn : List Bool} {v : Bool} (h : ∀ k, k < c → inn.getD k false = b.testBit k) (hc : c < inn.length) (hv : b.testBit c = v) (k : Nat) (hk : k < c + 1) : (inn.set c v).getD k false = b.testBit k := by
  rw [List.getD_eq_getElem?_getD, List.getElem?_set]
  rcases Nat.lt_or_ge k c with h1 | h1
  · rw [if_neg (by omega), ← List.getD_eq_getElem?_getD]; exact h k h1
  · obtain rfl : k = c := by omega
    rw [if_pos rfl, if_pos hc, hv]; rfl
/-- The best of the first lists. -/
structure BestI (gs : List Grp) (opts : List (List Int)) (b : Nat) (m : List Int) : Prop where
  asc : AscF 0 opts.length m
  sat : satI gs opts m = true
  best : ∀ c, c < b → satI gs opts (bitsL c opts.length) = true → (bitsL c opts.length).length < m.length ∨ (bitsL c opts.length).length = m.length ∧ lexLt (bitsL c opts.length) m = false
theorem BestI.is {gs : List Grp} {opts : List (List Int)} {m : List Int} (h : BestI gs opts (2 ^ opts.length) m) : IsMost gs opts m :=
  ⟨h.asc, h.sat, fun x hx hs => by
    obtain ⟨b, hb, rfl⟩ := bits_all hx
    exact h.best b hb hs⟩
theorem BestI.keep {gs : List Grp} {opts : List (List Int)} {m : List Int} {b : Nat} (h : BestI gs opts b m) (hn : satI gs opts (bitsL b opts.length) = true → (bitsL b opts.length).length < m.length ∨ (bitsL b opts.length).length = m.length ∧ lexLt (bitsL b opts.length) m = false) : BestI gs opts (b + 1) m :=
  ⟨h.asc, h.sat, fun c hc hs => by
    rcases Nat.lt_or_ge c b with h1 | h1
    · exact h.best c h1 hs
    · obtain rfl : c = b := by omega
      exact hn hs⟩
theorem BestI.take {gs : List Grp} {opts : List (List Int)} {m : List Int} {b : Nat} (h : BestI gs opts b m) (hs : satI gs opts (bitsL b opts.length) = true) (hn : m.length < (bitsL b opts.length).length ∨ (bitsL b opts.length).length = m.length ∧ lexLt (bitsL b opts.length) m = true) : BestI gs opts (b + 1) (bitsL b opts.length) :=
  ⟨bitsL_asc _ _, hs, fun c hc hc2 => by
    rcases Nat.lt_or_ge c b with h1 | h1
    · rcases h.best c h1 hc2 with h2 | ⟨h2, h3⟩
      · exact .inl (by omega)
      · rcases hn with h4 | ⟨h4, h5⟩
        · exact .inl (by omega)
        · refine .inr ⟨by omega, Bool.eq_false_iff.2 fun h6 => ?_⟩
          rw [lex_trans h6 h5] at h3
          cases h3
    · obtain rfl : c = b := by omega
      exact .inr ⟨rfl, lex_irrefl _⟩⟩
set_option maxHeartbeats 8000000 in
theorem rMost_call (p : Pin) (nl : Bool) (l : List ByteArray) : ACall Try.prog 34 [.p p.pv, .p (.list nl (l.map pS))] [] (F2 (mostF p l).1 (mostF p l).2) := by
  refine acall_enter Try.func34 rfl rfl tabOK rfl ?_
  rcases Decidable.em (rightP p l) with hR | hR
  rotate_left
  · have e0 : badF p l [] = 1 := by rw [badF, if_neg hR]
    have e : mostF p l = ([], 1) := by rw [mostF, if_pos (by rw [e0]; simp), e0]
    rw [e]
    (conv => whnf); repeat' ((first | apply CondA.plain | refine' go_pgS | (apply DrawA.quiet (by kernel_rfl) (by kernel_rfl); (conv => whnf); fail_if_success (show False)) | ((refine CallA.scalar (rRight_call p nl l) ?_; rw [decide_eq_false hR]))) <;> (conv => whnf))
    (refine' RetK.auto (.tup [.p (.list true []), .p (pI 1)]) ([]) rfl rfl rfl rfl _ _ _ <;> repeat' (first | exact trivial | refine And.intro ?_ ?_ | with_reducible rfl | (refine pIEq ?_; (first | omega | (simp only [lenS] at *; omega) | grind)) | (refine bufMap ?_) | (refine bufNil ?_) | (refine bufEq ?_) | rfl))
    exact ⟨true, rfl⟩
  have hP := valid_of hR.1
  have hl10 := hR.2.1
  have hol := opts_len p l
  have hM := mostL_is (p := p) (l := l)
  obtain ⟨m, hm⟩ : ∃ m, mostL (satI p.gs (optsL p l)) l.length l.length = m := ⟨_, rfl⟩
  have e : mostF p l = (m, 0) := by rw [mostF, if_neg (by rw [badF_nil hR]; simp), hm]
  rw [hm] at hM
  rw [e]
  have hrp : List.replicate (l.length : Int).toNat (pz (Value.bool false)) = (List.replicate l.length false).map pB := by
    rw [Int.toNat_natCast, List.map_replicate]; rfl
  obtain ⟨M, hM2⟩ : ∃ M, 2 ^ l.length = M := ⟨_, rfl⟩
  have hMl : M ≤ 1024 := by rw [← hM2]; exact Nat.pow_le_pow_right (n := 2) (by omega) hl10
  have hsh : IntKind.i64.wrap (1 * 2 ^ min (l.length : Int).toNat IntKind.i64.bits) = (M : Int) := by
    rw [Int.toNat_natCast, show min l.length IntKind.i64.bits = l.length from Nat.min_eq_left (by show l.length ≤ 64; omega), Int.one_mul, IntKind.wrap_i64]
    have e : ((2 : Int) ^ l.length) = (M : Int) := by rw [← hM2, Int.natCast_pow]; rfl
    rw [e]
    omega
  have hBI : BestI p.gs (optsL p l) 0 [] := ⟨⟨List.Pairwise.nil, fun y hy => by cases hy⟩, rfl, fun c hc => by omega⟩
  (conv => whnf); repeat' ((first | (refine IsL.mk _ hrp ?_) | apply CondA.plain | refine' go_pgS | ((refine CallA.scalar (rRight_call p nl l) ?_; rw [decide_eq_true hR]))) <;> (conv => whnf))
  refine loop_rule (fun (⟨b, nm, best, inn⟩ : Nat × Bool × List Int × List Bool) => ⟨[(1, .p (.list nl (l.map pS))), (2, .ptr 0 0), (6, .p (.list nm (best.map pI))), (7, .buf 1), (8, .p (pI b))], [some (.cells [.p (pI p.n), .p (.list p.nl (p.gs.map Grp.pv))]), some (AO.buf 4 false (inn.map pB))]⟩) (fun (⟨b, nm, best, inn⟩ : Nat × Bool × List Int × List Bool) => b ≤ M ∧ inn.length = l.length ∧ BestI p.gs (optsL p l) b best) (fun (⟨b, nm, best, inn⟩ : Nat × Bool × List Int × List Bool) => M - b) (0, true, [], List.replicate l.length false) ?_ ?_ ?_; (refine SubA.auto rfl rfl rfl rfl ?_ ?_ <;> repeat' (first | exact trivial | refine And.intro ?_ ?_ | with_reducible rfl | (refine pIEq ?_; (first | omega | (simp only [lenS] at *; omega) | grind)) | (refine bufMap ?_) | (refine bufNil ?_) | (refine bufEq ?_) | rfl))
  · exact ⟨Nat.zero_le _, by simp, hBI⟩
  clear hrp hBI
  rintro ⟨b, nm, best, inn⟩ ⟨hb, hil, hB⟩
  rcases Nat.lt_or_ge b M with hlt | hge
  rotate_left
  · obtain rfl : b = M := by omega
    rw [← hM2, ← hol] at hB
    have := hB.is.unique hM
    subst this
    clear hB hM e hm hM2
    (conv => whnf); repeat' ((first | ((refine NW.mk _ hsh ?_)) | apply CondA.plain | refine' go_pgS | fail) <;> (conv => whnf))
    (refine' RetK.auto (.tup [.p (.list nm (best.map pI)), .p (pI 0)]) ([]) rfl rfl rfl rfl _ _ _ <;> repeat' (first | exact trivial | refine And.intro ?_ ?_ | with_reducible rfl | (refine pIEq ?_; (first | omega | (simp only [lenS] at *; omega) | grind)) | (refine bufMap ?_) | (refine bufNil ?_) | (refine bufEq ?_) | rfl))
    exact ⟨nm, rfl⟩
  (conv => whnf); repeat' ((first | ((refine NW.mk _ hsh ?_)) | apply CondA.plain | refine' go_pgS | fail) <;> (conv => whnf))
  refine loop_rule (fun (⟨c, nx, x, inn⟩ : Nat × Bool × List Int × List Bool) => ⟨[(1, .p (.list nl (l.map pS))), (2, .ptr 0 0), (6, .p (.list nm (best.map pI))), (7, .buf 1), (8, .p (pI b)), (9, .buf 2), (29, .p (pI l.length)), (30, .p (pI c))], [some (.cells [.p (pI p.n), .p (.list p.nl (p.gs.map Grp.pv))]), some (AO.buf 4 false (inn.map pB)), some (AO.buf 3 nx (x.map pI))]⟩) (fun (⟨c, nx, x, inn⟩ : Nat × Bool × List Int × List Bool) => c ≤ l.length ∧ inn.length = l.length ∧ x = bitsL b c ∧ ∀ k, k < c → inn.getD k false = b.testBit k) (fun (⟨c, nx, x, inn⟩ : Nat × Bool × List Int × List Bool) => l.length - c) (0, true, [], inn) ?_ ?_ ?_; (refine SubA.auto1 (3, 9) rfl rfl rfl rfl rfl ?_ ?_ <;> repeat' (first | exact trivial | refine And.intro ?_ ?_ | with_reducible rfl | (refine pIEq ?_; (first | omega | (simp only [lenS] at *; omega) | grind)) | (refine bufMap ?_) | (refine bufNil ?_) | (refine bufEq ?_) | rfl))
  · exact ⟨Nat.zero_le _, hil, rfl, fun k hk => by omega⟩
  clear hil
  rintro ⟨c, nx, x, inn⟩ ⟨hc, hil, hx, hbi⟩
  rcases Nat.lt_or_ge c l.length with hcl | hcg
  · have hcm : c < (inn.map pB).length := by rw [List.length_map]; omega
    have hxl : x.length ≤ c := by rw [hx]; have := (bitsL_asc b c).len; omega
    have hE := bit_eq (show b ≤ 1024 by omega) (show c < 10 by omega)
    (conv => whnf); repeat' ((first | (refine InA.mk c rfl hcm ?_) | apply CondA.plain | refine' go_pgS | fail) <;> (conv => whnf))
    · have hbt : b.testBit c = true := by rw [← hE]; simpa using h0
      (refine' ⟨(c + 1, false, x ++ [(c : Int)], inn.set c _), _, _, _⟩; rotate_right; (refine SubA.auto rfl rfl rfl rfl ?_ ?_ <;> repeat' (first | exact trivial | refine And.intro ?_ ?_ | with_reducible rfl | (refine pIEq ?_; (first | omega | (simp only [lenS] at *; omega) | grind)) | (refine bufMap ?_) | (refine bufNil ?_) | (refine bufEq ?_) | rfl)); rotate_right; (first | omega | (simp only []; omega) | (simp; omega) | (first | omega | (simp only [lenS] at *; omega) | grind)))
      rw [hE, hbt]
      refine ⟨by omega, by rw [List.length_set]; exact hil, by rw [bitsL_succ, hbt, if_pos rfl, hx], fun k hk => ?_⟩
      exact bit_next hbi (by omega) hbt k hk
    · have hbt : b.testBit c = false := by rw [← hE]; simpa using h0
      (refine' ⟨(c + 1, nx, x, inn.set c _), _, _, _⟩; rotate_right; (refine SubA.auto rfl rfl rfl rfl ?_ ?_ <;> repeat' (first | exact trivial | refine And.intro ?_ ?_ | with_reducible rfl | (refine pIEq ?_; (first | omega | (simp only [lenS] at *; omega) | grind)) | (refine bufMap ?_) | (refine bufNil ?_) | (refine bufEq ?_) | rfl)); rotate_right; (first | omega | (simp only []; omega) | (simp; omega) | (first | omega | (simp only [lenS] at *; omega) | grind)))
      rw [hE, hbt]
      refine ⟨by omega, by rw [List.length_set]; exact hil, by rw [bitsL_succ, hbt, if_neg (by simp), List.append_nil, hx], fun k hk => ?_⟩
      exact bit_next hbi (by omega) hbt k hk
  obtain rfl : c = l.length := by omega
  have hin : inn = bitsB b l.length := by
    refine List.ext_getElem (by rw [hil]; simp [bitsB]) fun i h1 h2 => ?_
    have := hbi i (by omega)
    rw [List.getD_eq_getElem?_getD, List.getElem?_eq_getElem h1] at this
    have h3 : (bitsB b l.length)[i] = b.testBit i := by simp [bitsB]
    rw [h3, ← this]; rfl
  have hsm := rsome_call nl l inn hil (by omega)
  rw [hin, bits_true, ← hx, ← hin] at hsm
  have hxa := bitsL_asc b l.length
  rw [← hx] at hxa
  have hxr : ∀ i ∈ x, 0 ≤ i ∧ i < l.length := fun i hi => by have := hxa.rng i hi; omega
  have hxl := hxa.len
  have hse := fun n3 => rsearch_some hP n3 true l hR x hxr (by omega)
  have hkp := hB.keep
  have htk := hB.take
  rw [hol, ← hx] at hkp htk
  have hba := hB.asc.len
  clear hin hbi hcg hxa
  rcases Nat.lt_or_ge x.length best.length with h1 | h1
  · have hB2 := hkp fun _ => .inl h1
    (conv => whnf); repeat' ((first | apply CondA.plain | refine' go_pgS | fail) <;> (conv => whnf))
    (refine' ⟨(b + 1, nm, best, inn), _, _, _⟩; rotate_right; (refine SubA.auto rfl rfl rfl rfl ?_ ?_ <;> repeat' (first | exact trivial | refine And.intro ?_ ?_ | with_reducible rfl | (refine pIEq ?_; (first | omega | (simp only [lenS] at *; omega) | grind)) | (refine bufMap ?_) | (refine bufNil ?_) | (refine bufEq ?_) | rfl)); rotate_right; (first | omega | (simp only []; omega) | (simp; omega) | (first | omega | (simp only [lenS] at *; omega) | grind)))
    exact ⟨by omega, hil, hB2⟩
  have hls := fun (h : x.length = best.length) n1 n2 => rless_call n1 n2 x best h
  rcases Decidable.em (x.length = best.length ∧ lexLt x best = false) with h2 | h2
  · have hB2 := hkp fun _ => .inr h2
    obtain ⟨h2, h3⟩ := h2
    have hls := hls h2
    rw [h3] at hls
    (conv => whnf); repeat' ((first | apply CondA.plain | refine' go_pgS | fail) <;> (conv => whnf))
    refine CallA.loc [] [2] rfl rfl ((hls _ _).mono ?_)
    rintro _ _ ⟨rfl, rfl⟩
    (conv => whnf); repeat' ((first | apply CondA.plain | refine' go_pgS | fail) <;> (conv => whnf))
    (refine' ⟨(b + 1, nm, best, inn), _, _, _⟩; rotate_right; (refine SubA.auto rfl rfl rfl rfl ?_ ?_ <;> repeat' (first | exact trivial | refine And.intro ?_ ?_ | with_reducible rfl | (refine pIEq ?_; (first | omega | (simp only [lenS] at *; omega) | grind)) | (refine bufMap ?_) | (refine bufNil ?_) | (refine bufEq ?_) | rfl)); rotate_right; (first | omega | (simp only []; omega) | (simp; omega) | (first | omega | (simp only [lenS] at *; omega) | grind)))
    exact ⟨by omega, hil, hB2⟩
  have hgo : best.length < x.length ∨ x.length = best.length ∧ lexLt x best = true := by
    rcases Nat.lt_or_ge best.length x.length with h | h
    · exact .inl h
    · refine .inr ⟨by omega, ?_⟩
      cases hlx : lexLt x best with
      | true => rfl
      | false => exact absurd ⟨by omega, hlx⟩ h2
  obtain ⟨v, hv⟩ : ∃ v, satI p.gs (optsL p l) x = v := ⟨_, rfl⟩
  rw [hv] at hse
  rcases Decidable.em (best.length < x.length) with h3 | h3
  · (conv => whnf); repeat' ((first | apply CondA.plain | refine' go_pgS | fail) <;> (conv => whnf))
    refine DrawA.meet (fun (u : Unit) => ⟨[(1, .p (.list nl (l.map pS))), (2, .ptr 0 0), (6, .p (.list nm (best.map pI))), (7, .buf 1), (8, .p (pI b)), (9, .buf 2), (12, .p (pB v))], [some (.cells [.p (pI p.n), .p (.list p.nl (p.gs.map Grp.pv))]), some (AO.buf 4 false (inn.map pB)), some (AO.buf 3 nx (x.map pI))]⟩) (fun (u : Unit) => True) (DrawB.orders x17Sc (by kernel_rfl) (by kernel_rfl) (by kernel_rfl) ?_) ?_
    · (conv => whnf); repeat' ((first | apply CondA.plain | refine' go_pgS | fail) <;> (conv => whnf))
      all_goals
        refine CallA.loc [1] [] rfl rfl (hsm.mono ?_)
        rintro _ _ ⟨⟨n3, rfl⟩, rfl⟩
        (conv => whnf); repeat' ((first | apply CondA.plain | refine' go_pgS | fail) <;> (conv => whnf))
        all_goals
          refine CallA.loc [] [] rfl rfl ((hse _).mono ?_)
          rintro _ _ ⟨⟨n4, xs, rfl⟩, rfl⟩
          (conv => whnf); repeat' ((first | apply CondA.plain | refine' go_pgS | fail) <;> (conv => whnf))
          (refine' ⟨(), _, _⟩; rotate_right; (refine SubA.auto rfl rfl rfl rfl ?_ ?_ <;> repeat' (first | exact trivial | refine And.intro ?_ ?_ | with_reducible rfl | (refine pIEq ?_; (first | omega | (simp only [lenS] at *; omega) | grind)) | (refine bufMap ?_) | (refine bufNil ?_) | (refine bufEq ?_) | rfl)); rotate_right; (first | omega | (simp only []; omega) | (simp; omega) | (first | omega | (simp only [lenS] at *; omega) | grind)))
    rintro u _
    cases v with
    | true =>
      have hB2 := htk hv hgo
      (conv => whnf); repeat' ((first | apply CondA.plain | refine' go_pgS | fail) <;> (conv => whnf))
      (refine' ⟨(b + 1, nx, x, inn), _, _, _⟩; rotate_right; (refine SubA.thawed _ [2] [6] ?_; refine SubA.auto rfl rfl rfl rfl ?_ ?_ <;> repeat' (first | exact trivial | refine And.intro ?_ ?_ | with_reducible rfl | (refine pIEq ?_; (first | omega | (simp only [lenS] at *; omega) | grind)) | (refine bufMap ?_) | (refine bufNil ?_) | (refine bufEq ?_) | rfl)); rotate_right; (first | omega | (simp only []; omega) | (simp; omega) | (first | omega | (simp only [lenS] at *; omega) | grind)))
      exact ⟨by omega, hil, hB2⟩
    | false =>
      have hB2 := hkp fun h => by rw [hv] at h; cases h
      (conv => whnf); repeat' ((first | apply CondA.plain | refine' go_pgS | fail) <;> (conv => whnf))
      (refine' ⟨(b + 1, nm, best, inn), _, _, _⟩; rotate_right; (refine SubA.auto rfl rfl rfl rfl ?_ ?_ <;> repeat' (first | exact trivial | refine And.intro ?_ ?_ | with_reducible rfl | (refine pIEq ?_; (first | omega | (simp only [lenS] at *; omega) | grind)) | (refine bufMap ?_) | (refine bufNil ?_) | (refine bufEq ?_) | rfl)); rotate_right; (first | omega | (simp only []; omega) | (simp; omega) | (first | omega | (simp only [lenS] at *; omega) | grind)))
      exact ⟨by omega, hil, hB2⟩
  · have h4 : x.length = best.length := by omega
    have h5 : lexLt x best = true := by
      rcases hgo with h | h
      · exact absurd h h3
      · exact h.2
    have hls := hls h4
    rw [h5] at hls
    (conv => whnf); repeat' ((first | apply CondA.plain | refine' go_pgS | fail) <;> (conv => whnf))
    refine CallA.loc [] [2] rfl rfl ((hls _ _).mono ?_)
    rintro _ _ ⟨rfl, rfl⟩
    (conv => whnf); repeat' ((first | apply CondA.plain | refine' go_pgS | fail) <;> (conv => whnf))
    refine DrawA.meet (fun (u : Unit) => ⟨[(1, .p (.list nl (l.map pS))), (2, .ptr 0 0), (6, .p (.list nm (best.map pI))), (7, .buf 1), (8, .p (pI b)), (9, .p (.list nx (x.map pI))), (12, .p (pB v))], [some (.cells [.p (pI p.n), .p (.list p.nl (p.gs.map Grp.pv))]), some (AO.buf 4 false (inn.map pB))]⟩) (fun (u : Unit) => True) (DrawB.orders x17Sc (by kernel_rfl) (by kernel_rfl) (by kernel_rfl) ?_) ?_
    · (conv => whnf); repeat' ((first | apply CondA.plain | refine' go_pgS | fail) <;> (conv => whnf))
      all_goals
        refine CallA.loc [1] [] rfl rfl (hsm.mono ?_)
        rintro _ _ ⟨⟨n3, rfl⟩, rfl⟩
        (conv => whnf); repeat' ((first | apply CondA.plain | refine' go_pgS | fail) <;> (conv => whnf))
        all_goals
          refine CallA.loc [] [] rfl rfl ((hse _).mono ?_)
          rintro _ _ ⟨⟨n4, xs, rfl⟩, rfl⟩
          (conv => whnf); repeat' ((first | apply CondA.plain | refine' go_pgS | fail) <;> (conv => whnf))
          (refine' ⟨(), _, _⟩; rotate_right; (refine SubA.thawed _ [] [9] ?_; refine SubA.auto rfl rfl rfl rfl ?_ ?_ <;> repeat' (first | exact trivial | refine And.intro ?_ ?_ | with_reducible rfl | (refine pIEq ?_; (first | omega | (simp only [lenS] at *; omega) | grind)) | (refine bufMap ?_) | (refine bufNil ?_) | (refine bufEq ?_) | rfl)); rotate_right; (first | omega | (simp only []; omega) | (simp; omega) | (first | omega | (simp only [lenS] at *; omega) | grind)))
    rintro u _
    cases v with
    | true =>
      have hB2 := htk hv hgo
      (conv => whnf); repeat' ((first | apply CondA.plain | refine' go_pgS | fail) <;> (conv => whnf))
      (refine' ⟨(b + 1, nx, x, inn), _, _, _⟩; rotate_right; (refine SubA.auto rfl rfl rfl rfl ?_ ?_ <;> repeat' (first | exact trivial | refine And.intro ?_ ?_ | with_reducible rfl | (refine pIEq ?_; (first | omega | (simp only [lenS] at *; omega) | grind)) | (refine bufMap ?_) | (refine bufNil ?_) | (refine bufEq ?_) | rfl)); rotate_right; (first | omega | (simp only []; omega) | (simp; omega) | (first | omega | (simp only [lenS] at *; omega) | grind)))
      exact ⟨by omega, hil, hB2⟩
    | false =>
      have hB2 := hkp fun h => by rw [hv] at h; cases h
      (conv => whnf); repeat' ((first | apply CondA.plain | refine' go_pgS | fail) <;> (conv => whnf))
      (refine' ⟨(b + 1, nm, best, inn), _, _, _⟩; rotate_right; (refine SubA.auto rfl rfl rfl rfl ?_ ?_ <;> repeat' (first | exact trivial | refine And.intro ?_ ?_ | with_reducible rfl | (refine pIEq ?_; (first | omega | (simp only [lenS] at *; omega) | grind)) | (refine bufMap ?_) | (refine bufNil ?_) | (refine bufEq ?_) | rfl)); rotate_right; (first | omega | (simp only []; omega) | (simp; omega) | (first | omega | (simp only [lenS] at *; omega) | grind)))
      exact ⟨by omega, hil, hB2⟩
end Go.Proofs.Ytnogpkaehiapfaa
