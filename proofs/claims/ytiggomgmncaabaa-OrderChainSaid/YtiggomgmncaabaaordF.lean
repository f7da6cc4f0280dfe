/- Orders: distances, in the document. -/
import Derived.Test.YtiggomgmncaabaaordE
namespace Go.Proofs.Ytiggomgmncaabaa
set_option linter.unusedSimpArgs false
set_option linter.unusedVariables false
set_option linter.unnecessarySimpa false
open Go.Abs
set_option maxRecDepth 100000
/-- A search from an item, level by level. -/
structure FL (N : List NL) (a x m : Nat) (ds : List Int) : Prop where
  len : ds.length = N.length
  sgn : ∀ v, v < N.length → fa ds v = -1 ∨ 0 ≤ fa ds v
  ok : ∀ v, v < N.length → 0 ≤ fa ds v → ∃ d : Nat, d ≤ m + 1 ∧ fa ds v = d ∧ Dist N a v d x
  all : ∀ v d, d ≤ m → Dist N a v d x → 0 ≤ fa ds v
/-- Items before this one, and so many needs of this one, were looked at. -/
def FP (N : List NL) (a x m : Nat) (ds : List Int) (i j : Nat) : Prop := ∀ y : Nat, Dist N a y m x → y < i ∨ y = i → ∀ (k : Nat) (h : k < (nd N y).length), (y = i → k < j) → (a : Int) ≤ (nd N y)[k] → 0 ≤ fa ds (nd N y)[k].toNat
section
variable {N : List NL} {a x m : Nat} {ds : List Int}
theorem Dist.lastStep {v d : Nat} (h : Dist N a v (d + 1) x) : ∃ y, Dist N a y d x ∧ (v : Int) ∈ nd N y := by
  obtain ⟨h1, h2⟩ := h
  have hs := h1.stop
  obtain ⟨y, h3, h4⟩ := h1.last
  exact ⟨y, ⟨h3, fun k hk hw => h2 (k + 1) (by omega) (hw.snoc hs.1 hs.2 h4)⟩, h4⟩
theorem FL.start (hx : a ≤ x) (hxn : x < N.length) {ds0 : List Int} (hl : ds0.length = N.length) (h0 : ∀ v, v < N.length → fa ds0 v = -1) : FL N a x 0 (ds0.set x 0) ∧ ∀ v, v < N.length → 0 ≤ fa (ds0.set x 0) v → v = x := by
  have hset : ∀ v, fa (ds0.set x 0) v = if x = v then 0 else fa ds0 v := fun v => getD_put (by omega) v
  have hall : ∀ v, v < N.length → 0 ≤ fa (ds0.set x 0) v → v = x := by
    intro v hv h
    rw [hset] at h
    split at h
    · rename_i e; exact e.symm
    · rw [h0 v hv] at h; omega
  refine ⟨⟨by rw [List.length_set, hl], fun v hv => ?_, fun v hv h => ?_, fun v d hd hD => ?_⟩, hall⟩
  · rw [hset]
    split
    · right; omega
    · left; exact h0 v hv
  · have := hall v hv h
    subst this
    exact ⟨0, by omega, by rw [hset, if_pos rfl]; rfl, .nil v hx hxn, fun k hk => by omega⟩
  · obtain rfl : d = 0 := by omega
    have : v = x := by
      cases hD.1 with
      | nil => rfl
    subst this
    rw [hset, if_pos rfl]; omega
theorem FL.at_ (hF : FL N a x m ds) {i : Nat} (hi : i < N.length) : fa ds i = m ↔ Dist N a i m x := by
  constructor
  · intro h
    obtain ⟨d, _, h2, h3⟩ := hF.ok i hi (by omega)
    have : d = m := by omega
    rwa [this] at h3
  · intro h
    have h1 := hF.all i m (Nat.le_refl _) h
    obtain ⟨d, _, h2, h3⟩ := hF.ok i hi h1
    have := h.uniq h3
    omega
theorem FL.hit (hF : FL N a x m ds) {i z : Nat} (hi : i < N.length) (hm : fa ds i = m) (hz : z < N.length) (haz : a ≤ z) (he : (z : Int) ∈ nd N i) (hf : fa ds z < 0) :
    FL N a x m (ds.set z (m + 1)) ∧ ∀ v, v < N.length → 0 ≤ fa ds v → fa (ds.set z (m + 1)) v = fa ds v := by
  have hset : ∀ v, fa (ds.set z (m + 1)) v = if z = v then (m : Int) + 1 else fa ds v := fun v => getD_put (by rw [hF.len]; exact hz) v
  have hkeep : ∀ v, 0 ≤ fa ds v → fa (ds.set z (m + 1)) v = fa ds v := fun v hv => by
    rw [hset, if_neg]
    intro e; subst e; omega
  have hD := (hF.at_ hi).1 hm
  refine ⟨⟨by rw [List.length_set, hF.len], fun v hv => ?_, fun v hv h => ?_, fun v d hd h => ?_⟩, fun v _ h => hkeep v h⟩
  · rw [hset]
    split
    · right; omega
    · exact hF.sgn v hv
  · rw [hset] at h ⊢
    split at h
    · rename_i e
      subst e
      rw [if_pos rfl]
      refine ⟨m + 1, Nat.le_refl _, by omega, hD.1.snoc haz hz he, fun k hk hw => ?_⟩
      obtain ⟨d, hd, hDz⟩ := Dist.of hw
      have := hF.all z d (by omega) hDz
      omega
    · rename_i e
      rw [if_neg e]
      exact hF.ok v hv h
  · have := hF.all v d hd h
    rw [hkeep v this]; exact this
theorem FL.level (hF : FL N a x m ds) (hp : FP N a x m ds N.length 0) (hR : ∀ p ∈ N, InR N.length p.2) : FL N a x (m + 1) ds := by
  refine ⟨hF.len, hF.sgn, fun v hv h => ?_, fun v d hd h => ?_⟩
  · obtain ⟨d, h1, h2⟩ := hF.ok v hv h
    exact ⟨d, by omega, h2⟩
  · rcases Nat.lt_or_ge d (m + 1) with h1 | h1
    · exact hF.all v d (by omega) h
    · obtain rfl : d = m + 1 := by omega
      obtain ⟨y, hy, he⟩ := h.lastStep
      have hyn := hy.1.stop.2
      have hvs := h.1.stop
      obtain ⟨k, hk, e⟩ := List.getElem_of_mem he
      have := hp y hy (.inl hyn) k hk (fun e => by omega) (by rw [e]; omega)
      rw [e, Int.toNat_natCast] at this
      exact this
theorem FL.fin (hF : FL N a x N.length ds) {t : Nat} (ht : t < N.length) : fa ds t = distF N a t x := by
  rcases hF.sgn t ht with h | h
  · rw [h]
    refine (distF_none fun k hw => ?_).symm
    obtain ⟨d, _, hD⟩ := Dist.of hw
    have := hF.all t d (by have := hD.lt; omega) hD
    omega
  · obtain ⟨d, _, h2, h3⟩ := hF.ok t ht h
    rw [h2]
    exact (distF_of h3).symm
end
set_option maxHeartbeats 4000000 in
theorem far_call (nl : Bool) (N : List NL) (x t a : Nat) (hx : a ≤ x) (hxn : x < N.length) (ht : t < N.length) (hv24 : N.length ≤ 24) (hR : ∀ p ∈ N, InR N.length p.2) : ACall Try.prog 45 [.p (.list nl (N.map fI)), .p (pI x), .p (pI t), .p (pI a)] [] fun r H => r = .p (pI (distF N a t x)) ∧ H = [] := by
  refine acall_enter Try.func45 rfl rfl tabOK rfl ?_
  (conv => whnf); repeat' ((first | ((first | apply LenA.map | apply NilA.map | apply NilA.mk); intro _) | apply CondA.plain | ((first | apply NW.as | apply ValA.as); with_reducible assumption) | ((first | apply NW.i64 | apply NW.u32 | apply NW.u64 | apply NW.u8 | apply InA.nat | apply InA.map | apply AppA.snoc (f := pI) (a := _) rfl | apply AppA.one (f := pI) (a := _) rfl | apply AppA.snoc (f := pB) (a := _) rfl | apply AppA.one (f := pB) (a := _) rfl | apply AppA.map | apply AppA.nil | apply CutA.lo | apply CutA.hi); (first | omega | (simp only [lenS] at *; omega) | grind)) | ((first | (apply RemA.as; assumption) | apply RemA.self); (first | omega | (simp only [lenS] at *; omega) | grind)) | (apply ValA.as; assumption) | apply ValA.self | (apply NW.as; assumption) | (apply SzA.map; (intro _; rfl)) | with_reducible apply br_pt | with_reducible apply br_pf | with_reducible apply br_mt | with_reducible apply br_mf | apply Both.mk | ((first | apply br_T | apply br_F | apply br_mT | apply br_mF); assumption) | ((first | apply br_lss | apply br_leq | apply br_gtr | apply br_geq | apply br_dec | apply br_beq | apply br_bne | apply br_beqB | apply br_bneB | apply br_not | apply br_m | apply br_intro) <;> intro h0 <;> first | (exfalso; first | omega | exact tf h0 (by assumption) | exact tf (by assumption) h0 | exact h0 (by assumption) | exact h0 rfl | exact of_decide_eq_false h0 rfl) | skip) | refine ArrA.mk _ rfl rfl ?_ | (apply IdxA.lit; omega; exact rfl) | ((first | apply IdxA.of_nat | (apply IdxA.of_map; (first | omega | (simp only [lenS] at *; omega) | grind))); rotate_left; (first | omega | (simp only [lenS] at *; omega) | grind)) | apply AppC.own | apply IsL.set (f := pI) (a := _) rfl | apply IsL.rep (f := pI) (a := _) rfl | apply IsL.set (f := pB) (a := _) rfl | apply IsL.rep (f := pB) (a := _) rfl | apply IsL.lit (f := pI) [] rfl | apply IsL.lit (f := pI) [_] rfl | apply IsL.lit (f := pB) [] rfl | apply IsL.lit (f := pB) [_] rfl | (apply And.intro; (first | with_reducible rfl | (show (_ : AV) = _; rfl) | (first | omega | (simp only [lenS] at *; omega) | grind)))) <;> (conv => whnf))
  refine loop_rule (fun (⟨c, ds⟩ : Nat × List Int) => ⟨[(0, .p (.list nl (N.map fI))), (1, .p (pI x)), (2, .p (pI t)), (3, .p (pI a)), (9, .buf 0), (19, .p (pI N.length)), (20, .p (pI c))], [some (AO.buf 3 false (ds.map pI))]⟩) (fun (⟨c, ds⟩ : Nat × List Int) => c ≤ N.length ∧ ds.length = N.length ∧ ∀ k, k < c → fa ds k = -1) (fun (⟨c, ds⟩ : Nat × List Int) => N.length - c) (0, List.replicate N.length 0) ?_ ?_ ?_; (refine SubA.auto rfl rfl rfl rfl ?_ ?_ <;> repeat' (first | exact trivial | refine And.intro ?_ ?_ | with_reducible rfl | (refine pIEq ?_; (first | omega | (simp only [lenS] at *; omega) | grind)) | (refine bufMap ?_) | (refine bufNil ?_) | (refine bufEq ?_) | rfl))
  · exact ⟨by omega, by simp, fun k h => by omega⟩
  rintro ⟨c, ds⟩ ⟨hc, hl, hok⟩
  rcases Nat.lt_or_ge c N.length with hlt | hge
  · have hlt2 : c < ds.length := by omega
    (conv => whnf); repeat' ((first | ((first | apply LenA.map | apply NilA.map | apply NilA.mk); intro _) | apply CondA.plain | ((first | apply NW.as | apply ValA.as); with_reducible assumption) | ((first | apply NW.i64 | apply NW.u32 | apply NW.u64 | apply NW.u8 | apply InA.nat | apply InA.map | apply AppA.snoc (f := pI) (a := _) rfl | apply AppA.one (f := pI) (a := _) rfl | apply AppA.snoc (f := pB) (a := _) rfl | apply AppA.one (f := pB) (a := _) rfl | apply AppA.map | apply AppA.nil | apply CutA.lo | apply CutA.hi); (first | omega | (simp only [lenS] at *; omega) | grind)) | ((first | (apply RemA.as; assumption) | apply RemA.self); (first | omega | (simp only [lenS] at *; omega) | grind)) | (apply ValA.as; assumption) | apply ValA.self | (apply NW.as; assumption) | (apply SzA.map; (intro _; rfl)) | with_reducible apply br_pt | with_reducible apply br_pf | with_reducible apply br_mt | with_reducible apply br_mf | apply Both.mk | ((first | apply br_T | apply br_F | apply br_mT | apply br_mF); assumption) | ((first | apply br_lss | apply br_leq | apply br_gtr | apply br_geq | apply br_dec | apply br_beq | apply br_bne | apply br_beqB | apply br_bneB | apply br_not | apply br_m | apply br_intro) <;> intro h0 <;> first | (exfalso; first | omega | exact tf h0 (by assumption) | exact tf (by assumption) h0 | exact h0 (by assumption) | exact h0 rfl | exact of_decide_eq_false h0 rfl) | skip) | refine ArrA.mk _ rfl rfl ?_ | (apply IdxA.lit; omega; exact rfl) | ((first | apply IdxA.of_nat | (apply IdxA.of_map; (first | omega | (simp only [lenS] at *; omega) | grind))); rotate_left; (first | omega | (simp only [lenS] at *; omega) | grind)) | apply AppC.own | apply IsL.set (f := pI) (a := _) rfl | apply IsL.rep (f := pI) (a := _) rfl | apply IsL.set (f := pB) (a := _) rfl | apply IsL.rep (f := pB) (a := _) rfl | apply IsL.lit (f := pI) [] rfl | apply IsL.lit (f := pI) [_] rfl | apply IsL.lit (f := pB) [] rfl | apply IsL.lit (f := pB) [_] rfl | (apply And.intro; (first | with_reducible rfl | (show (_ : AV) = _; rfl) | (first | omega | (simp only [lenS] at *; omega) | grind)))) <;> (conv => whnf))
    (refine' ⟨(c + 1, ds.set c (-1)), _, _, _⟩; rotate_right; (refine SubA.auto rfl rfl rfl rfl ?_ ?_ <;> repeat' (first | exact trivial | refine And.intro ?_ ?_ | with_reducible rfl | (refine pIEq ?_; (first | omega | (simp only [lenS] at *; omega) | grind)) | (refine bufMap ?_) | (refine bufNil ?_) | (refine bufEq ?_) | rfl)); rotate_right; (first | omega | (simp only []; omega) | (simp; omega) | (first | omega | (simp only [lenS] at *; omega) | grind)))
    refine ⟨by omega, by simp [hl], fun k hk => ?_⟩
    have : fa (ds.set c (-1)) k = if c = k then -1 else fa ds k := getD_put hlt2 k
    rw [this]
    split
    · rfl
    · exact hok k (by omega)
  obtain ⟨hF0, hone⟩ := FL.start (ds0 := ds) hx hxn hl fun v hv => hok v (by omega)
  clear hok
  have hxl : x < ds.length := by omega
  (conv => whnf); repeat' ((first | ((first | apply LenA.map | apply NilA.map | apply NilA.mk); intro _) | apply CondA.plain | ((first | apply NW.as | apply ValA.as); with_reducible assumption) | ((first | apply NW.i64 | apply NW.u32 | apply NW.u64 | apply NW.u8 | apply InA.nat | apply InA.map | apply AppA.snoc (f := pI) (a := _) rfl | apply AppA.one (f := pI) (a := _) rfl | apply AppA.snoc (f := pB) (a := _) rfl | apply AppA.one (f := pB) (a := _) rfl | apply AppA.map | apply AppA.nil | apply CutA.lo | apply CutA.hi); (first | omega | (simp only [lenS] at *; omega) | grind)) | ((first | (apply RemA.as; assumption) | apply RemA.self); (first | omega | (simp only [lenS] at *; omega) | grind)) | (apply ValA.as; assumption) | apply ValA.self | (apply NW.as; assumption) | (apply SzA.map; (intro _; rfl)) | with_reducible apply br_pt | with_reducible apply br_pf | with_reducible apply br_mt | with_reducible apply br_mf | apply Both.mk | ((first | apply br_T | apply br_F | apply br_mT | apply br_mF); assumption) | ((first | apply br_lss | apply br_leq | apply br_gtr | apply br_geq | apply br_dec | apply br_beq | apply br_bne | apply br_beqB | apply br_bneB | apply br_not | apply br_m | apply br_intro) <;> intro h0 <;> first | (exfalso; first | omega | exact tf h0 (by assumption) | exact tf (by assumption) h0 | exact h0 (by assumption) | exact h0 rfl | exact of_decide_eq_false h0 rfl) | skip) | refine ArrA.mk _ rfl rfl ?_ | (apply IdxA.lit; omega; exact rfl) | ((first | apply IdxA.of_nat | (apply IdxA.of_map; (first | omega | (simp only [lenS] at *; omega) | grind))); rotate_left; (first | omega | (simp only [lenS] at *; omega) | grind)) | apply AppC.own | apply IsL.set (f := pI) (a := _) rfl | apply IsL.rep (f := pI) (a := _) rfl | apply IsL.set (f := pB) (a := _) rfl | apply IsL.rep (f := pB) (a := _) rfl | apply IsL.lit (f := pI) [] rfl | apply IsL.lit (f := pI) [_] rfl | apply IsL.lit (f := pB) [] rfl | apply IsL.lit (f := pB) [_] rfl | (apply And.intro; (first | with_reducible rfl | (show (_ : AV) = _; rfl) | (first | omega | (simp only [lenS] at *; omega) | grind)))) <;> (conv => whnf))
  refine loop_rule (fun (⟨m, ds⟩ : Nat × List Int) => ⟨[(0, .p (.list nl (N.map fI))), (2, .p (pI t)), (3, .p (pI a)), (9, .buf 0), (11, .p (pI m))], [some (AO.buf 3 false (ds.map pI))]⟩) (fun (⟨m, ds⟩ : Nat × List Int) => m ≤ N.length ∧ FL N a x m ds) (fun (⟨m, ds⟩ : Nat × List Int) => N.length - m) (0, ds.set x 0) ?_ ?_ ?_; (refine SubA.auto rfl rfl rfl rfl ?_ ?_ <;> repeat' (first | exact trivial | refine And.intro ?_ ?_ | with_reducible rfl | (refine pIEq ?_; (first | omega | (simp only [lenS] at *; omega) | grind)) | (refine bufMap ?_) | (refine bufNil ?_) | (refine bufEq ?_) | rfl))
  · exact ⟨by omega, hF0⟩
  clear hF0 hone hxl hl hc hge
  rintro ⟨m, ds⟩ ⟨hm, hF⟩
  rcases Nat.lt_or_ge m N.length with hml | hmg
  · (conv => whnf); repeat' ((first | ((first | apply LenA.map | apply NilA.map | apply NilA.mk); intro _) | apply CondA.plain | ((first | apply NW.as | apply ValA.as); with_reducible assumption) | ((first | apply NW.i64 | apply NW.u32 | apply NW.u64 | apply NW.u8 | apply InA.nat | apply InA.map | apply AppA.snoc (f := pI) (a := _) rfl | apply AppA.one (f := pI) (a := _) rfl | apply AppA.snoc (f := pB) (a := _) rfl | apply AppA.one (f := pB) (a := _) rfl | apply AppA.map | apply AppA.nil | apply CutA.lo | apply CutA.hi); (first | omega | (simp only [lenS] at *; omega) | grind)) | ((first | (apply RemA.as; assumption) | apply RemA.self); (first | omega | (simp only [lenS] at *; omega) | grind)) | (apply ValA.as; assumption) | apply ValA.self | (apply NW.as; assumption) | (apply SzA.map; (intro _; rfl)) | with_reducible apply br_pt | with_reducible apply br_pf | with_reducible apply br_mt | with_reducible apply br_mf | apply Both.mk | ((first | apply br_T | apply br_F | apply br_mT | apply br_mF); assumption) | ((first | apply br_lss | apply br_leq | apply br_gtr | apply br_geq | apply br_dec | apply br_beq | apply br_bne | apply br_beqB | apply br_bneB | apply br_not | apply br_m | apply br_intro) <;> intro h0 <;> first | (exfalso; first | omega | exact tf h0 (by assumption) | exact tf (by assumption) h0 | exact h0 (by assumption) | exact h0 rfl | exact of_decide_eq_false h0 rfl) | skip) | refine ArrA.mk _ rfl rfl ?_ | (apply IdxA.lit; omega; exact rfl) | ((first | apply IdxA.of_nat | (apply IdxA.of_map; (first | omega | (simp only [lenS] at *; omega) | grind))); rotate_left; (first | omega | (simp only [lenS] at *; omega) | grind)) | apply AppC.own | apply IsL.set (f := pI) (a := _) rfl | apply IsL.rep (f := pI) (a := _) rfl | apply IsL.set (f := pB) (a := _) rfl | apply IsL.rep (f := pB) (a := _) rfl | apply IsL.lit (f := pI) [] rfl | apply IsL.lit (f := pI) [_] rfl | apply IsL.lit (f := pB) [] rfl | apply IsL.lit (f := pB) [_] rfl | (apply And.intro; (first | with_reducible rfl | (show (_ : AV) = _; rfl) | (first | omega | (simp only [lenS] at *; omega) | grind)))) <;> (conv => whnf))
    refine loop_rule (fun (⟨i, ds⟩ : Nat × List Int) => ⟨[(0, .p (.list nl (N.map fI))), (2, .p (pI t)), (3, .p (pI a)), (9, .buf 0), (11, .p (pI m)), (12, .p (pI i))], [some (AO.buf 3 false (ds.map pI))]⟩) (fun (⟨i, ds⟩ : Nat × List Int) => i ≤ N.length ∧ FL N a x m ds ∧ FP N a x m ds i 0) (fun (⟨i, ds⟩ : Nat × List Int) => N.length - i) (0, ds) ?_ ?_ ?_; (refine SubA.auto rfl rfl rfl rfl ?_ ?_ <;> repeat' (first | exact trivial | refine And.intro ?_ ?_ | with_reducible rfl | (refine pIEq ?_; (first | omega | (simp only [lenS] at *; omega) | grind)) | (refine bufMap ?_) | (refine bufNil ?_) | (refine bufEq ?_) | rfl))
    · exact ⟨by omega, hF, fun y hy h k hk h2 => by omega⟩
    clear hF
    rintro ⟨i, ds⟩ ⟨hi, hF, hP⟩
    rcases Nat.lt_or_ge i N.length with hil | hig
    · have hRi := hR _ (List.getElem_mem hil)
      have hnd := nd_at hil
      (conv => whnf); repeat' ((first | ((first | apply LenA.map | apply NilA.map | apply NilA.mk); intro _) | apply CondA.plain | ((first | apply NW.as | apply ValA.as); with_reducible assumption) | ((first | apply NW.i64 | apply NW.u32 | apply NW.u64 | apply NW.u8 | apply InA.nat | apply InA.map | apply AppA.snoc (f := pI) (a := _) rfl | apply AppA.one (f := pI) (a := _) rfl | apply AppA.snoc (f := pB) (a := _) rfl | apply AppA.one (f := pB) (a := _) rfl | apply AppA.map | apply AppA.nil | apply CutA.lo | apply CutA.hi); (first | omega | (simp only [lenS] at *; omega) | grind)) | ((first | (apply RemA.as; assumption) | apply RemA.self); (first | omega | (simp only [lenS] at *; omega) | grind)) | (apply ValA.as; assumption) | apply ValA.self | (apply NW.as; assumption) | (apply SzA.map; (intro _; rfl)) | with_reducible apply br_pt | with_reducible apply br_pf | with_reducible apply br_mt | with_reducible apply br_mf | apply Both.mk | ((first | apply br_T | apply br_F | apply br_mT | apply br_mF); assumption) | ((first | apply br_lss | apply br_leq | apply br_gtr | apply br_geq | apply br_dec | apply br_beq | apply br_bne | apply br_beqB | apply br_bneB | apply br_not | apply br_m | apply br_intro) <;> intro h0 <;> first | (exfalso; first | omega | exact tf h0 (by assumption) | exact tf (by assumption) h0 | exact h0 (by assumption) | exact h0 rfl | exact of_decide_eq_false h0 rfl) | skip) | refine ArrA.mk _ rfl rfl ?_ | (apply IdxA.lit; omega; exact rfl) | ((first | apply IdxA.of_nat | (apply IdxA.of_map; (first | omega | (simp only [lenS] at *; omega) | grind))); rotate_left; (first | omega | (simp only [lenS] at *; omega) | grind)) | apply AppC.own | apply IsL.set (f := pI) (a := _) rfl | apply IsL.rep (f := pI) (a := _) rfl | apply IsL.set (f := pB) (a := _) rfl | apply IsL.rep (f := pB) (a := _) rfl | apply IsL.lit (f := pI) [] rfl | apply IsL.lit (f := pI) [_] rfl | apply IsL.lit (f := pB) [] rfl | apply IsL.lit (f := pB) [_] rfl | (apply And.intro; (first | with_reducible rfl | (show (_ : AV) = _; rfl) | (first | omega | (simp only [lenS] at *; omega) | grind)))) <;> (conv => whnf))
      refine loop_rule (fun (⟨j, ds⟩ : Nat × List Int) => ⟨[(0, .p (.list nl (N.map fI))), (2, .p (pI t)), (3, .p (pI a)), (9, .buf 0), (11, .p (pI m)), (12, .p (pI i)), (13, .p (pI j))], [some (AO.buf 3 false (ds.map pI))]⟩) (fun (⟨j, ds⟩ : Nat × List Int) => j ≤ N[i].2.length ∧ FL N a x m ds ∧ FP N a x m ds i j) (fun (⟨j, ds⟩ : Nat × List Int) => N[i].2.length - j) (0, ds) ?_ ?_ ?_; (refine SubA.auto rfl rfl rfl rfl ?_ ?_ <;> repeat' (first | exact trivial | refine And.intro ?_ ?_ | with_reducible rfl | (refine pIEq ?_; (first | omega | (simp only [lenS] at *; omega) | grind)) | (refine bufMap ?_) | (refine bufNil ?_) | (refine bufEq ?_) | rfl))
      · exact ⟨by omega, hF, hP⟩
      clear hF hP
      rintro ⟨j, ds⟩ ⟨hj, hF, hP⟩
      have hdl := hF.len
      have hid : i < ds.length := by omega
      have eI : fa ds i = ds[i] := getD_at hid
      have hat := hF.at_ hil
      rw [eI] at hat
      have fin : (ds[i] ≠ m ∨ N[i].2.length ≤ j) → FP N a x m ds (i + 1) 0 := by
        intro h y hy hyi k hk hkj hak
        by_cases hye : y = i
        · subst hye
          have h1 := (hF.at_ hil).2 hy
          refine hP y hy (.inr rfl) k hk (fun _ => ?_) hak
          have : (nd N y).length = N[y].2.length := by rw [hnd]
          omega
        · by_cases hye2 : y = i + 1
          · exact absurd (hkj hye2) (by omega)
          · exact hP y hy (.inl (by omega)) k hk (fun e => absurd e hye) hak
      rcases Nat.lt_or_ge j N[i].2.length with hjl | hjg
      · have hz := hRi j hjl
        have hzl : N[i].2[j].toNat < ds.length := by omega
        have hze : ((N[i].2[j].toNat : Nat) : Int) = N[i].2[j] := by omega
        have eZ : fa ds N[i].2[j].toNat = ds[N[i].2[j].toNat] := getD_at hzl
        have hhit : fa ds i = m → a ≤ N[i].2[j].toNat → fa ds N[i].2[j].toNat < 0 → _ := fun h1 h2 h3 => hF.hit (z := N[i].2[j].toNat) hil h1 (by omega) h2 (by rw [hnd, hze]; exact List.getElem_mem hjl) h3
        rw [eI, eZ] at hhit
        have miss : (ds[i] ≠ m ∨ N[i].2[j] < a ∨ 0 ≤ fa ds N[i].2[j].toNat) → FP N a x m ds i (j + 1) := by
          intro h y hy hyi k hk hkj hak
          by_cases hye : y = i
          · subst hye
            have := (hF.at_ hil).2 hy
            rcases Nat.lt_or_ge k j with h1 | h1
            · exact hP y hy hyi k hk (fun _ => h1) hak
            · obtain rfl : k = j := by have := hkj rfl; omega
              simp only [hnd] at hak ⊢
              rcases h with h | h | h
              · omega
              · omega
              · exact h
          · exact hP y hy hyi k hk (fun e => absurd e hye) hak
        (conv => whnf); repeat' ((first | ((first | apply LenA.map | apply NilA.map | apply NilA.mk); intro _) | apply CondA.plain | ((first | apply NW.as | apply ValA.as); with_reducible assumption) | ((first | apply NW.i64 | apply NW.u32 | apply NW.u64 | apply NW.u8 | apply InA.nat | apply InA.map | apply AppA.snoc (f := pI) (a := _) rfl | apply AppA.one (f := pI) (a := _) rfl | apply AppA.snoc (f := pB) (a := _) rfl | apply AppA.one (f := pB) (a := _) rfl | apply AppA.map | apply AppA.nil | apply CutA.lo | apply CutA.hi); (first | omega | (simp only [lenS] at *; omega) | grind)) | ((first | (apply RemA.as; assumption) | apply RemA.self); (first | omega | (simp only [lenS] at *; omega) | grind)) | (apply ValA.as; assumption) | apply ValA.self | (apply NW.as; assumption) | (apply SzA.map; (intro _; rfl)) | with_reducible apply br_pt | with_reducible apply br_pf | with_reducible apply br_mt | with_reducible apply br_mf | apply Both.mk | ((first | apply br_T | apply br_F | apply br_mT | apply br_mF); assumption) | ((first | apply br_lss | apply br_leq | apply br_gtr | apply br_geq | apply br_dec | apply br_beq | apply br_bne | apply br_beqB | apply br_bneB | apply br_not | apply br_m | apply br_intro) <;> intro h0 <;> first | (exfalso; first | omega | exact tf h0 (by assumption) | exact tf (by assumption) h0 | exact h0 (by assumption) | exact h0 rfl | exact of_decide_eq_false h0 rfl) | skip) | refine ArrA.mk _ rfl rfl ?_ | (apply IdxA.lit; omega; exact rfl) | ((first | apply IdxA.of_nat | (apply IdxA.of_map; (first | omega | (simp only [lenS] at *; omega) | grind))); rotate_left; (first | omega | (simp only [lenS] at *; omega) | grind)) | apply AppC.own | apply IsL.set (f := pI) (a := _) rfl | apply IsL.rep (f := pI) (a := _) rfl | apply IsL.set (f := pB) (a := _) rfl | apply IsL.rep (f := pB) (a := _) rfl | apply IsL.lit (f := pI) [] rfl | apply IsL.lit (f := pI) [_] rfl | apply IsL.lit (f := pB) [] rfl | apply IsL.lit (f := pB) [_] rfl | (apply And.intro; (first | with_reducible rfl | (show (_ : AV) = _; rfl) | (first | omega | (simp only [lenS] at *; omega) | grind)))) <;> (conv => whnf))
        · obtain ⟨h1, h2⟩ := hhit (by assumption) (by omega) (by omega)
          (refine' ⟨(j + 1, ds.set N[i].2[j].toNat (m + 1)), _, _, _⟩; rotate_right; (refine SubA.auto rfl rfl rfl rfl ?_ ?_ <;> repeat' (first | exact trivial | refine And.intro ?_ ?_ | with_reducible rfl | (refine pIEq ?_; (first | omega | (simp only [lenS] at *; omega) | grind)) | (refine bufMap ?_) | (refine bufNil ?_) | (refine bufEq ?_) | rfl)); rotate_right; (first | omega | (simp only []; omega) | (simp; omega) | (first | omega | (simp only [lenS] at *; omega) | grind)))
          refine ⟨by omega, h1, fun y hy hyi k hk hkj hak => ?_⟩
          by_cases hye : y = i
          · subst hye
            rcases Nat.lt_or_ge k j with h3 | h3
            · have h4 := hP y hy hyi k hk (fun _ => h3) hak
              have h5 := hR _ (List.getElem_mem hil) k (by rw [← hnd]; exact hk)
              simp only [hnd] at h4 ⊢
              rw [h2 _ (by omega) h4]; exact h4
            · obtain rfl : k = j := by have := hkj rfl; omega
              simp only [hnd]
              have : fa (ds.set N[y].2[k].toNat (m + 1)) N[y].2[k].toNat = m + 1 := by
                unfold fa; rw [getD_put hzl, if_pos rfl]
              omega
          · have h4 := hP y hy hyi k hk (fun e => absurd e hye) hak
            have hyn := hy.1.stop.2
            have h5 := hR _ (List.getElem_mem hyn) k (by rw [← nd_at hyn]; exact hk)
            simp only [nd_at hyn] at h4 ⊢
            rw [h2 _ (by omega) h4]; exact h4
        all_goals first
          | ((refine' ⟨(j + 1, ds), _, _, _⟩; rotate_right; (refine SubA.auto rfl rfl rfl rfl ?_ ?_ <;> repeat' (first | exact trivial | refine And.intro ?_ ?_ | with_reducible rfl | (refine pIEq ?_; (first | omega | (simp only [lenS] at *; omega) | grind)) | (refine bufMap ?_) | (refine bufNil ?_) | (refine bufEq ?_) | rfl)); rotate_right; (first | omega | (simp only []; omega) | (simp; omega) | (first | omega | (simp only [lenS] at *; omega) | grind))); exact ⟨by omega, hF, miss (by omega)⟩)
          | ((refine' ⟨(i + 1, ds), _, _, _⟩; rotate_right; (refine SubA.auto rfl rfl rfl rfl ?_ ?_ <;> repeat' (first | exact trivial | refine And.intro ?_ ?_ | with_reducible rfl | (refine pIEq ?_; (first | omega | (simp only [lenS] at *; omega) | grind)) | (refine bufMap ?_) | (refine bufNil ?_) | (refine bufEq ?_) | rfl)); rotate_right; (first | omega | (simp only []; omega) | (simp; omega) | (first | omega | (simp only [lenS] at *; omega) | grind))); exact ⟨by omega, hF, fin (.inl (by assumption))⟩)
          | trace_state
      · (conv => whnf); repeat' ((first | ((first | apply LenA.map | apply NilA.map | apply NilA.mk); intro _) | apply CondA.plain | ((first | apply NW.as | apply ValA.as); with_reducible assumption) | ((first | apply NW.i64 | apply NW.u32 | apply NW.u64 | apply NW.u8 | apply InA.nat | apply InA.map | apply AppA.snoc (f := pI) (a := _) rfl | apply AppA.one (f := pI) (a := _) rfl | apply AppA.snoc (f := pB) (a := _) rfl | apply AppA.one (f := pB) (a := _) rfl | apply AppA.map | apply AppA.nil | apply CutA.lo | apply CutA.hi); (first | omega | (simp only [lenS] at *; omega) | grind)) | ((first | (apply RemA.as; assumption) | apply RemA.self); (first | omega | (simp only [lenS] at *; omega) | grind)) | (apply ValA.as; assumption) | apply ValA.self | (apply NW.as; assumption) | (apply SzA.map; (intro _; rfl)) | with_reducible apply br_pt | with_reducible apply br_pf | with_reducible apply br_mt | with_reducible apply br_mf | apply Both.mk | ((first | apply br_T | apply br_F | apply br_mT | apply br_mF); assumption) | ((first | apply br_lss | apply br_leq | apply br_gtr | apply br_geq | apply br_dec | apply br_beq | apply br_bne | apply br_beqB | apply br_bneB | apply br_not | apply br_m | apply br_intro) <;> intro h0 <;> first | (exfalso; first | omega | exact tf h0 (by assumption) | exact tf (by assumption) h0 | exact h0 (by assumption) | exact h0 rfl | exact of_decide_eq_false h0 rfl) | skip) | refine ArrA.mk _ rfl rfl ?_ | (apply IdxA.lit; omega; exact rfl) | ((first | apply IdxA.of_nat | (apply IdxA.of_map; (first | omega | (simp only [lenS] at *; omega) | grind))); rotate_left; (first | omega | (simp only [lenS] at *; omega) | grind)) | apply AppC.own | apply IsL.set (f := pI) (a := _) rfl | apply IsL.rep (f := pI) (a := _) rfl | apply IsL.set (f := pB) (a := _) rfl | apply IsL.rep (f := pB) (a := _) rfl | apply IsL.lit (f := pI) [] rfl | apply IsL.lit (f := pI) [_] rfl | apply IsL.lit (f := pB) [] rfl | apply IsL.lit (f := pB) [_] rfl | (apply And.intro; (first | with_reducible rfl | (show (_ : AV) = _; rfl) | (first | omega | (simp only [lenS] at *; omega) | grind)))) <;> (conv => whnf))
        (refine' ⟨(i + 1, ds), _, _, _⟩; rotate_right; (refine SubA.auto rfl rfl rfl rfl ?_ ?_ <;> repeat' (first | exact trivial | refine And.intro ?_ ?_ | with_reducible rfl | (refine pIEq ?_; (first | omega | (simp only [lenS] at *; omega) | grind)) | (refine bufMap ?_) | (refine bufNil ?_) | (refine bufEq ?_) | rfl)); rotate_right; (first | omega | (simp only []; omega) | (simp; omega) | (first | omega | (simp only [lenS] at *; omega) | grind)))
        exact ⟨by omega, hF, fin (.inr hjg)⟩
    · (conv => whnf); repeat' ((first | ((first | apply LenA.map | apply NilA.map | apply NilA.mk); intro _) | apply CondA.plain | ((first | apply NW.as | apply ValA.as); with_reducible assumption) | ((first | apply NW.i64 | apply NW.u32 | apply NW.u64 | apply NW.u8 | apply InA.nat | apply InA.map | apply AppA.snoc (f := pI) (a := _) rfl | apply AppA.one (f := pI) (a := _) rfl | apply AppA.snoc (f := pB) (a := _) rfl | apply AppA.one (f := pB) (a := _) rfl | apply AppA.map | apply AppA.nil | apply CutA.lo | apply CutA.hi); (first | omega | (simp only [lenS] at *; omega) | grind)) | ((first | (apply RemA.as; assumption) | apply RemA.self); (first | omega | (simp only [lenS] at *; omega) | grind)) | (apply ValA.as; assumption) | apply ValA.self | (apply NW.as; assumption) | (apply SzA.map; (intro _; rfl)) | with_reducible apply br_pt | with_reducible apply br_pf | with_reducible apply br_mt | with_reducible apply br_mf | apply Both.mk | ((first | apply br_T | apply br_F | apply br_mT | apply br_mF); assumption) | ((first | apply br_lss | apply br_leq | apply br_gtr | apply br_geq | apply br_dec | apply br_beq | apply br_bne | apply br_beqB | apply br_bneB | apply br_not | apply br_m | apply br_intro) <;> intro h0 <;> first | (exfalso; first | omega | exact tf h0 (by assumption) | exact tf (by assumption) h0 | exact h0 (by assumption) | exact h0 rfl | exact of_decide_eq_false h0 rfl) | skip) | refine ArrA.mk _ rfl rfl ?_ | (apply IdxA.lit; omega; exact rfl) | ((first | apply IdxA.of_nat | (apply IdxA.of_map; (first | omega | (simp only [lenS] at *; omega) | grind))); rotate_left; (first | omega | (simp only [lenS] at *; omega) | grind)) | apply AppC.own | apply IsL.set (f := pI) (a := _) rfl | apply IsL.rep (f := pI) (a := _) rfl | apply IsL.set (f := pB) (a := _) rfl | apply IsL.rep (f := pB) (a := _) rfl | apply IsL.lit (f := pI) [] rfl | apply IsL.lit (f := pI) [_] rfl | apply IsL.lit (f := pB) [] rfl | apply IsL.lit (f := pB) [_] rfl | (apply And.intro; (first | with_reducible rfl | (show (_ : AV) = _; rfl) | (first | omega | (simp only [lenS] at *; omega) | grind)))) <;> (conv => whnf))
      (refine' ⟨(m + 1, ds), _, _, _⟩; rotate_right; (refine SubA.auto rfl rfl rfl rfl ?_ ?_ <;> repeat' (first | exact trivial | refine And.intro ?_ ?_ | with_reducible rfl | (refine pIEq ?_; (first | omega | (simp only [lenS] at *; omega) | grind)) | (refine bufMap ?_) | (refine bufNil ?_) | (refine bufEq ?_) | rfl)); rotate_right; (first | omega | (simp only []; omega) | (simp; omega) | (first | omega | (simp only [lenS] at *; omega) | grind)))
      obtain rfl : i = N.length := by omega
      exact ⟨by omega, hF.level hP hR⟩
  · obtain rfl : m = N.length := by omega
    have hfin := hF.fin ht
    have htl : t < ds.length := by rw [hF.len]; exact ht
    have eT : fa ds t = ds[t] := getD_at htl
    rw [eT] at hfin
    (conv => whnf); repeat' ((first | ((first | apply LenA.map | apply NilA.map | apply NilA.mk); intro _) | apply CondA.plain | ((first | apply NW.as | apply ValA.as); with_reducible assumption) | ((first | apply NW.i64 | apply NW.u32 | apply NW.u64 | apply NW.u8 | apply InA.nat | apply InA.map | apply AppA.snoc (f := pI) (a := _) rfl | apply AppA.one (f := pI) (a := _) rfl | apply AppA.snoc (f := pB) (a := _) rfl | apply AppA.one (f := pB) (a := _) rfl | apply AppA.map | apply AppA.nil | apply CutA.lo | apply CutA.hi); (first | omega | (simp only [lenS] at *; omega) | grind)) | ((first | (apply RemA.as; assumption) | apply RemA.self); (first | omega | (simp only [lenS] at *; omega) | grind)) | (apply ValA.as; assumption) | apply ValA.self | (apply NW.as; assumption) | (apply SzA.map; (intro _; rfl)) | with_reducible apply br_pt | with_reducible apply br_pf | with_reducible apply br_mt | with_reducible apply br_mf | apply Both.mk | ((first | apply br_T | apply br_F | apply br_mT | apply br_mF); assumption) | ((first | apply br_lss | apply br_leq | apply br_gtr | apply br_geq | apply br_dec | apply br_beq | apply br_bne | apply br_beqB | apply br_bneB | apply br_not | apply br_m | apply br_intro) <;> intro h0 <;> first | (exfalso; first | omega | exact tf h0 (by assumption) | exact tf (by assumption) h0 | exact h0 (by assumption) | exact h0 rfl | exact of_decide_eq_false h0 rfl) | skip) | refine ArrA.mk _ rfl rfl ?_ | (apply IdxA.lit; omega; exact rfl) | ((first | apply IdxA.of_nat | (apply IdxA.of_map; (first | omega | (simp only [lenS] at *; omega) | grind))); rotate_left; (first | omega | (simp only [lenS] at *; omega) | grind)) | apply AppC.own | apply IsL.set (f := pI) (a := _) rfl | apply IsL.rep (f := pI) (a := _) rfl | apply IsL.set (f := pB) (a := _) rfl | apply IsL.rep (f := pB) (a := _) rfl | apply IsL.lit (f := pI) [] rfl | apply IsL.lit (f := pI) [_] rfl | apply IsL.lit (f := pB) [] rfl | apply IsL.lit (f := pB) [_] rfl | (apply And.intro; (first | with_reducible rfl | (show (_ : AV) = _; rfl) | (first | omega | (simp only [lenS] at *; omega) | grind)))) <;> (conv => whnf))
    (refine RetK.p ?_ <;> repeat' (first | exact trivial | refine And.intro ?_ ?_ | with_reducible rfl | (refine pIEq ?_; (first | omega | (simp only [lenS] at *; omega) | grind)) | (refine bufMap ?_) | (refine bufNil ?_) | (refine bufEq ?_) | rfl); all_goals try first | refine pBEq ?_ | refine pIEq ?_)
    all_goals exact hfin
end Go.Proofs.Ytiggomgmncaabaa
