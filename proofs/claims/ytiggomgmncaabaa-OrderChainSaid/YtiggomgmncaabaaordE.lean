/- Orders: distances, in the program. -/
import Derived.Test.YtiggomgmncaabaaordD
namespace Go.Proofs.Ytiggomgmncaabaa
set_option linter.unusedSimpArgs false
set_option linter.unusedVariables false
set_option linter.unnecessarySimpa false
open Go.Abs
set_option maxRecDepth 100000
def fa (far : List Int) (x : Nat) : Int := far.getD x 0
/-- A search from a target: what is settled, and what waits. -/
structure BF (N : List NL) (t : Nat) (far : List Int) (q : List Nat) : Prop where
  len : far.length = N.length
  sgn : ∀ x, x < N.length → fa far x = -1 ∨ 0 ≤ fa far x
  qr : ∀ x ∈ q, x < N.length ∧ 0 ≤ fa far x
  ok : ∀ x, x < N.length → 0 ≤ fa far x → ∃ d : Nat, fa far x = d ∧ Dist N t t d x
  tgt : fa far t = 0
  proc : ∀ y, y < N.length → 0 ≤ fa far y → y ∉ q → ∀ i, t ≤ i → i < N.length → (y : Int) ∈ nd N i → 0 ≤ fa far i
  mono : q.Pairwise fun a b => fa far a ≤ fa far b
  near : ∀ h r, q = h :: r → ∀ x ∈ q, fa far x ≤ fa far h + 1
section
variable {N : List NL} {t : Nat} {far : List Int} {q : List Nat}
theorem BF.settled (hB : BF N t far q) (m : Int) (hm : ∀ x ∈ q, m ≤ fa far x) : ∀ (e y : Nat), Dist N t t e y → (e : Int) < m → 0 ≤ fa far y ∧ y ∉ q
  | 0, y, h, he => by
    have hy : y = t := by
      cases h.1 with
      | nil => rfl
    subst hy
    have := hB.tgt
    exact ⟨by omega, fun hq => by have := hm _ hq; omega⟩
  | e + 1, y, h, he => by
    obtain ⟨z, hz, hD⟩ := h.next
    obtain ⟨h1, h2⟩ := BF.settled hB m hm e z hD (by omega)
    have hs := h.1.start
    have h3 := hB.proc z hD.1.start.2 h1 h2 y hs.1 hs.2 hz
    refine ⟨h3, fun hq => ?_⟩
    obtain ⟨d, h4, h5⟩ := hB.ok y hs.2 h3
    have := h.uniq h5
    have := hm _ hq
    omega
theorem BF.fin (hB : BF N t far []) : far = (List.range N.length).map fun x => distF N t t x := by
  apply List.ext_getElem
  · rw [hB.len]; simp
  · intro k h1 h2
    have hk : k < N.length := by rw [← hB.len]; exact h1
    have e : fa far k = far[k] := getD_at h1
    rw [List.getElem_map, List.getElem_range, ← e]
    rcases hB.sgn k hk with h3 | h3
    · rw [h3]
      refine (distF_none fun j hw => ?_).symm
      obtain ⟨d, _, hD⟩ := Dist.of hw
      have := (hB.settled (d + 1) (fun x hx => by cases hx) d k hD (by omega)).1
      omega
    · obtain ⟨d, h4, h5⟩ := hB.ok k hk h3
      rw [h4]
      exact (distF_of h5).symm
def asg (far : List Int) : List Bool := far.map fun x => decide (0 ≤ x)
theorem isIn_asg {x : Nat} (h : x < far.length) : isIn (asg far) x = decide (0 ≤ fa far x) := by
  unfold asg fa
  rw [isIn_at (by simpa using h), getD_at h]; simp
/-- A new item is found. -/
theorem BF.push {h : Nat} {r : List Nat} {i : Nat} (hB : BF N t far (h :: r)) (hi : t ≤ i) (hin : i < N.length) (hf : fa far i < 0) (he : (h : Int) ∈ nd N i) :
    BF N t (far.set i (fa far h + 1)) (h :: r ++ [i]) ∧ cnt (asg far) < cnt (asg (far.set i (fa far h + 1))) ∧ ∀ x, 0 ≤ fa far x → x < N.length → fa (far.set i (fa far h + 1)) x = fa far x := by
  have hil : i < far.length := by rw [hB.len]; exact hin
  have hq0 := hB.qr h (List.mem_cons_self ..)
  obtain ⟨d, hd, hD⟩ := hB.ok h hq0.1 hq0.2
  have hset : ∀ x, fa (far.set i (fa far h + 1)) x = if i = x then fa far h + 1 else fa far x := fun x => getD_put hil x
  have hne : ∀ x, 0 ≤ fa far x → i ≠ x := fun x hx e => by subst e; omega
  have hkeep : ∀ x, 0 ≤ fa far x → fa (far.set i (fa far h + 1)) x = fa far x := fun x hx => by rw [hset, if_neg (hne x hx)]
  have hmin : ∀ x ∈ h :: r, (d : Int) ≤ fa far x := by
    intro x hx
    rcases List.mem_cons.1 hx with rfl | hx
    · omega
    · have := (List.pairwise_cons.1 hB.mono).1 x hx; omega
  have hnew : Dist N t t (d + 1) i := by
    refine ⟨.cons i h t d hi hin he hD.1, fun k hk hw => ?_⟩
    cases hw with
    | nil =>
      have := hB.tgt
      omega
    | cons _ y _ k' _ _ e2 w2 =>
      obtain ⟨e, hle, hDy⟩ := Dist.of w2
      obtain ⟨h1, h2⟩ := hB.settled d hmin e y hDy (by omega)
      have := hB.proc y hDy.1.start.2 h1 h2 i hi hin e2
      omega
  refine ⟨⟨by rw [List.length_set, hB.len], fun x hx => ?_, fun x hx => ?_, fun x hx h0 => ?_, ?_, fun y hy h0 hyq j hj hjn e => ?_, ?_, fun h' r' e x hx => ?_⟩, ?_, fun x hx _ => hkeep x hx⟩
  · rw [hset]
    split
    · right; omega
    · exact hB.sgn x hx
  · rcases List.mem_append.1 hx with hx | hx
    · have := hB.qr x hx
      rw [hkeep x this.2]; exact this
    · rw [List.mem_singleton.1 hx, hset, if_pos rfl]
      exact ⟨hin, by omega⟩
  · rw [hset] at h0 ⊢
    split at h0
    · rename_i e
      subst e
      rw [if_pos rfl]
      exact ⟨d + 1, by omega, hnew⟩
    · rename_i e
      rw [if_neg e]
      exact hB.ok x hx h0
  · rw [hkeep t (by have := hB.tgt; omega)]; exact hB.tgt
  · have hy1 : i ≠ y := fun e => hyq (List.mem_append.2 (.inr (by simp [e])))
    rw [hset, if_neg hy1] at h0
    have := hB.proc y hy h0 (fun h => hyq (List.mem_append.2 (.inl h))) j hj hjn e
    rw [hkeep j this]; exact this
  · rw [List.pairwise_append]
    refine ⟨?_, by simp, fun a ha b hb => ?_⟩
    · exact hB.mono.imp_of_mem fun {a b} ha hb hab => by rw [hkeep a (hB.qr a ha).2, hkeep b (hB.qr b hb).2]; exact hab
    · rw [List.mem_singleton.1 hb, hset, hset, if_pos rfl, if_neg (hne a (hB.qr a ha).2)]
      exact hB.near h r rfl a ha
  · simp only [List.cons_append, List.cons.injEq] at e
    obtain ⟨rfl, _⟩ := e
    rw [hkeep h hq0.2]
    rcases List.mem_append.1 hx with hx | hx
    · rw [hkeep x (hB.qr x hx).2]
      exact hB.near h r rfl x hx
    · rw [List.mem_singleton.1 hx, hset, if_pos rfl]; omega
  · have hl2 : (far.set i (fa far h + 1)).length = far.length := List.length_set ..
    refine cnt_lt (by simp [asg]) (fun x hx => ?_) ⟨i, ?_, ?_⟩
    · have hxl : x < far.length := by have := isIn_lt hx; simpa [asg] using this
      rw [isIn_asg hxl] at hx
      rw [isIn_asg (by omega)]
      have h0 := of_decide_eq_true hx
      rw [hkeep x h0]; exact hx
    · rw [isIn_asg hil]
      exact decide_eq_false (by omega)
    · rw [isIn_asg (by omega), hset, if_pos rfl]
      exact decide_eq_true (by omega)
/-- The first of those that wait is done. -/
theorem BF.pop {h : Nat} {r : List Nat} (hB : BF N t far (h :: r)) (hp : ∀ i, t ≤ i → i < N.length → (h : Int) ∈ nd N i → 0 ≤ fa far i) : BF N t far r := by
  refine ⟨hB.len, hB.sgn, fun x hx => hB.qr x (List.mem_cons_of_mem _ hx), hB.ok, hB.tgt, fun y hy h0 hyq i hi hin e => ?_, (List.pairwise_cons.1 hB.mono).2, fun h' r' e x hx => ?_⟩
  · by_cases hyh : y = h
    · subst hyh
      exact hp i hi hin e
    · exact hB.proc y hy h0 (fun hm => (List.mem_cons.1 hm).elim hyh hyq) i hi hin e
  · subst e
    have h1 := hB.near h (h' :: r') rfl x (List.mem_cons_of_mem _ hx)
    have h2 := (List.pairwise_cons.1 hB.mono).1 h' (List.mem_cons_self ..)
    omega
end
def bkScSC0 : Sc := (.one 12 (.one 13 (.take 14 .done)))
def bkScSC1 : Sc := (.one 9 (.one 13 (.take 14 .done)))
def bkSc : Sc := (.take 0 (.take 1 (.take 2 (.load 3 (.take 4 (.take 5 (.take 6 (.take 7 (.take 8 (.take 10 (.take 11 (.two 9 12 bkScSC0 bkScSC1))))))))))))
def pN (n : Nat) : PV := pI n
def farL (N : List NL) (t : Nat) : List Int := (List.range N.length).map fun x => distF N t t x
theorem BF.init {N : List NL} {t : Nat} (ht : t < N.length) : BF N t ((List.replicate N.length (-1)).set t 0) [t] := by
  have hset : ∀ x, fa ((List.replicate N.length (-1)).set t 0) x = if t = x then 0 else fa (List.replicate N.length (-1)) x := fun x => getD_put (by simpa using ht) x
  have hrep : ∀ x, x < N.length → fa (List.replicate N.length (-1 : Int)) x = -1 := fun x hx => by unfold fa; rw [getD_at (by simpa using hx)]; simp
  have hall : ∀ x, x < N.length → 0 ≤ fa ((List.replicate N.length (-1)).set t 0) x → x = t := by
    intro x hx h
    rw [hset] at h
    split at h
    · rename_i e; exact e.symm
    · rw [hrep x hx] at h; omega
  have ht0 : fa ((List.replicate N.length (-1)).set t 0) t = 0 := by rw [hset, if_pos rfl]
  refine ⟨by simp, fun x hx => ?_, fun x hx => ?_, fun x hx h => ?_, ht0, fun y hy h hq => ?_, by simp, fun h r e x hx => ?_⟩
  · rw [hset]
    split
    · right; omega
    · left; exact hrep x hx
  · rw [List.mem_singleton.1 hx]; exact ⟨ht, by omega⟩
  · have := hall x hx h
    subst this
    exact ⟨0, ht0, .nil x (Nat.le_refl _) hx, fun k hk => by omega⟩
  · exact absurd (List.mem_singleton.2 (hall y hy h)) hq
  · simp only [List.cons.injEq] at e
    rw [List.mem_singleton.1 hx, ← e.1]; omega
set_option maxHeartbeats 4000000 in
theorem back_call (nl : Bool) (N : List NL) (t : Nat) (ht : t < N.length) (hv24 : N.length ≤ 24) (hR : ∀ p ∈ N, InR N.length p.2) : ACall Try.prog 34 [.p (.list nl (N.map fI)), .p (pI t)] [] fun r H => r = .buf 0 ∧ H = [some (AO.buf 3 false ((farL N t).map pI))] := by
  refine acall_enter Try.func34 rfl rfl tabOK rfl ?_
  (conv => whnf); repeat' ((first | (apply IsL.lit (f := pI) [_] rfl) | ((first | apply LenA.map | apply NilA.map | apply NilA.mk); intro _) | apply CondA.plain | ((first | apply NW.as | apply ValA.as); with_reducible assumption) | ((first | apply NW.i64 | apply NW.u32 | apply NW.u64 | apply NW.u8 | apply InA.nat | apply InA.map | apply AppA.snoc (f := pI) (a := _) rfl | apply AppA.one (f := pI) (a := _) rfl | apply AppA.snoc (f := pB) (a := _) rfl | apply AppA.one (f := pB) (a := _) rfl | apply AppA.map | apply AppA.nil | apply CutA.lo | apply CutA.hi); (first | omega | (simp only [lenS] at *; omega) | grind)) | ((first | (apply RemA.as; assumption) | apply RemA.self); (first | omega | (simp only [lenS] at *; omega) | grind)) | (apply ValA.as; assumption) | apply ValA.self | (apply NW.as; assumption) | (apply SzA.map; (intro _; rfl)) | with_reducible apply br_pt | with_reducible apply br_pf | with_reducible apply br_mt | with_reducible apply br_mf | apply Both.mk | ((first | apply br_T | apply br_F | apply br_mT | apply br_mF); assumption) | ((first | apply br_lss | apply br_leq | apply br_gtr | apply br_geq | apply br_dec | apply br_beq | apply br_bne | apply br_beqB | apply br_bneB | apply br_not | apply br_m | apply br_intro) <;> intro h0 <;> first | (exfalso; first | omega | exact tf h0 (by assumption) | exact tf (by assumption) h0 | exact h0 (by assumption) | exact h0 rfl | exact of_decide_eq_false h0 rfl) | skip) | refine ArrA.mk _ rfl rfl ?_ | (apply IdxA.lit; omega; exact rfl) | ((first | apply IdxA.of_nat | (apply IdxA.of_map; (first | omega | (simp only [lenS] at *; omega) | grind))); rotate_left; (first | omega | (simp only [lenS] at *; omega) | grind)) | apply AppC.own | apply IsL.set (f := pI) (a := _) rfl | apply IsL.rep (f := pI) (a := _) rfl | apply IsL.set (f := pB) (a := _) rfl | apply IsL.rep (f := pB) (a := _) rfl | apply IsL.lit (f := pI) [] rfl | apply IsL.lit (f := pI) [_] rfl | apply IsL.lit (f := pB) [] rfl | apply IsL.lit (f := pB) [_] rfl | (apply And.intro; (first | with_reducible rfl | (show (_ : AV) = _; rfl) | (first | omega | (simp only [lenS] at *; omega) | grind)))) <;> (conv => whnf))
  refine CallA.loc [] [0] rfl rfl ((Repeat_call N.length (by omega) hv24).mono ?_)
  rintro r H ⟨rfl, rfl⟩
  (conv => whnf); repeat' ((first | (apply IsL.lit (f := pI) [_] rfl) | ((first | apply LenA.map | apply NilA.map | apply NilA.mk); intro _) | apply CondA.plain | ((first | apply NW.as | apply ValA.as); with_reducible assumption) | ((first | apply NW.i64 | apply NW.u32 | apply NW.u64 | apply NW.u8 | apply InA.nat | apply InA.map | apply AppA.snoc (f := pI) (a := _) rfl | apply AppA.one (f := pI) (a := _) rfl | apply AppA.snoc (f := pB) (a := _) rfl | apply AppA.one (f := pB) (a := _) rfl | apply AppA.map | apply AppA.nil | apply CutA.lo | apply CutA.hi); (first | omega | (simp only [lenS] at *; omega) | grind)) | ((first | (apply RemA.as; assumption) | apply RemA.self); (first | omega | (simp only [lenS] at *; omega) | grind)) | (apply ValA.as; assumption) | apply ValA.self | (apply NW.as; assumption) | (apply SzA.map; (intro _; rfl)) | with_reducible apply br_pt | with_reducible apply br_pf | with_reducible apply br_mt | with_reducible apply br_mf | apply Both.mk | ((first | apply br_T | apply br_F | apply br_mT | apply br_mF); assumption) | ((first | apply br_lss | apply br_leq | apply br_gtr | apply br_geq | apply br_dec | apply br_beq | apply br_bne | apply br_beqB | apply br_bneB | apply br_not | apply br_m | apply br_intro) <;> intro h0 <;> first | (exfalso; first | omega | exact tf h0 (by assumption) | exact tf (by assumption) h0 | exact h0 (by assumption) | exact h0 rfl | exact of_decide_eq_false h0 rfl) | skip) | refine ArrA.mk _ rfl rfl ?_ | (apply IdxA.lit; omega; exact rfl) | ((first | apply IdxA.of_nat | (apply IdxA.of_map; (first | omega | (simp only [lenS] at *; omega) | grind))); rotate_left; (first | omega | (simp only [lenS] at *; omega) | grind)) | apply AppC.own | apply IsL.set (f := pI) (a := _) rfl | apply IsL.rep (f := pI) (a := _) rfl | apply IsL.set (f := pB) (a := _) rfl | apply IsL.rep (f := pB) (a := _) rfl | apply IsL.lit (f := pI) [] rfl | apply IsL.lit (f := pI) [_] rfl | apply IsL.lit (f := pB) [] rfl | apply IsL.lit (f := pB) [_] rfl | (apply And.intro; (first | with_reducible rfl | (show (_ : AV) = _; rfl) | (first | omega | (simp only [lenS] at *; omega) | grind)))) <;> (conv => whnf))
  refine loop_rule (fun (⟨far, zs, lo, hi, q⟩ : List Int × List PV × Nat × Nat × List Nat) => ⟨[(0, .p (.list nl (N.map fI))), (1, .p (pI t)), (5, .buf 0), (6, .sub 1 lo hi)], [some (AO.buf 3 false (far.map pI)), some (AO.buf 3 false zs)]⟩) (fun (⟨far, zs, lo, hi, q⟩ : List Int × List PV × Nat × Nat × List Nat) => BF N t far q ∧ hi = zs.length ∧ lo ≤ hi ∧ zs.drop lo = q.map (fun n : Nat => pI n) ∧ zs.length ≤ 1 + cnt (asg far)) (fun (⟨far, zs, lo, hi, q⟩ : List Int × List PV × Nat × Nat × List Nat) => 2 * (N.length - cnt (asg far)) + q.length) ((List.replicate N.length (-1)).set t 0, [(t : Int)].map pI, 0, 1, [t]) ?_ ?_ ?_; (refine SubA.subs _ 6 _ _ _ _ rfl rfl ?_; refine SubA.auto rfl rfl rfl rfl ?_ ?_ <;> repeat' (first | exact trivial | refine And.intro ?_ ?_ | with_reducible rfl | (refine pIEq ?_; (first | omega | (simp only [lenS] at *; omega) | grind)) | (refine bufMap ?_) | (refine bufNil ?_) | (refine bufEq ?_) | rfl))
  · exact ⟨BF.init ht, rfl, by omega, rfl, by simp⟩
  rintro ⟨far, zs, lo, hi, q⟩ ⟨hB, hhi, hlo, hz, hzl⟩
  have hlen := congrArg List.length hz
  rw [List.length_drop, List.length_map] at hlen
  rcases q with _ | ⟨h, r⟩
  · have hf := hB.fin
    have hl0 : zs.length - lo = 0 := hlen
    (conv => whnf); repeat' ((first | ((refine LenA.mk zs.length rfl ?_; intro _)) | ((first | apply LenA.map | apply NilA.map | apply NilA.mk); intro _) | apply CondA.plain | ((first | apply NW.as | apply ValA.as); with_reducible assumption) | ((first | apply NW.i64 | apply NW.u32 | apply NW.u64 | apply NW.u8 | apply InA.nat | apply InA.map | apply AppA.snoc (f := pI) (a := _) rfl | apply AppA.one (f := pI) (a := _) rfl | apply AppA.snoc (f := pB) (a := _) rfl | apply AppA.one (f := pB) (a := _) rfl | apply AppA.map | apply AppA.nil | apply CutA.lo | apply CutA.hi); (first | omega | (simp only [lenS] at *; omega) | grind)) | ((first | (apply RemA.as; assumption) | apply RemA.self); (first | omega | (simp only [lenS] at *; omega) | grind)) | (apply ValA.as; assumption) | apply ValA.self | (apply NW.as; assumption) | (apply SzA.map; (intro _; rfl)) | with_reducible apply br_pt | with_reducible apply br_pf | with_reducible apply br_mt | with_reducible apply br_mf | apply Both.mk | ((first | apply br_T | apply br_F | apply br_mT | apply br_mF); assumption) | ((first | apply br_lss | apply br_leq | apply br_gtr | apply br_geq | apply br_dec | apply br_beq | apply br_bne | apply br_beqB | apply br_bneB | apply br_not | apply br_m | apply br_intro) <;> intro h0 <;> first | (exfalso; first | omega | exact tf h0 (by assumption) | exact tf (by assumption) h0 | exact h0 (by assumption) | exact h0 rfl | exact of_decide_eq_false h0 rfl) | skip) | refine ArrA.mk _ rfl rfl ?_ | (apply IdxA.lit; omega; exact rfl) | ((first | apply IdxA.of_nat | (apply IdxA.of_map; (first | omega | (simp only [lenS] at *; omega) | grind))); rotate_left; (first | omega | (simp only [lenS] at *; omega) | grind)) | apply AppC.own | apply IsL.set (f := pI) (a := _) rfl | apply IsL.rep (f := pI) (a := _) rfl | apply IsL.set (f := pB) (a := _) rfl | apply IsL.rep (f := pB) (a := _) rfl | apply IsL.lit (f := pI) [] rfl | apply IsL.lit (f := pI) [_] rfl | apply IsL.lit (f := pB) [] rfl | apply IsL.lit (f := pB) [_] rfl | (apply And.intro; (first | with_reducible rfl | (show (_ : AV) = _; rfl) | (first | omega | (simp only [lenS] at *; omega) | grind)))) <;> (conv => whnf))
    (refine' RetK.auto (.buf 0) ([some (AO.buf 3 false ((farL N t).map pI))]) rfl rfl rfl rfl _ _ _ <;> repeat' (first | exact trivial | refine And.intro ?_ ?_ | with_reducible rfl | (refine pIEq ?_; (first | omega | (simp only [lenS] at *; omega) | grind)) | (refine bufMap ?_) | (refine bufNil ?_) | (refine bufEq ?_) | rfl))
    all_goals first
      | exact ⟨rfl, rfl⟩
      | exact hf
  · have hl1 : zs.length - lo = r.length + 1 := hlen
    have hcle : cnt (asg far) ≤ N.length := by
      have : cnt (asg far) ≤ (asg far).length := List.count_le_length
      have h2 : (asg far).length = far.length := by simp [asg]
      have := hB.len
      omega
    obtain ⟨M, hM⟩ : ∃ M, M = 2 * (N.length - cnt (asg far)) + r.length := ⟨_, rfl⟩
    (conv => whnf); repeat' ((first | ((refine LenA.mk zs.length rfl ?_; intro _)) | ((first | apply LenA.map | apply NilA.map | apply NilA.mk); intro _) | apply CondA.plain | ((first | apply NW.as | apply ValA.as); with_reducible assumption) | ((first | apply NW.i64 | apply NW.u32 | apply NW.u64 | apply NW.u8 | apply InA.nat | apply InA.map | apply AppA.snoc (f := pI) (a := _) rfl | apply AppA.one (f := pI) (a := _) rfl | apply AppA.snoc (f := pB) (a := _) rfl | apply AppA.one (f := pB) (a := _) rfl | apply AppA.map | apply AppA.nil | apply CutA.lo | apply CutA.hi); (first | omega | (simp only [lenS] at *; omega) | grind)) | ((first | (apply RemA.as; assumption) | apply RemA.self); (first | omega | (simp only [lenS] at *; omega) | grind)) | (apply ValA.as; assumption) | apply ValA.self | (apply NW.as; assumption) | (apply SzA.map; (intro _; rfl)) | with_reducible apply br_pt | with_reducible apply br_pf | with_reducible apply br_mt | with_reducible apply br_mf | apply Both.mk | ((first | apply br_T | apply br_F | apply br_mT | apply br_mF); assumption) | ((first | apply br_lss | apply br_leq | apply br_gtr | apply br_geq | apply br_dec | apply br_beq | apply br_bne | apply br_beqB | apply br_bneB | apply br_not | apply br_m | apply br_intro) <;> intro h0 <;> first | (exfalso; first | omega | exact tf h0 (by assumption) | exact tf (by assumption) h0 | exact h0 (by assumption) | exact h0 rfl | exact of_decide_eq_false h0 rfl) | skip) | refine ArrA.mk _ rfl rfl ?_ | (apply IdxA.lit; omega; exact rfl) | ((first | apply IdxA.of_nat | (apply IdxA.of_map; (first | omega | (simp only [lenS] at *; omega) | grind))); rotate_left; (first | omega | (simp only [lenS] at *; omega) | grind)) | apply AppC.own | apply IsL.set (f := pI) (a := _) rfl | apply IsL.rep (f := pI) (a := _) rfl | apply IsL.set (f := pB) (a := _) rfl | apply IsL.rep (f := pB) (a := _) rfl | apply IsL.lit (f := pI) [] rfl | apply IsL.lit (f := pI) [_] rfl | apply IsL.lit (f := pB) [] rfl | apply IsL.lit (f := pB) [_] rfl | (apply And.intro; (first | with_reducible rfl | (show (_ : AV) = _; rfl) | (first | omega | (simp only [lenS] at *; omega) | grind)))) <;> (conv => whnf))
    refine loop_rule (fun (⟨i, far, zs, lo, hi, p⟩ : Nat × List Int × List PV × Nat × Nat × List Nat) => ⟨[(0, .p (.list nl (N.map fI))), (1, .p (pI t)), (5, .buf 0), (6, .sub 1 lo hi), (7, .p (pI i))], [some (AO.buf 3 false (far.map pI)), some (AO.buf 3 false zs)]⟩) (fun (⟨i, far, zs, lo, hi, p⟩ : Nat × List Int × List PV × Nat × Nat × List Nat) => (t ≤ i ∧ i ≤ N.length) ∧ BF N t far (h :: (r ++ p)) ∧ hi = zs.length ∧ lo ≤ hi ∧ zs.drop lo = (h :: (r ++ p)).map (fun n : Nat => pI n) ∧ zs.length ≤ 1 + cnt (asg far) ∧ (∀ j, t ≤ j → j < i → (h : Int) ∈ nd N j → 0 ≤ fa far j) ∧ 2 * (N.length - cnt (asg far)) + (r.length + p.length) ≤ M) (fun (⟨i, far, zs, lo, hi, p⟩ : Nat × List Int × List PV × Nat × Nat × List Nat) => N.length - i) (t, far, zs, lo, hi, []) ?_ ?_ ?_; (refine SubA.auto rfl rfl rfl rfl ?_ ?_ <;> repeat' (first | exact trivial | refine And.intro ?_ ?_ | with_reducible rfl | (refine pIEq ?_; (first | omega | (simp only [lenS] at *; omega) | grind)) | (refine bufMap ?_) | (refine bufNil ?_) | (refine bufEq ?_) | rfl))
    · exact ⟨⟨by omega, by omega⟩, by rw [List.append_nil]; exact hB, hhi, hlo, by rw [List.append_nil]; exact hz, hzl, fun j h1 h2 => by omega, by simp; omega⟩
    clear hB hhi hlo hz hzl hlen hl1 hcle
    rintro ⟨i, far, zs, lo, hi, p⟩ ⟨⟨hti, hin⟩, hB, hhi, hlo, hz, hzl, hpart, hm⟩
    have hlen := congrArg List.length hz
    rw [List.length_drop, List.length_map] at hlen
    have hl1 : zs.length - lo = r.length + p.length + 1 := by rw [hlen]; simp
    have hcle : cnt (asg far) ≤ N.length := by
      have : cnt (asg far) ≤ (asg far).length := List.count_le_length
      have h2 : (asg far).length = far.length := by simp [asg]
      have := hB.len
      omega
    have hx : zs[((lo + (0 : Int).toNat : Nat) : Int).toNat]? = some (pI h) := by
      have := congrArg (fun l => l[0]?) hz
      simp only [List.getElem?_drop, List.map_cons, List.getElem?_cons_zero] at this
      exact this
    have hq0 := hB.qr h (List.mem_cons_self ..)
    have hfl := hB.len
    rcases Nat.lt_or_ge i N.length with hil | hig
    · have hifl : i < far.length := by omega
      have hhfl : h < far.length := by omega
      have eI : fa far i = far[i] := getD_at hifl
      have eH : fa far h = far[h] := getD_at hhfl
      have hpush := hB.push hti hil
      rw [eI, eH, nd_at hil] at hpush
      have hnd := nd_at hil
      have hhb : far[h] < 24 := by
        obtain ⟨d, h1, h2⟩ := hB.ok h hq0.1 hq0.2
        have := h2.lt
        omega
      have hh0 : 0 ≤ far[h] := by omega
      have fin2 : ((h : Int) ∈ N[i].2 → 0 ≤ fa far i) → (t ≤ i + 1 ∧ i + 1 ≤ N.length) ∧ BF N t far (h :: (r ++ p)) ∧ hi = zs.length ∧ lo ≤ hi ∧ zs.drop lo = (h :: (r ++ p)).map (fun n : Nat => pI n) ∧ zs.length ≤ 1 + cnt (asg far) ∧ (∀ j, t ≤ j → j < i + 1 → (h : Int) ∈ nd N j → 0 ≤ fa far j) ∧ 2 * (N.length - cnt (asg far)) + (r.length + p.length) ≤ M := fun hh =>
        ⟨⟨by omega, by omega⟩, hB, hhi, hlo, hz, hzl, fun j h1 h2 h3 => by
          rcases Nat.lt_or_ge j i with h4 | h4
          · exact hpart j h1 h4 h3
          · obtain rfl : j = i := by omega
            rw [hnd] at h3
            exact hh h3, hm⟩
      have fin1 : ∀ (lo2 : Nat) (zs2 : List PV), far[i] < 0 → N[i].2.contains (h : Int) = true → lo2 ≤ zs2.length → zs2.drop lo2 = zs.drop lo ++ [(i : Int)].map pI → zs2.length ≤ zs.length + ([(i : Int)].map pI).length →
          (t ≤ i + 1 ∧ i + 1 ≤ N.length) ∧ BF N t (far.set i (far[h] + 1)) (h :: (r ++ (p ++ [i]))) ∧ zs2.length = zs2.length ∧ lo2 ≤ zs2.length ∧ zs2.drop lo2 = (h :: (r ++ (p ++ [i]))).map (fun n : Nat => pI n) ∧ zs2.length ≤ 1 + cnt (asg (far.set i (far[h] + 1))) ∧ (∀ j, t ≤ j → j < i + 1 → (h : Int) ∈ nd N j → 0 ≤ fa (far.set i (far[h] + 1)) j) ∧ 2 * (N.length - cnt (asg (far.set i (far[h] + 1)))) + (r.length + (p ++ [i]).length) ≤ M := fun lo2 zs2 g1 g2 g3 g4 g5 => by
        obtain ⟨p1, p2, p3⟩ := hpush g1 (by simpa using g2)
        have hcle2 : cnt (asg (far.set i (far[h] + 1))) ≤ N.length := by
          have : cnt (asg (far.set i (far[h] + 1))) ≤ (asg (far.set i (far[h] + 1))).length := List.count_le_length
          have h2 : (asg (far.set i (far[h] + 1))).length = far.length := by simp [asg]
          omega
        simp only [List.length_map, List.length_cons, List.length_nil] at g5
        refine ⟨⟨by omega, by omega⟩, by simpa using p1, rfl, g3, ?_, by omega, fun j h1 h2 h3 => ?_, by rw [List.length_append]; simp only [List.length_cons, List.length_nil]; omega⟩
        · rw [g4, hz]; simp
        · rcases Nat.lt_or_ge j i with h4 | h4
          · have := hpart j h1 h4 h3
            rw [p3 j this (by omega)]; exact this
          · obtain rfl : j = i := by omega
            have : fa (far.set j (far[h] + 1)) j = far[h] + 1 := by unfold fa; rw [getD_put hifl, if_pos rfl]
            omega
      (conv => whnf); repeat' ((first | ((refine LenA.mk zs.length rfl ?_; intro _)) | ((first | apply LenA.map | apply NilA.map | apply NilA.mk); intro _) | apply CondA.plain | ((first | apply NW.as | apply ValA.as); with_reducible assumption) | ((first | apply NW.i64 | apply NW.u32 | apply NW.u64 | apply NW.u8 | apply InA.nat | apply InA.map | apply AppA.snoc (f := pI) (a := _) rfl | apply AppA.one (f := pI) (a := _) rfl | apply AppA.snoc (f := pB) (a := _) rfl | apply AppA.one (f := pB) (a := _) rfl | apply AppA.map | apply AppA.nil | apply CutA.lo | apply CutA.hi); (first | omega | (simp only [lenS] at *; omega) | grind)) | ((first | (apply RemA.as; assumption) | apply RemA.self); (first | omega | (simp only [lenS] at *; omega) | grind)) | (apply ValA.as; assumption) | apply ValA.self | (apply NW.as; assumption) | (apply SzA.map; (intro _; rfl)) | with_reducible apply br_pt | with_reducible apply br_pf | with_reducible apply br_mt | with_reducible apply br_mf | apply Both.mk | ((first | apply br_T | apply br_F | apply br_mT | apply br_mF); assumption) | ((first | apply br_lss | apply br_leq | apply br_gtr | apply br_geq | apply br_dec | apply br_beq | apply br_bne | apply br_beqB | apply br_bneB | apply br_not | apply br_m | apply br_intro) <;> intro h0 <;> first | (exfalso; first | omega | exact tf h0 (by assumption) | exact tf (by assumption) h0 | exact h0 (by assumption) | exact h0 rfl | exact of_decide_eq_false h0 rfl) | skip) | refine ArrA.mk _ rfl rfl ?_ | (apply IdxA.lit; omega; exact rfl) | ((first | apply IdxA.of_nat | (apply IdxA.of_map; (first | omega | (simp only [lenS] at *; omega) | grind))); rotate_left; (first | omega | (simp only [lenS] at *; omega) | grind)) | apply AppC.own | apply IsL.set (f := pI) (a := _) rfl | apply IsL.rep (f := pI) (a := _) rfl | apply IsL.set (f := pB) (a := _) rfl | apply IsL.rep (f := pB) (a := _) rfl | apply IsL.lit (f := pI) [] rfl | apply IsL.lit (f := pI) [_] rfl | apply IsL.lit (f := pB) [] rfl | apply IsL.lit (f := pB) [_] rfl | (apply And.intro; (first | with_reducible rfl | (show (_ : AV) = _; rfl) | (first | omega | (simp only [lenS] at *; omega) | grind)))) <;> (conv => whnf))
      apply DrawA.orders bkSc (by kernel_rfl) (by kernel_rfl) (by kernel_rfl)
      (conv => whnf); repeat' ((first | ((refine LenA.mk zs.length rfl ?_; intro _)) | (refine IdxA.mk (pI h) (by omega) hx ?_) | ((refine ApSub.mk hhi (by simp) (by simp only [lenS, maxLen]; omega) ?_; rintro lo2 zs2 hz1 hz2 hz3)) | ((first | apply LenA.map | apply NilA.map | apply NilA.mk); intro _) | apply CondA.plain | ((first | apply NW.as | apply ValA.as); with_reducible assumption) | ((first | apply NW.i64 | apply NW.u32 | apply NW.u64 | apply NW.u8 | apply InA.nat | apply InA.map | apply AppA.snoc (f := pI) (a := _) rfl | apply AppA.one (f := pI) (a := _) rfl | apply AppA.snoc (f := pB) (a := _) rfl | apply AppA.one (f := pB) (a := _) rfl | apply AppA.map | apply AppA.nil | apply CutA.lo | apply CutA.hi); (first | omega | (simp only [lenS] at *; omega) | grind)) | ((first | (apply RemA.as; assumption) | apply RemA.self); (first | omega | (simp only [lenS] at *; omega) | grind)) | (apply ValA.as; assumption) | apply ValA.self | (apply NW.as; assumption) | (apply SzA.map; (intro _; rfl)) | with_reducible apply br_pt | with_reducible apply br_pf | with_reducible apply br_mt | with_reducible apply br_mf | apply Both.mk | ((first | apply br_T | apply br_F | apply br_mT | apply br_mF); assumption) | ((first | apply br_lss | apply br_leq | apply br_gtr | apply br_geq | apply br_dec | apply br_beq | apply br_bne | apply br_beqB | apply br_bneB | apply br_not | apply br_m | apply br_intro) <;> intro h0 <;> first | (exfalso; first | omega | exact tf h0 (by assumption) | exact tf (by assumption) h0 | exact h0 (by assumption) | exact h0 rfl | exact of_decide_eq_false h0 rfl) | skip) | refine ArrA.mk _ rfl rfl ?_ | (apply IdxA.lit; omega; exact rfl) | ((first | apply IdxA.of_nat | (apply IdxA.of_map; (first | omega | (simp only [lenS] at *; omega) | grind))); rotate_left; (first | omega | (simp only [lenS] at *; omega) | grind)) | apply AppC.own | apply IsL.set (f := pI) (a := _) rfl | apply IsL.rep (f := pI) (a := _) rfl | apply IsL.set (f := pB) (a := _) rfl | apply IsL.rep (f := pB) (a := _) rfl | apply IsL.lit (f := pI) [] rfl | apply IsL.lit (f := pI) [_] rfl | apply IsL.lit (f := pB) [] rfl | apply IsL.lit (f := pB) [_] rfl | (apply And.intro; (first | with_reducible rfl | (show (_ : AV) = _; rfl) | (first | omega | (simp only [lenS] at *; omega) | grind))) | (refine CallA.scalar (Contains_call _ _ (h : Int)) ?_)) <;> (conv => whnf))
      all_goals first
        | ((refine' ⟨(i + 1, far, zs, lo, hi, p), _, _, _⟩; rotate_right; (refine SubA.auto rfl rfl rfl rfl ?_ ?_ <;> repeat' (first | exact trivial | refine And.intro ?_ ?_ | with_reducible rfl | (refine pIEq ?_; (first | omega | (simp only [lenS] at *; omega) | grind)) | (refine bufMap ?_) | (refine bufNil ?_) | (refine bufEq ?_) | rfl)); rotate_right; (first | omega | (simp only []; omega) | (simp; omega) | (first | omega | (simp only [lenS] at *; omega) | grind))); exact fin2 fun hm => by first | omega | (exfalso; simp_all; done))
        | ((refine' ⟨(i + 1, far.set i (far[h] + 1), zs2, lo2, zs2.length, p ++ [i]), _, _, _⟩; rotate_right; (refine SubA.auto rfl rfl rfl rfl ?_ ?_ <;> repeat' (first | exact trivial | refine And.intro ?_ ?_ | with_reducible rfl | (refine pIEq ?_; (first | omega | (simp only [lenS] at *; omega) | grind)) | (refine bufMap ?_) | (refine bufNil ?_) | (refine bufEq ?_) | rfl)); rotate_right; (first | omega | (simp only []; omega) | (simp; omega) | (first | omega | (simp only [lenS] at *; omega) | grind))); exact fin1 lo2 zs2 (by assumption) (by assumption) hz1 hz2 hz3)
        | trace_state
    · have hp := hB.pop fun j h1 h2 h3 => hpart j h1 (by omega) h3
      (conv => whnf); repeat' ((first | ((refine LenA.mk zs.length rfl ?_; intro _)) | ((first | apply LenA.map | apply NilA.map | apply NilA.mk); intro _) | apply CondA.plain | ((first | apply NW.as | apply ValA.as); with_reducible assumption) | ((first | apply NW.i64 | apply NW.u32 | apply NW.u64 | apply NW.u8 | apply InA.nat | apply InA.map | apply AppA.snoc (f := pI) (a := _) rfl | apply AppA.one (f := pI) (a := _) rfl | apply AppA.snoc (f := pB) (a := _) rfl | apply AppA.one (f := pB) (a := _) rfl | apply AppA.map | apply AppA.nil | apply CutA.lo | apply CutA.hi); (first | omega | (simp only [lenS] at *; omega) | grind)) | ((first | (apply RemA.as; assumption) | apply RemA.self); (first | omega | (simp only [lenS] at *; omega) | grind)) | (apply ValA.as; assumption) | apply ValA.self | (apply NW.as; assumption) | (apply SzA.map; (intro _; rfl)) | with_reducible apply br_pt | with_reducible apply br_pf | with_reducible apply br_mt | with_reducible apply br_mf | apply Both.mk | ((first | apply br_T | apply br_F | apply br_mT | apply br_mF); assumption) | ((first | apply br_lss | apply br_leq | apply br_gtr | apply br_geq | apply br_dec | apply br_beq | apply br_bne | apply br_beqB | apply br_bneB | apply br_not | apply br_m | apply br_intro) <;> intro h0 <;> first | (exfalso; first | omega | exact tf h0 (by assumption) | exact tf (by assumption) h0 | exact h0 (by assumption) | exact h0 rfl | exact of_decide_eq_false h0 rfl) | skip) | refine ArrA.mk _ rfl rfl ?_ | (apply IdxA.lit; omega; exact rfl) | ((first | apply IdxA.of_nat | (apply IdxA.of_map; (first | omega | (simp only [lenS] at *; omega) | grind))); rotate_left; (first | omega | (simp only [lenS] at *; omega) | grind)) | apply AppC.own | apply IsL.set (f := pI) (a := _) rfl | apply IsL.rep (f := pI) (a := _) rfl | apply IsL.set (f := pB) (a := _) rfl | apply IsL.rep (f := pB) (a := _) rfl | apply IsL.lit (f := pI) [] rfl | apply IsL.lit (f := pI) [_] rfl | apply IsL.lit (f := pB) [] rfl | apply IsL.lit (f := pB) [_] rfl | (apply And.intro; (first | with_reducible rfl | (show (_ : AV) = _; rfl) | (first | omega | (simp only [lenS] at *; omega) | grind)))) <;> (conv => whnf))
      (refine' ⟨(far, zs, lo + 1, lo + ((hi - lo : Nat) : Int).toNat, r ++ p), _, _, _⟩; rotate_right; (refine SubA.auto rfl rfl rfl rfl ?_ ?_ <;> repeat' (first | exact trivial | refine And.intro ?_ ?_ | with_reducible rfl | (refine pIEq ?_; (first | omega | (simp only [lenS] at *; omega) | grind)) | (refine bufMap ?_) | (refine bufNil ?_) | (refine bufEq ?_) | rfl)); rotate_right; (first | omega | (simp only []; omega) | (simp; omega) | (first | omega | (simp only [lenS] at *; omega) | grind)))
      refine ⟨hp, by omega, by omega, ?_, hzl⟩
      have := congrArg (List.drop 1) hz
      rw [List.drop_drop] at this
      exact this
end Go.Proofs.Ytiggomgmncaabaa
