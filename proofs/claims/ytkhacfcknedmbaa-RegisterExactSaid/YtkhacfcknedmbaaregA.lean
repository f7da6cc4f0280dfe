/- Registers: the chapter's example; fields that stand apart. -/
import Derived.Test.Ytkhacfcknedmbaareg9
namespace Go.Proofs.Ytkhacfcknedmbaa
set_option linter.unusedSimpArgs false
set_option linter.unusedVariables false
set_option linter.unnecessarySimpa false
open Go.Abs
set_option maxRecDepth 100000
set_option maxHeartbeats 4000000 in
theorem sane_call : ACall Try.prog 9 [] [] fun r H => r = .p (pB true) ∧ H = [] := by
  refine acall_enter Try.func9 rfl rfl tabOK rfl ?_
  have e1 : putE [0] ⟨0, 4, 2⟩ 3 = 0 := by decide +kernel
  have e2 : putL [0] ⟨0, 4, 2⟩ 3 = [48] := by decide +kernel
  have e3 : getE [48] ⟨0, 4, 2⟩ = 0 := by decide +kernel
  have e4 : getV [48] ⟨0, 4, 2⟩ = 3 := by decide +kernel
  have e5 : encE [⟨1, 7, 0, 4, 2⟩] [1] ⟨1, 7, 2⟩ = 0 := by decide +kernel
  have e6 : encR [⟨1, 7, 0, 4, 2⟩] [1] ⟨1, 7, 2⟩ = 0 := by decide +kernel
  have e7 : encV [⟨1, 7, 0, 4, 2⟩] [1] ⟨1, 7, 2⟩ = 33 := by decide +kernel
  have e8 : slotsE [⟨1, 7, 0, 4, 2⟩] 1 = 0 := by decide +kernel
  have e9 : mask ⟨0, 4, 2⟩ = 48 := by decide +kernel
  have e10 : decide (([48] : List Int) = [48]) = true := by decide
  (conv => whnf); repeat' (first | ((first | apply LenA.map | apply NilA.map | apply NilA.mk); intro _; (conv => whnf)) | (apply CondA.plain; (conv => whnf)) | ((first | (apply NW.as; with_reducible assumption) | (apply ValA.as; with_reducible assumption)); (conv => whnf)) | ((first | apply NW.i64 | apply NW.u32 | apply NW.u64 | apply NW.u8 | apply InA.nat | apply InA.map | apply AppA.snoc (f := pI) (a := _) rfl | apply AppA.one (f := pI) (a := _) rfl | apply AppA.snoc (f := pB) (a := _) rfl | apply AppA.one (f := pB) (a := _) rfl | apply AppA.snoc (f := pU) (a := _) rfl | apply AppA.one (f := pU) (a := _) rfl | apply AppA.snoc (f := Slot.pv) (a := _) rfl | apply AppA.one (f := Slot.pv) (a := _) rfl | (apply AppA.snoc (f := Slot.pv) (a := ⟨_, _, _, _, _⟩); dsimp only [Slot.pv]; exact rfl) | (apply AppA.one (f := Slot.pv) (a := ⟨_, _, _, _, _⟩); dsimp only [Slot.pv]; exact rfl) | apply AppA.snoc (f := Fld.pv) (a := _) rfl | apply AppA.one (f := Fld.pv) (a := _) rfl | (apply AppA.snoc (f := Fld.pv) (a := ⟨_, _, _⟩); dsimp only [Fld.pv]; exact rfl) | (apply AppA.one (f := Fld.pv) (a := ⟨_, _, _⟩); dsimp only [Fld.pv]; exact rfl) | apply AppA.snoc (f := Wr.pv) (a := _) rfl | apply AppA.one (f := Wr.pv) (a := _) rfl | (apply AppA.snoc (f := Wr.pv) (a := ⟨_, _, _⟩); dsimp only [Wr.pv]; exact rfl) | (apply AppA.one (f := Wr.pv) (a := ⟨_, _, _⟩); dsimp only [Wr.pv]; exact rfl) | apply AppA.map | apply AppA.nil | apply CutA.lo | apply CutA.hi); (first | omega | (simp only [List.length_map, List.length_append, List.length_set, List.length_replicate, List.length_cons, List.length_nil, List.length_take, List.length_drop, List.length_range] at *; omega) | grind); (conv => whnf)) | ((first | (apply RemA.as; assumption) | apply RemA.self); (first | omega | (simp only [List.length_map, List.length_append, List.length_set, List.length_replicate, List.length_cons, List.length_nil, List.length_take, List.length_drop, List.length_range] at *; omega) | grind); (conv => whnf)) | ((first | (apply ValA.as; assumption) | apply ValA.self | (apply NW.as; assumption)); (conv => whnf)) | (apply SzA.map; (intro _; rfl); (conv => whnf)) | (with_reducible apply br_pt; (conv => whnf)) | (with_reducible apply br_pf; (conv => whnf)) | (with_reducible apply br_mt; (conv => whnf)) | (with_reducible apply br_mf; (conv => whnf)) | (apply Both.mk <;> (conv => whnf)) | ((first | (apply br_T; assumption) | (apply br_F; assumption) | (apply br_mT; assumption) | (apply br_mF; assumption)); (conv => whnf)) | ((first | apply br_lss | apply br_leq | apply br_gtr | apply br_geq | apply br_dec | apply br_beq | apply br_bne | apply br_beqB | apply br_bneB | apply br_not | apply br_m | apply br_intro) <;> intro h0 <;> first | (exfalso; omega) | (exfalso; exact tf h0 (by assumption)) | (exfalso; exact tf (by assumption) h0) | (exfalso; exact h0 (by assumption)) | (exfalso; exact h0 rfl) | (exfalso; exact of_decide_eq_false h0 rfl) | (conv => whnf)) | (apply IdxA.lit; omega; exact rfl; (conv => whnf)) | ((first | apply IdxA.of_nat | (apply IdxA.of_map; (first | omega | (simp only [List.length_map, List.length_append, List.length_set, List.length_replicate, List.length_cons, List.length_nil, List.length_take, List.length_drop, List.length_range] at *; omega) | grind))); rotate_left; (first | omega | (simp only [List.length_map, List.length_append, List.length_set, List.length_replicate, List.length_cons, List.length_nil, List.length_take, List.length_drop, List.length_range] at *; omega) | grind); (conv => whnf)) | ((first | apply IsL.set (f := pI) (a := _) rfl | apply IsL.rep (f := pI) (a := _) rfl | apply IsL.set (f := pB) (a := _) rfl | apply IsL.rep (f := pB) (a := _) rfl | apply IsL.set (f := pU) (a := _) rfl | apply IsL.rep (f := pU) (a := _) rfl | apply IsL.set (f := Slot.pv) (a := _) rfl | apply IsL.rep (f := Slot.pv) (a := _) rfl | (apply IsL.set (f := Slot.pv) (a := ⟨_, _, _, _, _⟩); dsimp only [Slot.pv]; exact rfl) | (apply IsL.rep (f := Slot.pv) (a := ⟨_, _, _, _, _⟩); dsimp only [Slot.pv]; exact rfl) | apply IsL.set (f := Fld.pv) (a := _) rfl | apply IsL.rep (f := Fld.pv) (a := _) rfl | (apply IsL.set (f := Fld.pv) (a := ⟨_, _, _⟩); dsimp only [Fld.pv]; exact rfl) | (apply IsL.rep (f := Fld.pv) (a := ⟨_, _, _⟩); dsimp only [Fld.pv]; exact rfl) | apply IsL.set (f := Wr.pv) (a := _) rfl | apply IsL.rep (f := Wr.pv) (a := _) rfl | (apply IsL.set (f := Wr.pv) (a := ⟨_, _, _⟩); dsimp only [Wr.pv]; exact rfl) | (apply IsL.rep (f := Wr.pv) (a := ⟨_, _, _⟩); dsimp only [Wr.pv]; exact rfl) | apply IsL.lit (f := pI) [] rfl | apply IsL.lit (f := pI) [_] rfl | apply IsL.lit (f := pI) [_, _] rfl | apply IsL.lit (f := pI) [_, _, _] rfl | apply IsL.lit (f := pI) [_, _, _, _] rfl | apply IsL.lit (f := pB) [] rfl | apply IsL.lit (f := pB) [_] rfl | apply IsL.lit (f := pB) [_, _] rfl | apply IsL.lit (f := pB) [_, _, _] rfl | apply IsL.lit (f := pB) [_, _, _, _] rfl | apply IsL.lit (f := pU) [] rfl | apply IsL.lit (f := pU) [_] rfl | apply IsL.lit (f := pU) [_, _] rfl | apply IsL.lit (f := pU) [_, _, _] rfl | apply IsL.lit (f := pU) [_, _, _, _] rfl | apply IsL.lit (f := Slot.pv) [] rfl | apply IsL.lit (f := Slot.pv) [_] rfl | apply IsL.lit (f := Slot.pv) [_, _] rfl | apply IsL.lit (f := Slot.pv) [_, _, _] rfl | apply IsL.lit (f := Slot.pv) [_, _, _, _] rfl | apply IsL.lit (f := Slot.pv) [] rfl | apply IsL.lit (f := Slot.pv) [⟨_, _, _, _, _⟩] rfl | apply IsL.lit (f := Slot.pv) [⟨_, _, _, _, _⟩, ⟨_, _, _, _, _⟩] rfl | apply IsL.lit (f := Slot.pv) [⟨_, _, _, _, _⟩, ⟨_, _, _, _, _⟩, ⟨_, _, _, _, _⟩] rfl | apply IsL.lit (f := Slot.pv) [⟨_, _, _, _, _⟩, ⟨_, _, _, _, _⟩, ⟨_, _, _, _, _⟩, ⟨_, _, _, _, _⟩] rfl | apply IsL.lit (f := Fld.pv) [] rfl | apply IsL.lit (f := Fld.pv) [_] rfl | apply IsL.lit (f := Fld.pv) [_, _] rfl | apply IsL.lit (f := Fld.pv) [_, _, _] rfl | apply IsL.lit (f := Fld.pv) [_, _, _, _] rfl | apply IsL.lit (f := Fld.pv) [] rfl | apply IsL.lit (f := Fld.pv) [⟨_, _, _⟩] rfl | apply IsL.lit (f := Fld.pv) [⟨_, _, _⟩, ⟨_, _, _⟩] rfl | apply IsL.lit (f := Fld.pv) [⟨_, _, _⟩, ⟨_, _, _⟩, ⟨_, _, _⟩] rfl | apply IsL.lit (f := Fld.pv) [⟨_, _, _⟩, ⟨_, _, _⟩, ⟨_, _, _⟩, ⟨_, _, _⟩] rfl | apply IsL.lit (f := Wr.pv) [] rfl | apply IsL.lit (f := Wr.pv) [_] rfl | apply IsL.lit (f := Wr.pv) [_, _] rfl | apply IsL.lit (f := Wr.pv) [_, _, _] rfl | apply IsL.lit (f := Wr.pv) [_, _, _, _] rfl | apply IsL.lit (f := Wr.pv) [] rfl | apply IsL.lit (f := Wr.pv) [⟨_, _, _⟩] rfl | apply IsL.lit (f := Wr.pv) [⟨_, _, _⟩, ⟨_, _, _⟩] rfl | apply IsL.lit (f := Wr.pv) [⟨_, _, _⟩, ⟨_, _, _⟩, ⟨_, _, _⟩] rfl | apply IsL.lit (f := Wr.pv) [⟨_, _, _⟩, ⟨_, _, _⟩, ⟨_, _, _⟩, ⟨_, _, _⟩] rfl); (conv => whnf)) | (apply And.intro; (first | with_reducible rfl | (show (_ : AV) = _; rfl) | (first | omega | (simp only [List.length_map, List.length_append, List.length_set, List.length_replicate, List.length_cons, List.length_nil, List.length_take, List.length_drop, List.length_range] at *; omega) | grind)); (conv => whnf)) | (apply DrawA.quiet (by kernel_rfl) (by kernel_rfl); (conv => whnf); fail_if_success (show False)) | ((refine CallA.fresh _ (Put_call _ [0] ⟨0, 4, 2⟩ 3 (by decide)) ?_; rintro _ ⟨nl0, rfl⟩; rw [e1, e2]); (conv => whnf)) | ((refine CallA.scalar2 (Get_call _ [48] ⟨0, 4, 2⟩) ?_; rw [e3, e4]); (conv => whnf)) | ((refine CallA.scalar3 (Encode_call _ _ [⟨1, 7, 0, 4, 2⟩] [1] ⟨1, 7, 2⟩) ?_; rw [e5, e6, e7]); (conv => whnf)) | ((refine CallA.scalar (Mask_call ⟨0, 4, 2⟩) ?_; rw [e9]); (conv => whnf)) | ((refine CallA.scalar (Ints_call _ _ [48] [48]) ?_; rw [e10]); (conv => whnf)) | ((refine CallA.scalar (gValid_call _ [⟨1, 7, 0, 4, 2⟩] 1) ?_; rw [e8]); (conv => whnf)))
  (refine RetK.p ?_ <;> repeat' (first | exact trivial | refine And.intro ?_ ?_ | with_reducible rfl | (refine pIEq ?_; (first | omega | (simp only [List.length_map, List.length_append, List.length_set, List.length_replicate, List.length_cons, List.length_nil, List.length_take, List.length_drop, List.length_range] at *; omega) | grind)) | (refine bufMap ?_) | (refine bufNil ?_) | (refine bufEq ?_) | rfl); all_goals try first | refine pBEq ?_ | refine pIEq ?_)
theorem maskN_bit {f : Fld} (hs : f.Shaped) (i : Nat) : (maskN f).testBit i = decide (f.shift.toNat ≤ i ∧ i < f.shift.toNat + f.width.toNat) := by
  unfold maskN
  rw [Nat.mul_comm, Nat.testBit_two_pow_mul, Nat.testBit_two_pow_sub_one]
  by_cases h : f.shift.toNat ≤ i
  · simp [h]; omega
  · simp [h]
theorem mask_apart {x y : Fld} (hx : x.Shaped) (hy : y.Shaped) : maskN x &&& maskN y = 0 ↔ x.shift + x.width ≤ y.shift ∨ y.shift + y.width ≤ x.shift := by
  obtain ⟨x1, x2, x3, x4, x5⟩ := id hx
  obtain ⟨y1, y2, y3, y4, y5⟩ := id hy
  constructor
  · intro h
    have hb := fun i => congrArg (fun n => n.testBit i) h
    simp only [Nat.testBit_and, maskN_bit hx, maskN_bit hy, Nat.zero_testBit] at hb
    have h1 := hb (max x.shift.toNat y.shift.toNat)
    rw [Bool.and_eq_false_iff] at h1
    rcases h1 with h1 | h1
    · have := of_decide_eq_false h1; omega
    · have := of_decide_eq_false h1; omega
  · intro h
    apply Nat.eq_of_testBit_eq
    intro i
    rw [Nat.testBit_and, maskN_bit hx, maskN_bit hy, Nat.zero_testBit, Bool.and_eq_false_iff]
    by_cases h1 : x.shift.toNat ≤ i ∧ i < x.shift.toNat + x.width.toNat
    · right; exact decide_eq_false (by omega)
    · left; exact decide_eq_false h1
theorem two_slots {sx wx sy wy : Int} (hx : Fld.Shaped ⟨0, sx, wx⟩) (hy : Fld.Shaped ⟨0, sy, wy⟩) :
    slotsE [⟨1, 0, 0, sx, wx⟩, ⟨1, 1, 0, sy, wy⟩] 1 = (if sx + wx ≤ sy ∨ sy + wy ≤ sx then 0 else 40) ∧ slotsE [⟨1, 0, 0, sx, wx⟩, ⟨1, 1, 1, sy, wy⟩] 2 = 0 := by
  have hx' : ∀ r, Fld.Shaped ⟨r, sx, wx⟩ := fun _ => hx
  have hy' : ∀ r, Fld.Shaped ⟨r, sy, wy⟩ := fun _ => hy
  have ha := mask_apart hx hy
  constructor
  · have a0 : slotE [⟨1, 0, 0, sx, wx⟩, ⟨1, 1, 0, sy, wy⟩] 1 0 = 0 := by
      rw [slotE_at (by simp)]
      rw [if_neg (by rintro (h | h | h); simp at h; simp at h; exact h ⟨by simp [Slot.fld], by simp [Slot.fld], hx⟩), if_neg (by simp), if_neg (by simp [tk])]
    have a1 : slotE [⟨1, 0, 0, sx, wx⟩, ⟨1, 1, 0, sy, wy⟩] 1 1 = if sx + wx ≤ sy ∨ sy + wy ≤ sx then 0 else 40 := by
      rw [slotE_at (by simp)]
      rw [if_neg (by rintro (h | h | h); simp at h; simp at h; exact h ⟨by simp [Slot.fld], by simp [Slot.fld], hy⟩), if_neg (by simp)]
      have et : tk [⟨1, 0, 0, sx, wx⟩, ⟨1, 1, 0, sy, wy⟩] 0 1 = maskN ⟨0, sx, wx⟩ := by
        rw [tk_succ (by simp)]; simp [tk, Slot.fld]
      show (if tk _ 0 1 &&& maskN ⟨0, sy, wy⟩ ≠ 0 then (40 : Int) else 0) = _
      rw [et]
      by_cases h : sx + wx ≤ sy ∨ sy + wy ≤ sx
      · rw [if_neg (by rw [ha.2 h]; simp), if_pos h]
      · rw [if_pos fun h2 => h (ha.1 h2), if_neg h]
    unfold slotsE
    rw [if_neg (by omega), if_neg (by simp)]
    show firstE _ 2 = _
    simp only [firstE, a0, a1]; simp
  · have a0 : slotE [⟨1, 0, 0, sx, wx⟩, ⟨1, 1, 1, sy, wy⟩] 2 0 = 0 := by
      rw [slotE_at (by simp)]
      rw [if_neg (by rintro (h | h | h); simp at h; simp at h; exact h ⟨by simp [Slot.fld], by simp [Slot.fld], hx⟩), if_neg (by simp), if_neg (by simp [tk])]
    have a1 : slotE [⟨1, 0, 0, sx, wx⟩, ⟨1, 1, 1, sy, wy⟩] 2 1 = 0 := by
      rw [slotE_at (by simp)]
      rw [if_neg (by rintro (h | h | h); simp at h; simp at h; exact h ⟨by simp [Slot.fld], by simp [Slot.fld], hy' _⟩), if_neg (by simp)]
      have et : tk [⟨1, 0, 0, sx, wx⟩, ⟨1, 1, 1, sy, wy⟩] 1 1 = 0 := by
        rw [tk_succ (by simp)]; simp [tk]
      show (if tk _ 1 1 &&& maskN ⟨1, sy, wy⟩ ≠ 0 then (40 : Int) else 0) = _
      rw [et, if_neg (by simp)]
    unfold slotsE
    rw [if_neg (by omega), if_neg (by simp)]
    show firstE _ 2 = _
    simp only [firstE, a0, a1]; simp
end Go.Proofs.Ytkhacfcknedmbaa
