/- Strings; words. -/
import Derived.Test.Ytcemickjholnaaacmp
namespace Go.Proofs.Ytcemickjholnaaa
set_option linter.unusedSimpArgs false
set_option linter.unusedVariables false
set_option linter.unnecessarySimpa false
open Go.Abs
set_option maxRecDepth 100000
instance : LawfulBEq ByteArray := { eq_of_beq := fun h => (MapKept.bytes_beq _ _).1 h, rfl := (MapKept.bytes_beq _ _).2 rfl }
def pS (s : ByteArray) : PV := .v (.string s)
/-- A byte of a string. -/
def bAt (s : ByteArray) (i : Nat) : Nat := (s.data.getD i 0).toNat
theorem get_bAt {s : ByteArray} {i : Nat} (h : i < s.size) : ∃ b : UInt8, s[i]? = some b ∧ b.toNat = bAt s i := by
  refine ⟨s.data.getD i 0, ?_, rfl⟩
  have h1 : i < s.data.size := h
  rw [getElem?_pos s i h]
  have e : s.data.getD i 0 = s.data[i] := by unfold Array.getD; rw [dif_pos h1]; rfl
  rw [e]; rfl
theorem seq_iff {a b : ByteArray} : (a.toList == b.toList) = true ↔ a = b := by
  rw [beq_iff_eq, ByteArray.toList_eq, ByteArray.toList_eq]
  constructor
  · intro h
    obtain ⟨x⟩ := a
    obtain ⟨y⟩ := b
    have : x = y := by
      have := congrArg List.toArray h
      simpa using this
    rw [this]
  · rintro rfl; rfl
theorem seq_eq (a b : ByteArray) : (a.toList == b.toList) = decide (a = b) := by
  rw [Bool.eq_iff_iff, seq_iff, decide_eq_true_iff]
theorem seq_nil (s : ByteArray) : (s.toList == (⟨#[]⟩ : ByteArray).toList) = decide (s.size = 0) := by
  rw [seq_eq]
  refine decide_eq_decide.2 ⟨fun h => by rw [h]; rfl, fun h => ?_⟩
  obtain ⟨x⟩ := s
  have : x = #[] := Array.eq_empty_of_size_eq_zero h
  rw [this]
def low (n : Nat) : Bool := decide (97 ≤ n ∧ n ≤ 122)
def chr (n : Nat) : Bool := decide (n = 45 ∨ 48 ≤ n ∧ n ≤ 57 ∨ 97 ≤ n ∧ n ≤ 122)
def wordF (s : ByteArray) : Bool := decide (0 < s.size ∧ s.size ≤ 16 ∧ low (bAt s 0) = true ∧ ∀ i, i < s.size → chr (bAt s i) = true)
theorem word_no {s : ByteArray} (h : ¬ (0 < s.size ∧ s.size ≤ 16 ∧ 97 ≤ bAt s 0 ∧ bAt s 0 ≤ 122)) : wordF s = false := by
  refine decide_eq_false fun h2 => h ⟨h2.1, h2.2.1, ?_⟩
  have := h2.2.2.1
  simpa [low] using this
theorem word_at {s : ByteArray} {i : Nat} (hi : i < s.size) (h : ¬ (bAt s i = 45 ∨ 48 ≤ bAt s i ∧ bAt s i ≤ 57 ∨ 97 ≤ bAt s i ∧ bAt s i ≤ 122)) : wordF s = false := by
  refine decide_eq_false fun h2 => h ?_
  have := h2.2.2.2 i hi
  simpa [chr] using this
/-- Kept for later: a goal of a walk's step. -/
theorem park_pin1 {P : Prop} (x : P) (_ : x = x) : P := x
/-- One step of a walk. -/
theorem go_pin1 {P : Prop} (h : P := by
  (first | ((first | apply LenA.map | apply NilA.map | apply NilA.mk); intro _) | ((first | apply NW.as | apply ValA.as); with_reducible assumption) | ((first | apply NW.i64 | apply NW.u32 | apply NW.u64 | apply NW.u8 | apply InA.nat | apply InA.map | apply AppA.snoc (f := pI) (a := _) rfl | apply AppA.one (f := pI) (a := _) rfl | apply AppA.snoc (f := pB) (a := _) rfl | apply AppA.one (f := pB) (a := _) rfl | apply AppA.map | apply AppA.nil | apply CutA.lo | apply CutA.hi); (first | omega | (simp only [lenS] at *; omega) | grind)) | ((first | (apply RemA.as; assumption) | apply RemA.self); (first | omega | (simp only [lenS] at *; omega) | grind)) | (apply ValA.as; assumption) | apply ValA.self | (apply NW.as; assumption) | (apply SzA.map; (intro _; rfl)) | with_reducible apply br_pt | with_reducible apply br_pf | with_reducible apply br_mt | with_reducible apply br_mf | apply Both.mk | ((first | apply br_T | apply br_F | apply br_mT | apply br_mF); assumption) | ((first | apply br_lss | apply br_leq | apply br_gtr | apply br_geq | apply br_dec | apply br_beq | apply br_bne | apply br_beqB | apply br_bneB | apply br_not | apply br_m | apply br_intro) <;> intro h0 <;> first | (exfalso; first | omega | exact tf h0 (by assumption) | exact tf (by assumption) h0 | exact h0 (by assumption) | exact h0 rfl | exact of_decide_eq_false h0 rfl) | skip) | refine ArrA.mk _ rfl rfl ?_ | (apply IdxA.lit; omega; exact rfl) | ((first | apply IdxA.of_nat | (apply IdxA.of_map; (first | omega | (simp only [lenS] at *; omega) | grind))); rotate_left; (first | omega | (simp only [lenS] at *; omega) | grind)) | apply AppC.own | apply CutO.part | apply IsL.set (f := pI) (a := _) rfl | apply IsL.rep (f := pI) (a := _) rfl | apply IsL.set (f := pB) (a := _) rfl | apply IsL.rep (f := pB) (a := _) rfl | apply IsL.lit (f := pI) [] rfl | apply IsL.lit (f := pB) [] rfl | (apply And.intro; (first | with_reducible rfl | (show (_ : AV) = _; rfl) | (first | omega | (simp only [lenS] at *; omega) | grind)))) <;> (solve_by_elim (newGoals := .nonDependentOnly) (symm := false) (exfalso := false) (transparency := .reducible) only [rfl, park_pin1])) : P := h
theorem Word_call (s : ByteArray) : ACall Try.prog 18 [.p (pS s)] [] fun r H => r = .p (pB (wordF s)) ∧ H = [] := by
  refine acall_enter Try.func18 rfl rfl tabOK rfl ?_
  have hE := seq_nil s
  rcases Nat.eq_zero_or_pos s.size with hz | hz
  · rw [decide_eq_true hz] at hE
    (conv => whnf); repeat' ((first | apply CondA.plain | refine' go_pin1 | (apply DrawA.quiet (by kernel_rfl) (by kernel_rfl); (conv => whnf); fail_if_success (show False))) <;> (conv => whnf))
    (refine RetK.p ?_ <;> repeat' (first | exact trivial | refine And.intro ?_ ?_ | with_reducible rfl | (refine pIEq ?_; (first | omega | (simp only [lenS] at *; omega) | grind)) | (refine bufMap ?_) | (refine bufNil ?_) | (refine bufEq ?_) | rfl); all_goals try first | refine pBEq ?_ | refine pIEq ?_)
    exact (word_no (by omega)).symm
  rw [decide_eq_false (by omega)] at hE
  rcases Nat.lt_or_ge 16 s.size with h16 | h16
  · (conv => whnf); repeat' ((first | apply CondA.plain | refine' go_pin1 | (apply DrawA.quiet (by kernel_rfl) (by kernel_rfl); (conv => whnf); fail_if_success (show False))) <;> (conv => whnf))
    (refine RetK.p ?_ <;> repeat' (first | exact trivial | refine And.intro ?_ ?_ | with_reducible rfl | (refine pIEq ?_; (first | omega | (simp only [lenS] at *; omega) | grind)) | (refine bufMap ?_) | (refine bufNil ?_) | (refine bufEq ?_) | rfl); all_goals try first | refine pBEq ?_ | refine pIEq ?_)
    exact (word_no (by omega)).symm
  obtain ⟨b0, hb0, hv0⟩ := get_bAt hz
  rcases Decidable.em (97 ≤ b0.toNat ∧ b0.toNat ≤ 122) with hl | hl
  rotate_left
  · (conv => whnf); repeat' ((first | (refine ⟨b0, Int.le_refl 0, hb0, ?_⟩) | apply CondA.plain | refine' go_pin1 | (apply DrawA.quiet (by kernel_rfl) (by kernel_rfl); (conv => whnf); fail_if_success (show False))) <;> (conv => whnf))
    all_goals
      (refine RetK.p ?_ <;> repeat' (first | exact trivial | refine And.intro ?_ ?_ | with_reducible rfl | (refine pIEq ?_; (first | omega | (simp only [lenS] at *; omega) | grind)) | (refine bufMap ?_) | (refine bufNil ?_) | (refine bufEq ?_) | rfl); all_goals try first | refine pBEq ?_ | refine pIEq ?_)
      exact (word_no (by omega)).symm
  obtain ⟨hl1, hl2⟩ := hl
  (conv => whnf); repeat' ((first | (refine ⟨b0, Int.le_refl 0, hb0, ?_⟩) | apply CondA.plain | refine' go_pin1 | (apply DrawA.quiet (by kernel_rfl) (by kernel_rfl); (conv => whnf); fail_if_success (show False))) <;> (conv => whnf))
  refine loop_rule (fun (c : Nat) => ⟨[(0, .p (pS s)), (3, .p (pI c))], []⟩) (fun (c : Nat) => 1 ≤ c ∧ c ≤ s.size ∧ ∀ i, i < c → chr (bAt s i) = true) (fun (c : Nat) => s.size - c) 1 ?_ ?_ ?_; (refine SubA.auto rfl rfl rfl rfl ?_ ?_ <;> repeat' (first | exact trivial | refine And.intro ?_ ?_ | with_reducible rfl | (refine pIEq ?_; (first | omega | (simp only [lenS] at *; omega) | grind)) | (refine bufMap ?_) | (refine bufNil ?_) | (refine bufEq ?_) | rfl))
  · refine ⟨Nat.le_refl _, hz, fun i hi => ?_⟩
    have : i = 0 := by omega
    subst this
    rw [chr, ← hv0]
    exact decide_eq_true (by omega)
  rintro c ⟨h1, hc, hall⟩
  rcases Nat.lt_or_ge c s.size with hlt | hge
  · obtain ⟨b, hb, hv⟩ := get_bAt hlt
    have hb1 : s[((c : Nat) : Int).toNat]? = some b := hb
    have hc0 : (0 : Int) ≤ (c : Nat) := Int.natCast_nonneg c
    rcases Decidable.em (bAt s c = 45 ∨ 48 ≤ bAt s c ∧ bAt s c ≤ 57 ∨ 97 ≤ bAt s c ∧ bAt s c ≤ 122) with hch | hch
    · have hcc : chr (bAt s c) = true := decide_eq_true hch
      (conv => whnf); repeat' ((first | (refine ⟨b, hc0, hb1, ?_⟩) | apply CondA.plain | refine' go_pin1 | (apply DrawA.quiet (by kernel_rfl) (by kernel_rfl); (conv => whnf); fail_if_success (show False))) <;> (conv => whnf))
      all_goals
        (refine' ⟨c + 1, _, _, _⟩; rotate_right; (refine SubA.auto rfl rfl rfl rfl ?_ ?_ <;> repeat' (first | exact trivial | refine And.intro ?_ ?_ | with_reducible rfl | (refine pIEq ?_; (first | omega | (simp only [lenS] at *; omega) | grind)) | (refine bufMap ?_) | (refine bufNil ?_) | (refine bufEq ?_) | rfl)); rotate_right; (first | omega | (simp only []; omega) | (simp; omega) | (first | omega | (simp only [lenS] at *; omega) | grind)))
        exact ⟨by omega, by omega, fun i hi => by
          rcases Nat.lt_or_ge i c with h | h
          · exact hall i h
          · have : i = c := by omega
            subst this; exact hcc⟩
    · (conv => whnf); repeat' ((first | (refine ⟨b, hc0, hb1, ?_⟩) | apply CondA.plain | refine' go_pin1 | (apply DrawA.quiet (by kernel_rfl) (by kernel_rfl); (conv => whnf); fail_if_success (show False))) <;> (conv => whnf))
      all_goals
        (refine RetK.p ?_ <;> repeat' (first | exact trivial | refine And.intro ?_ ?_ | with_reducible rfl | (refine pIEq ?_; (first | omega | (simp only [lenS] at *; omega) | grind)) | (refine bufMap ?_) | (refine bufNil ?_) | (refine bufEq ?_) | rfl); all_goals try first | refine pBEq ?_ | refine pIEq ?_)
        exact (word_at hlt hch).symm
  · have hw : wordF s = true := decide_eq_true ⟨hz, h16, by rw [low, ← hv0]; exact decide_eq_true ⟨hl1, hl2⟩, fun i hi => hall i (by omega)⟩
    (conv => whnf); repeat' ((first | apply CondA.plain | refine' go_pin1 | (apply DrawA.quiet (by kernel_rfl) (by kernel_rfl); (conv => whnf); fail_if_success (show False))) <;> (conv => whnf))
    (refine RetK.p ?_ <;> repeat' (first | exact trivial | refine And.intro ?_ ?_ | with_reducible rfl | (refine pIEq ?_; (first | omega | (simp only [lenS] at *; omega) | grind)) | (refine bufMap ?_) | (refine bufNil ?_) | (refine bufEq ?_) | rfl); all_goals try first | refine pBEq ?_ | refine pIEq ?_)
    exact hw.symm
theorem rWord_call (s : ByteArray) : ACall Try.prog 32 [.p (pS s)] [] fun r H => r = .p (pB (wordF s)) ∧ H = [] := by
  refine acall_enter Try.func32 rfl rfl tabOK rfl ?_
  rcases Nat.eq_zero_or_pos s.size with hz | hz
  · (conv => whnf); repeat' ((first | apply CondA.plain | refine' go_pin1 | (apply DrawA.quiet (by kernel_rfl) (by kernel_rfl); (conv => whnf); fail_if_success (show False))) <;> (conv => whnf))
    (refine RetK.p ?_ <;> repeat' (first | exact trivial | refine And.intro ?_ ?_ | with_reducible rfl | (refine pIEq ?_; (first | omega | (simp only [lenS] at *; omega) | grind)) | (refine bufMap ?_) | (refine bufNil ?_) | (refine bufEq ?_) | rfl); all_goals try first | refine pBEq ?_ | refine pIEq ?_)
    exact (word_no (by omega)).symm
  rcases Nat.lt_or_ge 16 s.size with h16 | h16
  · (conv => whnf); repeat' ((first | apply CondA.plain | refine' go_pin1 | (apply DrawA.quiet (by kernel_rfl) (by kernel_rfl); (conv => whnf); fail_if_success (show False))) <;> (conv => whnf))
    (refine RetK.p ?_ <;> repeat' (first | exact trivial | refine And.intro ?_ ?_ | with_reducible rfl | (refine pIEq ?_; (first | omega | (simp only [lenS] at *; omega) | grind)) | (refine bufMap ?_) | (refine bufNil ?_) | (refine bufEq ?_) | rfl); all_goals try first | refine pBEq ?_ | refine pIEq ?_)
    exact (word_no (by omega)).symm
  obtain ⟨b0, hb0, hv0⟩ := get_bAt hz
  rcases Decidable.em (97 ≤ b0.toNat ∧ b0.toNat ≤ 122) with hl | hl
  rotate_left
  · (conv => whnf); repeat' ((first | (refine ⟨b0, Int.le_refl 0, hb0, ?_⟩) | apply CondA.plain | refine' go_pin1 | (apply DrawA.quiet (by kernel_rfl) (by kernel_rfl); (conv => whnf); fail_if_success (show False))) <;> (conv => whnf))
    all_goals
      (refine RetK.p ?_ <;> repeat' (first | exact trivial | refine And.intro ?_ ?_ | with_reducible rfl | (refine pIEq ?_; (first | omega | (simp only [lenS] at *; omega) | grind)) | (refine bufMap ?_) | (refine bufNil ?_) | (refine bufEq ?_) | rfl); all_goals try first | refine pBEq ?_ | refine pIEq ?_)
      exact (word_no (by omega)).symm
  obtain ⟨hl1, hl2⟩ := hl
  (conv => whnf); repeat' ((first | (refine ⟨b0, Int.le_refl 0, hb0, ?_⟩) | apply CondA.plain | refine' go_pin1 | (apply DrawA.quiet (by kernel_rfl) (by kernel_rfl); (conv => whnf); fail_if_success (show False))) <;> (conv => whnf))
  refine loop_rule (fun (c : Nat) => ⟨[(0, .p (pS s)), (3, .p (pI c))], []⟩) (fun (c : Nat) => c ≤ s.size ∧ ∀ i, i < c → chr (bAt s i) = true) (fun (c : Nat) => s.size - c) 0 ?_ ?_ ?_; (refine SubA.auto rfl rfl rfl rfl ?_ ?_ <;> repeat' (first | exact trivial | refine And.intro ?_ ?_ | with_reducible rfl | (refine pIEq ?_; (first | omega | (simp only [lenS] at *; omega) | grind)) | (refine bufMap ?_) | (refine bufNil ?_) | (refine bufEq ?_) | rfl))
  · exact ⟨Nat.zero_le _, fun i hi => by omega⟩
  rintro c ⟨hc, hall⟩
  rcases Nat.lt_or_ge c s.size with hlt | hge
  · obtain ⟨b, hb, hv⟩ := get_bAt hlt
    have hb1 : s[((c : Nat) : Int).toNat]? = some b := hb
    have hc0 : (0 : Int) ≤ (c : Nat) := Int.natCast_nonneg c
    rcases Decidable.em (bAt s c = 45 ∨ 48 ≤ bAt s c ∧ bAt s c ≤ 57 ∨ 97 ≤ bAt s c ∧ bAt s c ≤ 122) with hch | hch
    · have hcc : chr (bAt s c) = true := decide_eq_true hch
      (conv => whnf); repeat' ((first | (refine ⟨b, hc0, hb1, ?_⟩) | apply CondA.plain | refine' go_pin1 | (apply DrawA.quiet (by kernel_rfl) (by kernel_rfl); (conv => whnf); fail_if_success (show False))) <;> (conv => whnf))
      all_goals
        (refine' ⟨c + 1, _, _, _⟩; rotate_right; (refine SubA.auto rfl rfl rfl rfl ?_ ?_ <;> repeat' (first | exact trivial | refine And.intro ?_ ?_ | with_reducible rfl | (refine pIEq ?_; (first | omega | (simp only [lenS] at *; omega) | grind)) | (refine bufMap ?_) | (refine bufNil ?_) | (refine bufEq ?_) | rfl)); rotate_right; (first | omega | (simp only []; omega) | (simp; omega) | (first | omega | (simp only [lenS] at *; omega) | grind)))
        exact ⟨by omega, fun i hi => by
          rcases Nat.lt_or_ge i c with h | h
          · exact hall i h
          · have : i = c := by omega
            subst this; exact hcc⟩
    · (conv => whnf); repeat' ((first | (refine ⟨b, hc0, hb1, ?_⟩) | apply CondA.plain | refine' go_pin1 | (apply DrawA.quiet (by kernel_rfl) (by kernel_rfl); (conv => whnf); fail_if_success (show False))) <;> (conv => whnf))
      all_goals
        (refine RetK.p ?_ <;> repeat' (first | exact trivial | refine And.intro ?_ ?_ | with_reducible rfl | (refine pIEq ?_; (first | omega | (simp only [lenS] at *; omega) | grind)) | (refine bufMap ?_) | (refine bufNil ?_) | (refine bufEq ?_) | rfl); all_goals try first | refine pBEq ?_ | refine pIEq ?_)
        exact (word_at hlt hch).symm
  · have hw : wordF s = true := decide_eq_true ⟨hz, h16, by rw [low, ← hv0]; exact decide_eq_true ⟨hl1, hl2⟩, fun i hi => hall i (by omega)⟩
    (conv => whnf); repeat' ((first | apply CondA.plain | refine' go_pin1 | (apply DrawA.quiet (by kernel_rfl) (by kernel_rfl); (conv => whnf); fail_if_success (show False))) <;> (conv => whnf))
    (refine RetK.p ?_ <;> repeat' (first | exact trivial | refine And.intro ?_ ?_ | with_reducible rfl | (refine pIEq ?_; (first | omega | (simp only [lenS] at *; omega) | grind)) | (refine bufMap ?_) | (refine bufNil ?_) | (refine bufEq ?_) | rfl); all_goals try first | refine pBEq ?_ | refine pIEq ?_)
    exact hw.symm
end Go.Proofs.Ytcemickjholnaaa
