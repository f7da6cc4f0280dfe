/- PinsLimits answers true for every input. -/
import Derived.Test.YtcemickjholnaaaRows
import Derived.Test.YtcemickjholnaaapinL
namespace Go.Proofs.Ytcemickjholnaaa
set_option linter.unusedSimpArgs false
set_option linter.unusedVariables false
set_option linter.unnecessarySimpa false
open Go.Abs
theorem Try.own : ownKnob Try.prog.godebug = none := by kernel_rfl
theorem Try.laidOut : laidOutB Try.prog = true := by kernel_rfl
set_option maxRecDepth 100000 in
theorem PinsLimits_lifted (os : Os) (started : os.Started) (H : Type) (enc : TypeId × Value → H) :
    ReturnsInHanded {} Try.checked os 4 .any (Rows.pinsLimitsSpec.pre6 enc Try.prog Try.f4 Rows.pinsLimitsRow.domain false) (Rows.pinsLimitsSpec.post enc Try.prog Try.f4 false true false false) :=
  lifted_true (C := Try.checked) (shs := [(false, [.int .u8])]) Try.own started (by kernel_rfl) Try.func4 Try.laidOut (by kernel_rfl) rfl (by kernel_rfl : Try.prog.underlying 4 = some .bool) rfl rfl
    (fun ds h => match ds, h with | [_], _ => ⟨rfl, rfl, rfl⟩)
    (ChangeSpec.witness6 (enc := enc) (C := Try.checked) false ⟨#[], #[.int .u8 0], []⟩ 8 (by kernel_rfl) (by kernel_rfl) (by kernel_rfl) (by kernel_rfl))
    fun xs h => by
      match xs, h with
      | [x0], h =>
        obtain ⟨a, rfl, ha⟩ := fit_u8 h.1
        exact PinsLimits_call a ha
theorem PinsLimits_holds : Rows.PinsLimitsSaid :=
  OpenClaim.holds_of_wide 4 Try.f4 rfl rfl rfl rfl rfl rfl rfl ⟨rfl, rfl, rfl, rfl, rfl⟩ rfl rfl rfl rfl rfl (by kernel_rfl) Try.func4 (by kernel_rfl)
    (of_decide_eq_true (by kernel_rfl)) (by unfold Func.isWrapper; first | (rw [if_pos (by decide +kernel)]; kernel_rfl) | (rw [if_neg (by decide +kernel)]; exact ⟨rfl, rfl⟩))
    (fun os started H enc _ => PinsLimits_lifted os started H enc)
#print axioms PinsLimits_holds
end Go.Proofs.Ytcemickjholnaaa
