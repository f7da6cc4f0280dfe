/- PinningCores answers true for every input. -/
import Derived.Test.YtnogpkaehiapfaaRows
import Derived.Test.YtnogpkaehiapfaapgN
namespace Go.Proofs.Ytnogpkaehiapfaa
set_option linter.unusedSimpArgs false
set_option linter.unusedVariables false
set_option linter.unnecessarySimpa false
open Go.Abs
theorem Try.own : ownKnob Try.prog.godebug = none := by kernel_rfl
theorem Try.laidOut : laidOutB Try.prog = true := by kernel_rfl
set_option maxRecDepth 100000 in
theorem PinningCores_lifted (os : Os) (started : os.Started) (H : Type) (enc : TypeId × Value → H) :
    ReturnsInHanded {} Try.checked os 7 .any (Rows.pinningCoresSpec.pre6 enc Try.prog Try.f7 Rows.pinningCoresRow.domain false) (Rows.pinningCoresSpec.post enc Try.prog Try.f7 false true false false) :=
  lifted_true (C := Try.checked) (shs := [(false, [.slice false [.int .i64]])]) Try.own started (by kernel_rfl) Try.func7 Try.laidOut (by kernel_rfl) rfl (by kernel_rfl : Try.prog.underlying 4 = some .bool) rfl rfl
    (fun ds h => match ds, h with | [_], _ => ⟨rfl, rfl, rfl⟩)
    (ChangeSpec.witness6 (enc := enc) (C := Try.checked) false ⟨#[], #[.slice none 0 0], []⟩ 8 (by kernel_rfl) (by kernel_rfl) (by kernel_rfl) (by kernel_rfl))
    fun xs h => by
      match xs, h with
      | [x0], h =>
        obtain ⟨nl, ts, rfl⟩ := fit_ints h.1
        exact PinningCores_call nl ts
theorem PinningCores_holds : Rows.PinningCoresSaid :=
  OpenClaim.holds_of_wide 7 Try.f7 rfl rfl rfl rfl rfl rfl rfl ⟨rfl, rfl, rfl, rfl, rfl⟩ rfl rfl rfl rfl rfl (by kernel_rfl) Try.func7 (by kernel_rfl)
    (of_decide_eq_true (by kernel_rfl)) (by unfold Func.isWrapper; first | (rw [if_pos (by decide +kernel)]; kernel_rfl) | (rw [if_neg (by decide +kernel)]; exact ⟨rfl, rfl⟩))
    (fun os started H enc _ => PinningCores_lifted os started H enc)
#print axioms PinningCores_holds
end Go.Proofs.Ytnogpkaehiapfaa
