/- PinningDecides answers true for every input. -/
import Derived.Test.YtnogpkaehiapfaaRows
import Derived.Test.YtnogpkaehiapfaapgL
namespace Go.Proofs.Ytnogpkaehiapfaa
set_option linter.unusedSimpArgs false
set_option linter.unusedVariables false
set_option linter.unnecessarySimpa false
open Go.Abs
theorem Try.own : ownKnob Try.prog.godebug = none := by kernel_rfl
theorem Try.laidOut : laidOutB Try.prog = true := by kernel_rfl
set_option maxRecDepth 100000 in
theorem PinningDecides_lifted (os : Os) (started : os.Started) (H : Type) (enc : TypeId × Value → H) :
    ReturnsInHanded {} Try.checked os 6 .any (Rows.pinningDecidesSpec.pre6 enc Try.prog Try.f6 Rows.pinningDecidesRow.domain false) (Rows.pinningDecidesSpec.post enc Try.prog Try.f6 false true false false) :=
  lifted_true (C := Try.checked) (shs := [(false, [.slice false [.int .i64]]), (false, [.slice false [.int .i64]])]) Try.own started (by kernel_rfl) Try.func6 Try.laidOut (by kernel_rfl) rfl (by kernel_rfl : Try.prog.underlying 4 = some .bool) rfl rfl
    (fun ds h => match ds, h with | [_, _], _ => ⟨rfl, rfl, rfl⟩)
    (ChangeSpec.witness6 (enc := enc) (C := Try.checked) false ⟨#[], #[.slice none 0 0, .slice none 0 0], []⟩ 8 (by kernel_rfl) (by kernel_rfl) (by kernel_rfl) (by kernel_rfl))
    fun xs h => by
      match xs, h with
      | [x0, x1], h =>
        obtain ⟨nl, ts, rfl⟩ := fit_ints h.1
        obtain ⟨np, proof, rfl⟩ := fit_ints h.2.1
        exact PinningDecides_call nl np ts proof
theorem PinningDecides_holds : Rows.PinningDecidesSaid :=
  OpenClaim.holds_of_wide 6 Try.f6 rfl rfl rfl rfl rfl rfl rfl ⟨rfl, rfl, rfl, rfl, rfl⟩ rfl rfl rfl rfl rfl (by kernel_rfl) Try.func6 (by kernel_rfl)
    (of_decide_eq_true (by kernel_rfl)) (by unfold Func.isWrapper; first | (rw [if_pos (by decide +kernel)]; kernel_rfl) | (rw [if_neg (by decide +kernel)]; exact ⟨rfl, rfl⟩))
    (fun os started H enc _ => PinningDecides_lifted os started H enc)
#print axioms PinningDecides_holds
end Go.Proofs.Ytnogpkaehiapfaa
