/- PinningMoves answers true for every input. -/
import Derived.Test.YtnogpkaehiapfaaRows
import Derived.Test.YtnogpkaehiapfaapgJ
namespace Go.Proofs.Ytnogpkaehiapfaa
set_option linter.unusedSimpArgs false
set_option linter.unusedVariables false
set_option linter.unnecessarySimpa false
open Go.Abs
theorem Try.own : ownKnob Try.prog.godebug = none := by kernel_rfl
theorem Try.laidOut : laidOutB Try.prog = true := by kernel_rfl
set_option maxRecDepth 100000 in
theorem PinningMoves_lifted (os : Os) (started : os.Started) (H : Type) (enc : TypeId × Value → H) :
    ReturnsInHanded {} Try.checked os 5 .any (Rows.pinningMovesSpec.pre6 enc Try.prog Try.f5 Rows.pinningMovesRow.domain false) (Rows.pinningMovesSpec.post enc Try.prog Try.f5 false true false false) :=
  lifted_true (C := Try.checked) (shs := [(false, [.slice false [.int .i64]]), (false, [.int .u8]), (false, [.int .u8])]) Try.own started (by kernel_rfl) Try.func5 Try.laidOut (by kernel_rfl) rfl (by kernel_rfl : Try.prog.underlying 4 = some .bool) rfl rfl
    (fun ds h => match ds, h with | [_, _, _], _ => ⟨rfl, rfl, rfl⟩)
    (ChangeSpec.witness6 (enc := enc) (C := Try.checked) false ⟨#[], #[.slice none 0 0, .int .u8 0, .int .u8 0], []⟩ 8 (by kernel_rfl) (by kernel_rfl) (by kernel_rfl) (by kernel_rfl))
    fun xs h => by
      match xs, h with
      | [x0, x1, x2], h =>
        obtain ⟨nl, ts, rfl⟩ := fit_ints h.1
        obtain ⟨a, rfl, ha⟩ := fit_u8 h.2.1
        obtain ⟨b, rfl, hb⟩ := fit_u8 h.2.2.1
        exact PinningMoves_call nl ts a b ha hb
theorem PinningMoves_holds : Rows.PinningMovesSaid :=
  OpenClaim.holds_of_wide 5 Try.f5 rfl rfl rfl rfl rfl rfl rfl ⟨rfl, rfl, rfl, rfl, rfl⟩ rfl rfl rfl rfl rfl (by kernel_rfl) Try.func5 (by kernel_rfl)
    (of_decide_eq_true (by kernel_rfl)) (by unfold Func.isWrapper; first | (rw [if_pos (by decide +kernel)]; kernel_rfl) | (rw [if_neg (by decide +kernel)]; exact ⟨rfl, rfl⟩))
    (fun os started H enc _ => PinningMoves_lifted os started H enc)
#print axioms PinningMoves_holds
end Go.Proofs.Ytnogpkaehiapfaa
