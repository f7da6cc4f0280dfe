/- OrderChain answers true for every input. -/
import Derived.Test.YtiggomgmncaabaaRows
import Derived.Test.YtiggomgmncaabaaordZ2
namespace Go.Proofs.Ytiggomgmncaabaa
set_option linter.unusedSimpArgs false
set_option linter.unusedVariables false
set_option linter.unnecessarySimpa false
open Go.Abs
theorem Try.own : ownKnob Try.prog.godebug = none := by kernel_rfl
theorem Try.laidOut : laidOutB Try.prog = true := by kernel_rfl
set_option maxRecDepth 100000 in
theorem OrderChain_lifted (os : Os) (started : os.Started) (H : Type) (enc : TypeId × Value → H) :
    ReturnsInHanded {} Try.checked os 5 .any (Rows.orderChainSpec.pre6 enc Try.prog Try.f5 Rows.orderChainRow.domain false) (Rows.orderChainSpec.post enc Try.prog Try.f5 false true false false) :=
  lifted_true (C := Try.checked) (shs := [(false, [.int .u8])]) Try.own started (by kernel_rfl) Try.func5 Try.laidOut (by kernel_rfl) rfl (by kernel_rfl : Try.prog.underlying 4 = some .bool) rfl rfl
    (fun ds h => match ds, h with | [_], _ => ⟨rfl, rfl, rfl⟩)
    (ChangeSpec.witness6 (enc := enc) (C := Try.checked) false ⟨#[], #[.int .u8 0], []⟩ 8 (by kernel_rfl) (by kernel_rfl) (by kernel_rfl) (by kernel_rfl))
    fun xs h => by
      match xs, h with
      | [x0], h =>
        obtain ⟨n, rfl, hn⟩ := fit_u8 h.1
        exact OrderChain_call n hn
theorem OrderChain_holds : Rows.OrderChainSaid :=
  OpenClaim.holds_of_wide 5 Try.f5 rfl rfl rfl rfl rfl rfl rfl ⟨rfl, rfl, rfl, rfl, rfl⟩ rfl rfl rfl rfl rfl (by kernel_rfl) Try.func5 (by kernel_rfl)
    (of_decide_eq_true (by kernel_rfl)) (by unfold Func.isWrapper; first | (rw [if_pos (by decide +kernel)]; kernel_rfl) | (rw [if_neg (by decide +kernel)]; exact ⟨rfl, rfl⟩))
    (fun os started H enc _ => OrderChain_lifted os started H enc)
#print axioms OrderChain_holds
end Go.Proofs.Ytiggomgmncaabaa
