/- PinsWords answers true for every input. -/
import Derived.Test.YtcemickjholnaaaRows
import Derived.Test.Ytcemickjholnaaapin9
namespace Go.Proofs.Ytcemickjholnaaa
set_option linter.unusedSimpArgs false
set_option linter.unusedVariables false
set_option linter.unnecessarySimpa false
open Go.Abs
theorem Try.own : ownKnob Try.prog.godebug = none := by kernel_rfl
theorem Try.laidOut : laidOutB Try.prog = true := by kernel_rfl
theorem fit_str {x : PV} (h : fitV false [.str] x) : ∃ s : ByteArray, x = pS s := by
  obtain ⟨xs, h1, rfl⟩ := h
  match xs, h1 with
  | [y], h1 =>
    obtain ⟨⟨s, rfl, _⟩, _⟩ := h1
    exact ⟨s, rfl⟩
set_option maxRecDepth 100000 in
theorem PinsWords_lifted (os : Os) (started : os.Started) (H : Type) (enc : TypeId × Value → H) :
    ReturnsInHanded {} Try.checked os 5 .any (Rows.pinsWordsSpec.pre6 enc Try.prog Try.f5 Rows.pinsWordsRow.domain false) (Rows.pinsWordsSpec.post enc Try.prog Try.f5 false true false false) :=
  lifted_true (C := Try.checked) (shs := [(false, [.str]), (false, [.int .u8])]) Try.own started (by kernel_rfl) Try.func5 Try.laidOut (by kernel_rfl) rfl (by kernel_rfl : Try.prog.underlying 4 = some .bool) rfl rfl
    (fun ds h => match ds, h with | [_, _], _ => ⟨rfl, rfl, rfl⟩)
    (ChangeSpec.witness6 (enc := enc) (C := Try.checked) false ⟨#[], #[.string ⟨#[]⟩, .int .u8 0], []⟩ 8 (by kernel_rfl) (by kernel_rfl) (by kernel_rfl) (by kernel_rfl))
    fun xs h => by
      match xs, h with
      | [x0, x1], h =>
        obtain ⟨s, rfl⟩ := fit_str h.1
        obtain ⟨c, rfl, hc⟩ := fit_u8 h.2.1
        exact PinsWords_call s c hc
theorem PinsWords_holds : Rows.PinsWordsSaid :=
  OpenClaim.holds_of_wide 5 Try.f5 rfl rfl rfl rfl rfl rfl rfl ⟨rfl, rfl, rfl, rfl, rfl⟩ rfl rfl rfl rfl rfl (by kernel_rfl) Try.func5 (by kernel_rfl)
    (of_decide_eq_true (by kernel_rfl)) (by unfold Func.isWrapper; first | (rw [if_pos (by decide +kernel)]; kernel_rfl) | (rw [if_neg (by decide +kernel)]; exact ⟨rfl, rfl⟩))
    (fun os started H enc _ => PinsWords_lifted os started H enc)
#print axioms PinsWords_holds
end Go.Proofs.Ytcemickjholnaaa
