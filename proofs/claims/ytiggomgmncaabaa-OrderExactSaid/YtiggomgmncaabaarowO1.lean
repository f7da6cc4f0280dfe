/- OrderExact answers true for every input. -/
import Derived.Test.YtiggomgmncaabaaRows
import Derived.Test.YtiggomgmncaabaaordL
namespace Go.Proofs.Ytiggomgmncaabaa
set_option linter.unusedSimpArgs false
set_option linter.unusedVariables false
set_option linter.unnecessarySimpa false
open Go.Abs
theorem Try.own : ownKnob Try.prog.godebug = none := by kernel_rfl
theorem Try.laidOut : laidOutB Try.prog = true := by kernel_rfl
theorem fit_needs {x : PV} (h : fitV false [.slice false [.slice false [.int .i64]]] x) : ∃ (nl : Bool) (ts : List NL), x = .list nl (ts.map fI) :=
  fit_lists fI (fun y hy => by
    obtain ⟨nl, t, rfl⟩ := fit_cellL pI (fun y hy => fit_cell hy) hy
    exact ⟨(nl, t), rfl⟩) h
set_option maxRecDepth 100000 in
theorem OrderExact_lifted (os : Os) (started : os.Started) (H : Type) (enc : TypeId × Value → H) :
    ReturnsInHanded {} Try.checked os 7 .any (Rows.orderExactSpec.pre6 enc Try.prog Try.f7 Rows.orderExactRow.domain false) (Rows.orderExactSpec.post enc Try.prog Try.f7 false true false false) :=
  lifted_true (C := Try.checked) (shs := [(false, [.slice false [.int .i64]]), (false, [.slice false [.slice false [.int .i64]]]), (false, [.slice false [.int .i64]])]) Try.own started (by kernel_rfl) Try.func7 Try.laidOut (by kernel_rfl) rfl (by kernel_rfl : Try.prog.underlying 4 = some .bool) rfl rfl
    (fun ds h => match ds, h with | [_, _, _], _ => ⟨rfl, rfl, rfl⟩)
    (ChangeSpec.witness6 (enc := enc) (C := Try.checked) false ⟨#[], #[.slice none 0 0, .slice none 0 0, .slice none 0 0], []⟩ 8 (by kernel_rfl) (by kernel_rfl) (by kernel_rfl) (by kernel_rfl))
    fun xs h => by
      match xs, h with
      | [x0, x1, x2], h =>
        obtain ⟨nl, ts, rfl⟩ := fit_ints h.1
        obtain ⟨n0, raw, rfl⟩ := fit_needs h.2.1
        obtain ⟨n2, items, rfl⟩ := fit_ints h.2.2.1
        exact OrderExact_call nl n0 n2 ts raw items
theorem OrderExact_holds : Rows.OrderExactSaid :=
  OpenClaim.holds_of_wide 7 Try.f7 rfl rfl rfl rfl rfl rfl rfl ⟨rfl, rfl, rfl, rfl, rfl⟩ rfl rfl rfl rfl rfl (by kernel_rfl) Try.func7 (by kernel_rfl)
    (of_decide_eq_true (by kernel_rfl)) (by unfold Func.isWrapper; first | (rw [if_pos (by decide +kernel)]; kernel_rfl) | (rw [if_neg (by decide +kernel)]; exact ⟨rfl, rfl⟩))
    (fun os started H enc _ => OrderExact_lifted os started H enc)
#print axioms OrderExact_holds
end Go.Proofs.Ytiggomgmncaabaa
