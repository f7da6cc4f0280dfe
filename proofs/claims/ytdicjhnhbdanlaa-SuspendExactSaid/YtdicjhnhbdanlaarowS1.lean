/- SuspendExact answers true for every input. -/
import Derived.Test.YtdicjhnhbdanlaaRows
import Derived.Test.YtdicjhnhbdanlaasusD
namespace Go.Proofs.Ytdicjhnhbdanlaa
set_option linter.unusedSimpArgs false
set_option linter.unusedVariables false
set_option linter.unnecessarySimpa false
open Go.Abs
theorem Try.own : ownKnob Try.prog.godebug = none := by kernel_rfl
theorem Try.laidOut : laidOutB Try.prog = true := by kernel_rfl
theorem fit_needs {x : PV} (h : fitV false [.slice false [.slice false [.int .i64]]] x) : ∃ (nl : Bool) (ts : List NL), x = .list nl (ts.map fI) :=
  fit_lists fI (fun y hy => by
    obtain ⟨nl, t, rfl⟩ := fit_cellL pI (fun y hy => fit_cell hy) hy
    exact ⟨(nl, t), rfl⟩) h
theorem fitL_two {s t : Sh} : ∀ {ys : List PV}, fitL [s, t] ys → ∃ a b, ys = [a, b] ∧ s.fit a ∧ t.fit b
  | [a, b], h => ⟨a, b, rfl, h.1, h.2.1⟩
theorem fit_steps {x : PV} (h : fitV false [.slice true [.int .i64, .bool]] x) : ∃ (nl : Bool) (ts : List Sp), x = .list nl (ts.map Sp.pv) :=
  fit_aggs Sp.pv (fun ys h => by
    obtain ⟨y, z, rfl, h1, h2⟩ := fitL_two h
    obtain ⟨n, rfl⟩ := fit_cell h1
    obtain ⟨b, rfl⟩ := fit_cellB h2
    exact ⟨⟨n, b⟩, rfl⟩) h
set_option maxRecDepth 100000 in
theorem SuspendExact_lifted (os : Os) (started : os.Started) (H : Type) (enc : TypeId × Value → H) :
    ReturnsInHanded {} Try.checked os 4 .any (Rows.suspendExactSpec.pre6 enc Try.prog Try.f4 Rows.suspendExactRow.domain false) (Rows.suspendExactSpec.post enc Try.prog Try.f4 false true false false) :=
  lifted_true (C := Try.checked) (shs := [(false, [.slice false [.int .i64]]), (false, [.slice false [.slice false [.int .i64]]]), (false, [.slice false [.bool]]), (false, [.slice false [.bool]]), (false, [.slice false [.int .i64]]), (false, [.slice true [.int .i64, .bool]]), (false, [.int .i64])]) Try.own started (by kernel_rfl) Try.func4 Try.laidOut (by kernel_rfl) rfl (by kernel_rfl : Try.prog.underlying 4 = some .bool) rfl rfl
    (fun ds h => match ds, h with | [_, _, _, _, _, _, _], _ => ⟨rfl, rfl, rfl⟩)
    (ChangeSpec.witness6 (enc := enc) (C := Try.checked) false ⟨#[], #[.slice none 0 0, .slice none 0 0, .slice none 0 0, .slice none 0 0, .slice none 0 0, .slice none 0 0, .int .i64 0], []⟩ 8 (by kernel_rfl) (by kernel_rfl) (by kernel_rfl) (by kernel_rfl))
    fun xs h => by
      match xs, h with
      | [x0, x1, x2, x3, x4, x5, x6], h =>
        obtain ⟨nl, ts, rfl⟩ := fit_ints h.1
        obtain ⟨n0, raw, rfl⟩ := fit_needs h.2.1
        obtain ⟨no, odd, rfl⟩ := fit_bools h.2.2.1
        obtain ⟨nt, oth, rfl⟩ := fit_bools h.2.2.2.1
        obtain ⟨nw, wake, rfl⟩ := fit_ints h.2.2.2.2.1
        obtain ⟨ns, st, rfl⟩ := fit_steps h.2.2.2.2.2.1
        obtain ⟨fail, rfl, _⟩ := fit_i64 h.2.2.2.2.2.2.1
        exact SuspendExact_call nl n0 no nt nw ns ts raw odd oth wake st fail
theorem SuspendExact_holds : Rows.SuspendExactSaid :=
  OpenClaim.holds_of_wide 4 Try.f4 rfl rfl rfl rfl rfl rfl rfl ⟨rfl, rfl, rfl, rfl, rfl⟩ rfl rfl rfl rfl rfl (by kernel_rfl) Try.func4 (by kernel_rfl)
    (of_decide_eq_true (by kernel_rfl)) (by unfold Func.isWrapper; first | (rw [if_pos (by decide +kernel)]; kernel_rfl) | (rw [if_neg (by decide +kernel)]; exact ⟨rfl, rfl⟩))
    (fun os started H enc _ => SuspendExact_lifted os started H enc)
#print axioms SuspendExact_holds
end Go.Proofs.Ytdicjhnhbdanlaa
