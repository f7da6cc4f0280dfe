/- ResetExact answers true for every input. -/
import Derived.Test.YtnafamlphnnmhaaRows
import Derived.Test.YtnafamlphnnmhaarsK
namespace Go.Proofs.Ytnafamlphnnmhaa
set_option linter.unusedSimpArgs false
set_option linter.unusedVariables false
set_option linter.unnecessarySimpa false
open Go.Abs
theorem Try.own : ownKnob Try.prog.godebug = none := by kernel_rfl
theorem Try.laidOut : laidOutB Try.prog = true := by kernel_rfl
theorem fitL_one {s : Sh} : ∀ {ys : List PV}, fitL [s] ys → ∃ a, ys = [a] ∧ s.fit a
  | [a], h => ⟨a, rfl, h.1⟩
theorem fit_rsts {x : PV} (h : fitV false [.slice true [.slice false [.int .i64]]] x) : ∃ (nl : Bool) (ts : List Rst), x = .list nl (ts.map Rst.pv) :=
  fit_aggs Rst.pv (fun ys h => by
    obtain ⟨x1, rfl, h1⟩ := fitL_one h
    obtain ⟨nl, t, rfl⟩ := fit_cellL pI (fun y hy => fit_cell hy) h1
    exact ⟨⟨nl, t⟩, rfl⟩) h
theorem fit_wrs {x : PV} (h : fitV false [.slice true [.int .i64, .int .i64, .int .i64]] x) : ∃ (nl : Bool) (ts : List Wr), x = .list nl (ts.map Wr.pv) :=
  fit_aggs Wr.pv (fun ys h => by
    obtain ⟨x1, x2, x3, rfl, h1, h2, h3⟩ := fitL_three h
    obtain ⟨n, rfl⟩ := fit_cell h1
    obtain ⟨m, rfl⟩ := fit_cell h2
    obtain ⟨k, rfl⟩ := fit_cell h3
    exact ⟨⟨n, m, k⟩, rfl⟩) h
set_option maxRecDepth 100000 in
theorem ResetExact_lifted (os : Os) (started : os.Started) (H : Type) (enc : TypeId × Value → H) :
    ReturnsInHanded {} Try.checked os 8 .any (Rows.resetExactSpec.pre6 enc Try.prog Try.f8 Rows.resetExactRow.domain false) (Rows.resetExactSpec.post enc Try.prog Try.f8 false true false false) :=
  lifted_true (C := Try.checked) (shs := [(false, [.slice false [.int .i64]]), (false, [.slice true [.slice false [.int .i64]]]), (false, [.slice false [.bool]]), (false, [.slice false [.bool]]), (false, [.slice true [.int .i64, .int .i64, .int .i64]]), (false, [.slice false [.int .i64]]), (false, [.int .i64])]) Try.own started (by kernel_rfl) Try.func8 Try.laidOut (by kernel_rfl) rfl (by kernel_rfl : Try.prog.underlying 4 = some .bool) rfl rfl
    (fun ds h => match ds, h with | [_, _, _, _, _, _, _], _ => ⟨rfl, rfl, rfl⟩)
    (ChangeSpec.witness6 (enc := enc) (C := Try.checked) false ⟨#[], #[.slice none 0 0, .slice none 0 0, .slice none 0 0, .slice none 0 0, .slice none 0 0, .slice none 0 0, .int .i64 0], []⟩ 8 (by kernel_rfl) (by kernel_rfl) (by kernel_rfl) (by kernel_rfl))
    fun xs h => by
      match xs, h with
      | [x0, x1, x2, x3, x4, x5, x6], h =>
        obtain ⟨nl, ts, rfl⟩ := fit_ints h.1
        obtain ⟨n0, raw, rfl⟩ := fit_rsts h.2.1
        obtain ⟨no, odd, rfl⟩ := fit_bools h.2.2.1
        obtain ⟨nt, oth, rfl⟩ := fit_bools h.2.2.2.1
        obtain ⟨nw, w, rfl⟩ := fit_wrs h.2.2.2.2.1
        obtain ⟨nn, lines, rfl⟩ := fit_ints h.2.2.2.2.2.1
        obtain ⟨line, rfl, _⟩ := fit_i64 h.2.2.2.2.2.2.1
        exact ResetExact_call nl n0 no nt nw nn ts raw odd oth w lines line
theorem ResetExact_holds : Rows.ResetExactSaid :=
  OpenClaim.holds_of_wide 8 Try.f8 rfl rfl rfl rfl rfl rfl rfl ⟨rfl, rfl, rfl, rfl, rfl⟩ rfl rfl rfl rfl rfl (by kernel_rfl) Try.func8 (by kernel_rfl)
    (of_decide_eq_true (by kernel_rfl)) (by unfold Func.isWrapper; first | (rw [if_pos (by decide +kernel)]; kernel_rfl) | (rw [if_neg (by decide +kernel)]; exact ⟨rfl, rfl⟩))
    (fun os started H enc _ => ResetExact_lifted os started H enc)
#print axioms ResetExact_holds
end Go.Proofs.Ytnafamlphnnmhaa
