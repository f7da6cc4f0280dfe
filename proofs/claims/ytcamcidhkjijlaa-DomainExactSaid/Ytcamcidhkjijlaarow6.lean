/- DomainExact answers true for every input. -/
import Derived.Test.YtcamcidhkjijlaaRows
import Derived.Test.Ytcamcidhkjijlaaexact
namespace Go.Proofs.Ytcamcidhkjijlaa
set_option linter.unusedSimpArgs false
set_option linter.unusedVariables false
set_option linter.unnecessarySimpa false
open Go.Abs
theorem Try.own : ownKnob Try.prog.godebug = none := by kernel_rfl
theorem Try.laidOut : laidOutB Try.prog = true := by kernel_rfl
theorem fitL_two {s t : Sh} : ∀ {ys : List PV}, fitL [s, t] ys → ∃ a b, ys = [a, b] ∧ s.fit a ∧ t.fit b
  | [a, b], h => ⟨a, b, rfl, h.1, h.2.1⟩
theorem fitL_three {s t u : Sh} : ∀ {ys : List PV}, fitL [s, t, u] ys → ∃ a b c, ys = [a, b, c] ∧ s.fit a ∧ t.fit b ∧ u.fit c
  | [a, b, c], h => ⟨a, b, c, rfl, h.1, h.2.1, h.2.2.1⟩
theorem fit_cell {k : IntKind} {x : PV} (h : (Sh.int k).fit x) : ∃ n : Int, x = .v (.int k n) := by
  obtain ⟨n, h1, _⟩ := h
  exact ⟨n, h1⟩
theorem fit_cellB {x : PV} (h : Sh.bool.fit x) : ∃ b : Bool, x = pB b := by
  obtain ⟨n, h1⟩ := h
  exact ⟨n, h1⟩
theorem fit_doms {x : PV} (h : fitV false [.slice true [.int .i64, .bool]] x) : ∃ (nl : Bool) (ts : List Dom), x = .list nl (ts.map Dom.pv) :=
  fit_aggs Dom.pv (fun ys h => by
    obtain ⟨y, z, rfl, h1, h2⟩ := fitL_two h
    obtain ⟨n, rfl⟩ := fit_cell h1
    obtain ⟨b, rfl⟩ := fit_cellB h2
    exact ⟨⟨n, b⟩, rfl⟩) h
theorem fit_wrs {x : PV} (h : fitV false [.slice true [.int .i64, .int .i64, .int .i64]] x) : ∃ (nl : Bool) (ts : List Wr), x = .list nl (ts.map Wr.pv) :=
  fit_aggs Wr.pv (fun ys h => by
    obtain ⟨x1, x2, x3, rfl, h1, h2, h3⟩ := fitL_three h
    obtain ⟨n, rfl⟩ := fit_cell h1
    obtain ⟨m, rfl⟩ := fit_cell h2
    obtain ⟨k, rfl⟩ := fit_cell h3
    exact ⟨⟨n, m, k⟩, rfl⟩) h
set_option maxRecDepth 100000 in
theorem DomainExact_lifted (os : Os) (started : os.Started) (H : Type) (enc : TypeId × Value → H) :
    ReturnsInHanded {} Try.checked os 6 .any (Rows.domainExactSpec.pre6 enc Try.prog Try.f6 Rows.domainExactRow.domain false) (Rows.domainExactSpec.post enc Try.prog Try.f6 false true false false) :=
  lifted_true (C := Try.checked) (shs := [(false, [.slice false [.int .i64]]), (false, [.slice true [.int .i64, .bool]]), (false, [.slice false [.bool]]), (false, [.slice false [.bool]]), (false, [.slice false [.int .i64]]), (false, [.slice true [.int .i64, .int .i64, .int .i64]]), (false, [.int .i64])]) Try.own started (by kernel_rfl) Try.func6 Try.laidOut (by kernel_rfl) rfl (by kernel_rfl : Try.prog.underlying 4 = some .bool) rfl rfl
    (fun ds h => match ds, h with | [_, _, _, _, _, _, _], _ => ⟨rfl, rfl, rfl⟩)
    (ChangeSpec.witness6 (enc := enc) (C := Try.checked) false ⟨#[], #[.slice none 0 0, .slice none 0 0, .slice none 0 0, .slice none 0 0, .slice none 0 0, .slice none 0 0, .int .i64 0], []⟩ 8 (by kernel_rfl) (by kernel_rfl) (by kernel_rfl) (by kernel_rfl))
    fun xs h => by
      match xs, h with
      | [x0, x1, x2, x3, x4, x5, x6], h =>
        obtain ⟨nl, ts, rfl⟩ := fit_ints h.1
        obtain ⟨n1, raw, rfl⟩ := fit_doms h.2.1
        obtain ⟨n2, odd, rfl⟩ := fit_bools h.2.2.1
        obtain ⟨n3, other, rfl⟩ := fit_bools h.2.2.2.1
        obtain ⟨n4, users, rfl⟩ := fit_ints h.2.2.2.2.1
        obtain ⟨n5, w, rfl⟩ := fit_wrs h.2.2.2.2.2.1
        obtain ⟨a, rfl, _⟩ := fit_i64 h.2.2.2.2.2.2.1
        exact DomainExact_call nl n1 n2 n3 n4 n5 ts raw odd other users w a
theorem DomainExact_holds : Rows.DomainExactSaid :=
  OpenClaim.holds_of_wide 6 Try.f6 rfl rfl rfl rfl rfl rfl rfl ⟨rfl, rfl, rfl, rfl, rfl⟩ rfl rfl rfl rfl rfl (by kernel_rfl) Try.func6 (by kernel_rfl)
    (of_decide_eq_true (by kernel_rfl)) (by unfold Func.isWrapper; first | (rw [if_pos (by decide +kernel)]; kernel_rfl) | (rw [if_neg (by decide +kernel)]; exact ⟨rfl, rfl⟩))
    (fun os started H enc _ => DomainExact_lifted os started H enc)
#print axioms DomainExact_holds
end Go.Proofs.Ytcamcidhkjijlaa
