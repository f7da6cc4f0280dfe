/- BusExact answers true for every input. -/
import Derived.Test.YtdaggbjphopohaaRows
import Derived.Test.YtdaggbjphopohaabusE
namespace Go.Proofs.Ytdaggbjphopohaa
set_option linter.unusedSimpArgs false
set_option linter.unusedVariables false
set_option linter.unnecessarySimpa false
open Go.Abs
theorem Try.own : ownKnob Try.prog.godebug = none := by kernel_rfl
theorem Try.laidOut : laidOutB Try.prog = true := by kernel_rfl
theorem fitL_five {s t u v w : Sh} : ∀ {ys : List PV}, fitL [s, t, u, v, w] ys → ∃ a b c d e, ys = [a, b, c, d, e] ∧ s.fit a ∧ t.fit b ∧ u.fit c ∧ v.fit d ∧ w.fit e
  | [a, b, c, d, e], h => ⟨a, b, c, d, e, rfl, h.1, h.2.1, h.2.2.1, h.2.2.2.1, h.2.2.2.2.1⟩
theorem fit_slots {x : PV} (h : fitV false [.slice true [.int .i64, .int .i64, .int .i64, .int .i64, .int .i64]] x) : ∃ (nl : Bool) (ts : List Slot), x = .list nl (ts.map Slot.pv) :=
  fit_aggs Slot.pv (fun ys h => by
    obtain ⟨x1, x2, x3, x4, x5, rfl, h1, h2, h3, h4, h5⟩ := fitL_five h
    obtain ⟨n1, rfl⟩ := fit_cell h1
    obtain ⟨n2, rfl⟩ := fit_cell h2
    obtain ⟨n3, rfl⟩ := fit_cell h3
    obtain ⟨n4, rfl⟩ := fit_cell h4
    obtain ⟨n5, rfl⟩ := fit_cell h5
    exact ⟨⟨n1, n2, n3, n4, n5⟩, rfl⟩) h
theorem fit_wrs {x : PV} (h : fitV false [.slice true [.int .i64, .int .i64, .int .i64]] x) : ∃ (nl : Bool) (ts : List Wr), x = .list nl (ts.map Wr.pv) :=
  fit_aggs Wr.pv (fun ys h => by
    obtain ⟨x1, x2, x3, rfl, h1, h2, h3⟩ := fitL_three h
    obtain ⟨n, rfl⟩ := fit_cell h1
    obtain ⟨m, rfl⟩ := fit_cell h2
    obtain ⟨k, rfl⟩ := fit_cell h3
    exact ⟨⟨n, m, k⟩, rfl⟩) h
theorem fit_bus {x : PV} (h : fitV true [.slice false [.int .i64], .int .i64, .slice false [.int .i64]] x) : ∃ (o1 o2 : Bool) (b : Bus), x = busV o1 o2 b.regs b.tried b.fails := by
  obtain ⟨xs, h, rfl⟩ := h
  obtain ⟨x1, x2, x3, rfl, h1, h2, h3⟩ := fitL_three h
  obtain ⟨n1, t1, rfl⟩ := fit_cellL pI (fun y hy => fit_cell hy) h1
  obtain ⟨m, rfl⟩ := fit_cell h2
  obtain ⟨n2, t2, rfl⟩ := fit_cellL pI (fun y hy => fit_cell hy) h3
  exact ⟨n1, n2, ⟨t1, m, t2⟩, rfl⟩
set_option maxRecDepth 100000 in
theorem BusExact_lifted (os : Os) (started : os.Started) (H : Type) (enc : TypeId × Value → H) :
    ReturnsInHanded {} Try.checked os 7 .any (Rows.busExactSpec.pre6 enc Try.prog Try.f7 Rows.busExactRow.domain false) (Rows.busExactSpec.post enc Try.prog Try.f7 false true false false) :=
  lifted_true (C := Try.checked) (shs := [(false, [.slice false [.int .i64]]), (false, [.slice true [.int .i64, .int .i64, .int .i64, .int .i64, .int .i64]]), (true, [.slice false [.int .i64], .int .i64, .slice false [.int .i64]]), (false, [.slice true [.int .i64, .int .i64, .int .i64]])]) Try.own started (by kernel_rfl) Try.func7 Try.laidOut (by kernel_rfl) rfl (by kernel_rfl : Try.prog.underlying 4 = some .bool) rfl rfl
    (fun ds h => match ds, h with | [_, _, _, _], _ => ⟨rfl, rfl, rfl⟩)
    (ChangeSpec.witness6 (enc := enc) (C := Try.checked) false ⟨#[], #[.slice none 0 0, .slice none 0 0, .agg #[.slice none 0 0, .int .i64 0, .slice none 0 0], .slice none 0 0], []⟩ 8 (by kernel_rfl) (by kernel_rfl) (by kernel_rfl) (by kernel_rfl))
    fun xs h => by
      match xs, h with
      | [x0, x1, x2, x3], h =>
        obtain ⟨nl, ts, rfl⟩ := fit_ints h.1
        obtain ⟨n0, raw, rfl⟩ := fit_slots h.2.1
        obtain ⟨o1, o2, od, rfl⟩ := fit_bus h.2.2.1
        obtain ⟨n9, w, rfl⟩ := fit_wrs h.2.2.2.1
        exact BusExact_call nl n0 o1 o2 n9 ts raw od w
theorem BusExact_holds : Rows.BusExactSaid :=
  OpenClaim.holds_of_wide 7 Try.f7 rfl rfl rfl rfl rfl rfl rfl ⟨rfl, rfl, rfl, rfl, rfl⟩ rfl rfl rfl rfl rfl (by kernel_rfl) Try.func7 (by kernel_rfl)
    (of_decide_eq_true (by kernel_rfl)) (by unfold Func.isWrapper; first | (rw [if_pos (by decide +kernel)]; kernel_rfl) | (rw [if_neg (by decide +kernel)]; exact ⟨rfl, rfl⟩))
    (fun os started H enc _ => BusExact_lifted os started H enc)
#print axioms BusExact_holds
end Go.Proofs.Ytdaggbjphopohaa
