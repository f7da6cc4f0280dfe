/- IdleExact answers true for every input. -/
import Derived.Test.YtpkfbdjeldmokaaRows
import Derived.Test.YtpkfbdjeldmokaaidleK
namespace Go.Proofs.Ytpkfbdjeldmokaa
set_option linter.unusedSimpArgs false
set_option linter.unusedVariables false
set_option linter.unnecessarySimpa false
open Go.Abs
theorem Try.own : ownKnob Try.prog.godebug = none := by kernel_rfl
theorem Try.laidOut : laidOutB Try.prog = true := by kernel_rfl
theorem fit_ist (ys : List PV) (h : fitL [.int .i64, .int .i64, .int .i64] ys) : ∃ a : Ist, PV.agg ys = a.pv := by
  obtain ⟨x1, x2, x3, rfl, h1, h2, h3⟩ := fitL_three h
  obtain ⟨n, rfl⟩ := fit_cell h1
  obtain ⟨m, rfl⟩ := fit_cell h2
  obtain ⟨k, rfl⟩ := fit_cell h3
  exact ⟨⟨n, m, k⟩, rfl⟩
theorem fit_dom (ys : List PV) (h : fitL [.int .i64, .bool] ys) : ∃ a : Dom, PV.agg ys = a.pv := by
  obtain ⟨y, z, rfl, h1, h2⟩ := fitL_two h
  obtain ⟨n, rfl⟩ := fit_cell h1
  obtain ⟨b, rfl⟩ := fit_cellB h2
  exact ⟨⟨n, b⟩, rfl⟩
theorem fit_ists {x : PV} (h : fitV false [.slice true [.int .i64, .int .i64, .int .i64]] x) : ∃ (nl : Bool) (ts : List Ist), x = .list nl (ts.map Ist.pv) :=
  fit_aggs Ist.pv fit_ist h
theorem fit_doms {x : PV} (h : fitV false [.slice true [.int .i64, .bool]] x) : ∃ (nl : Bool) (ts : List Dom), x = .list nl (ts.map Dom.pv) :=
  fit_aggs Dom.pv fit_dom h
theorem fit_ils {x : PV} (h : fitV false [.slice false [.slice true [.int .i64, .int .i64, .int .i64]]] x) : ∃ (nl : Bool) (ts : List IL), x = .list nl (ts.map IL.pv) :=
  fit_lists IL.pv (fun y hy => by
    obtain ⟨nl, ts, rfl⟩ := fit_cellA Ist.pv fit_ist hy
    exact ⟨⟨nl, ts⟩, rfl⟩) h
set_option maxRecDepth 100000 in
theorem IdleExact_lifted (os : Os) (started : os.Started) (H : Type) (enc : TypeId × Value → H) :
    ReturnsInHanded {} Try.checked os 7 .any (Rows.idleExactSpec.pre6 enc Try.prog Try.f7 Rows.idleExactRow.domain false) (Rows.idleExactSpec.post enc Try.prog Try.f7 false true false false) :=
  lifted_true (C := Try.checked) (shs := [(false, [.slice false [.int .i64]]), (false, [.slice true [.int .i64, .int .i64, .int .i64]]), (false, [.slice true [.int .i64, .bool]]), (false, [.slice false [.slice true [.int .i64, .int .i64, .int .i64]]]), (false, [.slice false [.int .i64]]), (false, [.slice false [.int .i64]]), (false, [.int .i64]), (false, [.int .i64])]) Try.own started (by kernel_rfl) Try.func7 Try.laidOut (by kernel_rfl) rfl (by kernel_rfl : Try.prog.underlying 4 = some .bool) rfl rfl
    (fun ds h => match ds, h with | [_, _, _, _, _, _, _, _], _ => ⟨rfl, rfl, rfl⟩)
    (ChangeSpec.witness6 (enc := enc) (C := Try.checked) false ⟨#[], #[.slice none 0 0, .slice none 0 0, .slice none 0 0, .slice none 0 0, .slice none 0 0, .slice none 0 0, .int .i64 0, .int .i64 0], []⟩ 8 (by kernel_rfl) (by kernel_rfl) (by kernel_rfl) (by kernel_rfl))
    fun xs h => by
      match xs, h with
      | [x0, x1, x2, x3, x4, x5, x6, x7], h =>
        obtain ⟨nl, ts, rfl⟩ := fit_ints h.1
        obtain ⟨n0, raw, rfl⟩ := fit_ists h.2.1
        obtain ⟨n1, dd, rfl⟩ := fit_doms h.2.2.1
        obtain ⟨n2, odd, rfl⟩ := fit_ils h.2.2.2.1
        obtain ⟨n3, lims, rfl⟩ := fit_ints h.2.2.2.2.1
        obtain ⟨n4, fc, rfl⟩ := fit_ints h.2.2.2.2.2.1
        obtain ⟨state, rfl, _⟩ := fit_i64 h.2.2.2.2.2.2.1
        obtain ⟨span, rfl, _⟩ := fit_i64 h.2.2.2.2.2.2.2.1
        exact IdleExact_call nl n0 n1 n2 n3 n4 ts raw dd odd lims fc state span
theorem IdleExact_holds : Rows.IdleExactSaid :=
  OpenClaim.holds_of_wide 7 Try.f7 rfl rfl rfl rfl rfl rfl rfl ⟨rfl, rfl, rfl, rfl, rfl⟩ rfl rfl rfl rfl rfl (by kernel_rfl) Try.func7 (by kernel_rfl)
    (of_decide_eq_true (by kernel_rfl)) (by unfold Func.isWrapper; first | (rw [if_pos (by decide +kernel)]; kernel_rfl) | (rw [if_neg (by decide +kernel)]; exact ⟨rfl, rfl⟩))
    (fun os started H enc _ => IdleExact_lifted os started H enc)
#print axioms IdleExact_holds
end Go.Proofs.Ytpkfbdjeldmokaa
