/- PinsExact answers true for every input. -/
import Derived.Test.YtcemickjholnaaaRows
import Derived.Test.YtcemickjholnaaapinK
namespace Go.Proofs.Ytcemickjholnaaa
set_option linter.unusedSimpArgs false
set_option linter.unusedVariables false
set_option linter.unnecessarySimpa false
open Go.Abs
theorem Try.own : ownKnob Try.prog.godebug = none := by kernel_rfl
theorem Try.laidOut : laidOutB Try.prog = true := by kernel_rfl
theorem fit_cellS {x : PV} (h : Sh.str.fit x) : ∃ s : ByteArray, x = pS s := by
  obtain ⟨s, h1, _⟩ := h
  exact ⟨s, h1⟩
theorem fit_pin {x : PV} (h : fitV true [.int .i64, .slice true [.str, .slice false [.int .i64], .slice false [.str]]] x) : ∃ p : Pin, x = p.pv := by
  obtain ⟨xs, h, rfl⟩ := h
  obtain ⟨x1, x2, rfl, h1, h2⟩ := fitL_two h
  obtain ⟨n, rfl⟩ := fit_cell h1
  obtain ⟨nl, gs, rfl⟩ := fit_cellA Grp.pv (fun ys h => by
    obtain ⟨y1, y2, y3, rfl, k1, k2, k3⟩ := fitL_three h
    obtain ⟨s, rfl⟩ := fit_cellS k1
    obtain ⟨pn, ps, rfl⟩ := fit_cellL pI (fun y hy => fit_cell hy) k2
    obtain ⟨fn, fs, rfl⟩ := fit_cellL pS (fun y hy => fit_cellS hy) k3
    exact ⟨⟨s, pn, ps, fn, fs⟩, rfl⟩) h2
  exact ⟨⟨n, nl, gs⟩, rfl⟩
theorem fit_uses {x : PV} (h : fitV false [.slice true [.int .i64, .int .i64]] x) : ∃ (nl : Bool) (ts : List Us), x = .list nl (ts.map Us.pv) :=
  fit_aggs Us.pv (fun ys h => by
    obtain ⟨x1, x2, rfl, h1, h2⟩ := fitL_two h
    obtain ⟨n, rfl⟩ := fit_cell h1
    obtain ⟨m, rfl⟩ := fit_cell h2
    exact ⟨⟨n, m⟩, rfl⟩) h
theorem fit_str {x : PV} (h : fitV false [.str] x) : ∃ s : ByteArray, x = pS s := by
  obtain ⟨xs, h1, rfl⟩ := h
  match xs, h1 with
  | [y], h1 => exact fit_cellS h1.1
set_option maxRecDepth 100000 in
theorem PinsExact_lifted (os : Os) (started : os.Started) (H : Type) (enc : TypeId × Value → H) :
    ReturnsInHanded {} Try.checked os 6 .any (Rows.pinsExactSpec.pre6 enc Try.prog Try.f6 Rows.pinsExactRow.domain false) (Rows.pinsExactSpec.post enc Try.prog Try.f6 false true false false) :=
  lifted_true (C := Try.checked) (shs := [(false, [.slice false [.int .i64]]), (true, [.int .i64, .slice true [.str, .slice false [.int .i64], .slice false [.str]]]), (false, [.slice true [.int .i64, .int .i64]]), (false, [.str]), (false, [.int .i64]), (false, [.int .i64])]) Try.own started (by kernel_rfl) Try.func6 Try.laidOut (by kernel_rfl) rfl (by kernel_rfl : Try.prog.underlying 4 = some .bool) rfl rfl
    (fun ds h => match ds, h with | [_, _, _, _, _, _], _ => ⟨rfl, rfl, rfl⟩)
    (ChangeSpec.witness6 (enc := enc) (C := Try.checked) false ⟨#[], #[.slice none 0 0, .agg #[.int .i64 0, .slice none 0 0], .slice none 0 0, .string ⟨#[]⟩, .int .i64 0, .int .i64 0], []⟩ 8 (by kernel_rfl) (by kernel_rfl) (by kernel_rfl) (by kernel_rfl))
    fun xs h => by
      match xs, h with
      | [x0, x1, x2, x3, x4, x5], h =>
        obtain ⟨nl, ts, rfl⟩ := fit_ints h.1
        obtain ⟨raw, rfl⟩ := fit_pin h.2.1
        obtain ⟨nu, odd, rfl⟩ := fit_uses h.2.2.1
        obtain ⟨name, rfl⟩ := fit_str h.2.2.2.1
        obtain ⟨a, rfl, _⟩ := fit_i64 h.2.2.2.2.1
        obtain ⟨b, rfl, _⟩ := fit_i64 h.2.2.2.2.2.1
        exact PinsExact_call nl nu ts raw odd name a b
theorem PinsExact_holds : Rows.PinsExactSaid :=
  OpenClaim.holds_of_wide 6 Try.f6 rfl rfl rfl rfl rfl rfl rfl ⟨rfl, rfl, rfl, rfl, rfl⟩ rfl rfl rfl rfl rfl (by kernel_rfl) Try.func6 (by kernel_rfl)
    (of_decide_eq_true (by kernel_rfl)) (by unfold Func.isWrapper; first | (rw [if_pos (by decide +kernel)]; kernel_rfl) | (rw [if_neg (by decide +kernel)]; exact ⟨rfl, rfl⟩))
    (fun os started H enc _ => PinsExact_lifted os started H enc)
#print axioms PinsExact_holds
end Go.Proofs.Ytcemickjholnaaa
