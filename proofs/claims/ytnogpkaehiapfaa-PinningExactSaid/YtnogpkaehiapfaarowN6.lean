/- PinningExact answers true for every input. -/
import Derived.Test.YtnogpkaehiapfaaRows
import Derived.Test.YtnogpkaehiapfaapgX
namespace Go.Proofs.Ytnogpkaehiapfaa
set_option linter.unusedSimpArgs false
set_option linter.unusedVariables false
set_option linter.unnecessarySimpa false
open Go.Abs
theorem Try.own : ownKnob Try.prog.godebug = none := by kernel_rfl
theorem Try.laidOut : laidOutB Try.prog = true := by kernel_rfl
theorem fit_cellS {x : PV} (h : Sh.str.fit x) : ∃ s : ByteArray, x = pS s := by
  obtain ⟨s, h1, _⟩ := h
  exact ⟨s, h1⟩
theorem fit_pin {x : PV} (h : fitV true [.int .i64, .slice true [.str, .slice false [.int .i64], .slice false [.str]]] x) : ∃ p : Pin, x = p.pv := by
  obtain ⟨xs, h, rfl⟩ := h
  obtain ⟨x1, x2, rfl, h1, h2⟩ := fitL_two h
  obtain ⟨n, rfl⟩ := fit_cell h1
  obtain ⟨nl, gs, rfl⟩ := fit_cellA Grp.pv (fun ys h => by
    obtain ⟨y1, y2, y3, rfl, k1, k2, k3⟩ := fitL_three h
    obtain ⟨s, rfl⟩ := fit_cellS k1
    obtain ⟨pn, ps, rfl⟩ := fit_cellL pI (fun y hy => fit_cell hy) k2
    obtain ⟨fn, fs, rfl⟩ := fit_cellL pS (fun y hy => fit_cellS hy) k3
    exact ⟨⟨s, pn, ps, fn, fs⟩, rfl⟩) h2
  exact ⟨⟨n, nl, gs⟩, rfl⟩
theorem fit_strs {x : PV} (h : fitV false [.slice false [.str]] x) : ∃ (nl : Bool) (ts : List ByteArray), x = .list nl (ts.map pS) := by
  obtain ⟨xs, h1, rfl⟩ := h
  match xs, h1 with
  | [y], h1 => exact fit_cellL pS (fun y hy => fit_cellS hy) h1.1
theorem fit_str {x : PV} (h : fitV false [.str] x) : ∃ s : ByteArray, x = pS s := by
  obtain ⟨xs, h1, rfl⟩ := h
  match xs, h1 with
  | [y], h1 => exact fit_cellS h1.1
set_option maxRecDepth 100000 in
theorem PinningExact_lifted (os : Os) (started : os.Started) (H : Type) (enc : TypeId × Value → H) :
    ReturnsInHanded {} Try.checked os 8 .any (Rows.pinningExactSpec.pre6 enc Try.prog Try.f8 Rows.pinningExactRow.domain false) (Rows.pinningExactSpec.post enc Try.prog Try.f8 false true false false) :=
  lifted_true (C := Try.checked) (shs := [(false, [.slice false [.int .i64]]), (true, [.int .i64, .slice true [.str, .slice false [.int .i64], .slice false [.str]]]), (false, [.slice false [.str]]), (false, [.slice false [.int .i64]]), (false, [.slice false [.int .i64]]), (false, [.str])]) Try.own started (by kernel_rfl) Try.func8 Try.laidOut (by kernel_rfl) rfl (by kernel_rfl : Try.prog.underlying 4 = some .bool) rfl rfl
    (fun ds h => match ds, h with | [_, _, _, _, _, _], _ => ⟨rfl, rfl, rfl⟩)
    (ChangeSpec.witness6 (enc := enc) (C := Try.checked) false ⟨#[], #[.slice none 0 0, .agg #[.int .i64 0, .slice none 0 0], .slice none 0 0, .slice none 0 0, .slice none 0 0, .string ⟨#[]⟩], []⟩ 8 (by kernel_rfl) (by kernel_rfl) (by kernel_rfl) (by kernel_rfl))
    fun xs h => by
      match xs, h with
      | [x0, x1, x2, x3, x4, x5], h =>
        obtain ⟨nl, ts, rfl⟩ := fit_ints h.1
        obtain ⟨raw, rfl⟩ := fit_pin h.2.1
        obtain ⟨no, odd, rfl⟩ := fit_strs h.2.2.1
        obtain ⟨ng, given, rfl⟩ := fit_ints h.2.2.2.1
        obtain ⟨np, proof, rfl⟩ := fit_ints h.2.2.2.2.1
        obtain ⟨name, rfl⟩ := fit_str h.2.2.2.2.2.1
        exact PinningExact_call nl no ng np ts raw odd given proof name
theorem PinningExact_holds : Rows.PinningExactSaid :=
  OpenClaim.holds_of_wide 8 Try.f8 rfl rfl rfl rfl rfl rfl rfl ⟨rfl, rfl, rfl, rfl, rfl⟩ rfl rfl rfl rfl rfl (by kernel_rfl) Try.func8 (by kernel_rfl)
    (of_decide_eq_true (by kernel_rfl)) (by unfold Func.isWrapper; first | (rw [if_pos (by decide +kernel)]; kernel_rfl) | (rw [if_neg (by decide +kernel)]; exact ⟨rfl, rfl⟩))
    (fun os started H enc _ => PinningExact_lifted os started H enc)
#print axioms PinningExact_holds
end Go.Proofs.Ytnogpkaehiapfaa
