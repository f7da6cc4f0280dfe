/- Reset lines: plans; plain words. -/
import Derived.Test.Ytnafamlphnnmhaars8
namespace Go.Proofs.Ytnafamlphnnmhaa
set_option linter.unusedSimpArgs false
set_option linter.unusedVariables false
set_option linter.unnecessarySimpa false
open Go.Abs
set_option maxRecDepth 100000
def offP (a b : List Bool) (i : Nat) : Bool := a.getD i false && !b.getD i false
def planL (a b : List Bool) (n : Nat) : List Wr := ((List.range n).reverse.filter (offP a b)).map asW ++ ((List.range n).filter (offP b a)).map relW
def planE (l : List Rst) (a b : List Bool) : Int := if rstOk l = 0 then if Clo l a ∧ Clo l b then 0 else 41 else 1
def planR (l : List Rst) (a b : List Bool) : List Wr := if planE l a b = 0 then planL a b l.length else []
theorem plan_ok {l : List Rst} {a b : List Bool} (hv : rstOk l = 0) (ha : Clo l a) (hb : Clo l b) : planE l a b = 0 ∧ planR l a b = planL a b l.length := by
  have e : planE l a b = 0 := by rw [planE, if_pos hv, if_pos ⟨ha, hb⟩]
  exact ⟨e, by rw [planR, e, if_pos rfl]⟩
theorem plan_no {l : List Rst} {a b : List Bool} (hv : rstOk l = 0) (h : ¬ (Clo l a ∧ Clo l b)) : planE l a b = 41 ∧ planR l a b = [] := by
  have e : planE l a b = 41 := by rw [planE, if_pos hv, if_neg h]
  exact ⟨e, by rw [planR, e]; rfl⟩
theorem plan_bad {l : List Rst} {a b : List Bool} (hv : rstOk l ≠ 0) : planE l a b = 1 ∧ planR l a b = [] := by
  have e : planE l a b = 1 := by rw [planE, if_neg hv]
  exact ⟨e, by rw [planR, e]; rfl⟩
end Go.Proofs.Ytnafamlphnnmhaa
