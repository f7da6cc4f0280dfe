/- Power domains: writes, and slices.Reverse over them. -/
import Derived.Test.Ytcamcidhkjijlaadom6
namespace Go.Proofs.Ytcamcidhkjijlaa
set_option linter.unusedSimpArgs false
set_option linter.unusedVariables false
set_option linter.unnecessarySimpa false
open Go.Abs
set_option maxRecDepth 100000
structure Wr where
  kind : Int
  unit : Int
  value : Int
  deriving DecidableEq
instance : Inhabited Wr := ⟨⟨0, 0, 0⟩⟩
def Wr.pv (w : Wr) : PV := .agg [.v (.int .i64 w.kind), .v (.int .i64 w.unit), .v (.int .i64 w.value)]
/-- A list after so many swaps of its ends. -/
def revAt (ws : List Wr) (i k : Nat) : Wr := if k < i ∨ ws.length ≤ k + i then ws.getD (ws.length - 1 - k) default else ws.getD k default
def revL (ws : List Wr) (i : Nat) : List Wr := (List.range ws.length).map (revAt ws i)
theorem revL_length (ws : List Wr) (i : Nat) : (revL ws i).length = ws.length := by simp [revL]
theorem revL_zero (ws : List Wr) : revL ws 0 = ws := by
  refine List.ext_getElem (by simp [revL]) fun k h1 h2 => ?_
  simp only [revL, revAt, List.getElem_map, List.getElem_range]
  rw [if_neg (by omega)]
  simp [h2]
theorem revL_end (ws : List Wr) {i : Nat} (h : ws.length ≤ i + i + 1) : revL ws i = ws.reverse := by
  refine List.ext_getElem (by simp [revL]) fun k h1 h2 => ?_
  have hk : k < ws.length := by simpa using h2
  simp only [revL, revAt, List.getElem_map, List.getElem_range, List.getElem_reverse]
  split
  · simp [show ws.length - 1 - k < ws.length by omega]
  · have : k = ws.length - 1 - k := by omega
    simp [hk, ← this]
theorem revL_step (ws : List Wr) {i : Nat} (h : i + i + 1 < ws.length) : ((revL ws i).set i (revAt ws i (ws.length - 1 - i))).set (ws.length - 1 - i) (revAt ws i i) = revL ws (i + 1) := by
  refine List.ext_getElem (by simp [revL]) fun k h1 h2 => ?_
  have hk : k < ws.length := by simpa [revL] using h2
  rw [List.getElem_set, List.getElem_set]
  simp only [revL, revAt, List.getElem_map, List.getElem_range]
  split
  · rename_i he
    rw [if_neg (by omega), if_pos (by omega)]
    congr 1
    omega
  · split
    · rename_i he
      rw [if_neg (by omega), if_pos (by omega)]
      congr 1
      omega
    · by_cases hc : k < i ∨ ws.length ≤ k + i
      · rw [if_pos hc, if_pos (by omega)]
      · rw [if_neg hc, if_neg (by omega)]
end Go.Proofs.Ytcamcidhkjijlaa
