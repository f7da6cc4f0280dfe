/- Comparing lists. -/
import Derived.Test.Ytfeilebkiplkeaaboard3
namespace Go.Proofs.Ytfeilebkiplkeaa
set_option linter.unusedSimpArgs false
set_option linter.unusedVariables false
set_option linter.unnecessarySimpa false
open Go.Abs
set_option maxRecDepth 100000
theorem list_ne {α : Type} [DecidableEq α] {xs ys : List α} {k : Nat} (h : k < xs.length) (h' : k < ys.length) (hn : xs[k] ≠ ys[k]) : false = decide (xs = ys) :=
  (decide_eq_false fun e => hn (by subst e; rfl)).symm
theorem list_ne_len {α : Type} [DecidableEq α] {xs ys : List α} (h : (xs.length : Int) ≠ ys.length) : false = decide (xs = ys) :=
  (decide_eq_false fun e => h (by subst e; rfl)).symm
theorem take_next {α : Type} {xs ys : List α} {c : Nat} (h : c < xs.length) (h' : c < ys.length) (hn : xs.take c = ys.take c) (he : xs[c] = ys[c]) : xs.take (c + 1) = ys.take (c + 1) := by
  rw [List.take_succ_eq_append_getElem h, List.take_succ_eq_append_getElem h', hn, he]
theorem take_all {α : Type} [DecidableEq α] {xs ys : List α} {c : Nat} (h : xs.length ≤ c) (h' : ys.length ≤ c) (hn : xs.take c = ys.take c) : true = decide (xs = ys) := by
  rw [List.take_of_length_le h, List.take_of_length_le h'] at hn
  rw [decide_eq_true hn]
end Go.Proofs.Ytfeilebkiplkeaa
