/- For TopRefusals: part 13 of 15. -/
import Derived.Test.YtnhifaofkndclaaGreatDoorM12
set_option linter.unusedSimpArgs false
set_option linter.unusedVariables false
set_option linter.unnecessarySimpa false
set_option maxHeartbeats 8000000
namespace Go.Proofs.YtnhifaofkndclaaGreatDoor
open Go.Abs
set_option maxRecDepth 1000000
def mdR (f : FuncId) : Nat := match [77, 78, 125, 126, 130, 163, 164, 166, 167, 169, 170, 171, 172, 173, 174, 211, 216, 217, 218, 233, 235, 236, 245, 246, 250, 251, 254, 255, 256, 257, 258, 278, 279, 296, 55, 24].any (Nat.beq f) with
 | true => 0
 | false => 2
def textS : ByteArray := ⟨#[47, 32, 123, 32, 120, 32, 123, 32, 112, 32, 61, 32, 60, 49, 62, 59, 32, 125, 59, 32, 125, 59]⟩
theorem read_one : (evPair Tryz.prog ti xf 10000 mdR [] 30).1 35 [.p (pS capeS), .p (pS textS)] = some (.tup [.p ovA.pv, .p (.agg [pI 0, pI 0, pI 0]), .p (pI 0)]) := by kernel_rfl
theorem read_one_call : ACall Tryz.prog 35 [.p (pS capeS), .p (pS textS)] [] fun r H => r = .tup [.p ovA.pv, .p (.agg [pI 0, pI 0, pI 0]), .p (pI 0)] /\ H = [] := ev_acall tabOK mixed xf_ok tab_nil 30 read_one
end Go.Proofs.YtnhifaofkndclaaGreatDoor
